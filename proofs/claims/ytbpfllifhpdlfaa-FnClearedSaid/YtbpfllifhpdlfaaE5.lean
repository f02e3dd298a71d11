/- How the memory of an abstract run turns: a new object, an object that turns; and what loads and stores do to the machine's world. -/
import Derived.Test.YtbpfllifhpdlfaaE4
namespace Go.Proofs.Ytbpfllifhpdlfaa.Ev
open Go
set_option linter.unusedVariables false
set_option linter.unusedSimpArgs false

/-- The context with one object put. -/
def Ctx.put (X : Ctx) (w' : World) (o : Nat) (ob : AObj) (l : Loc) : Ctx := { X with w := w', objs := X.objs.put o ob, φ := fun i => if i = o then l else X.φ i }
theorem Ctx.put_φ_same (X : Ctx) (w' : World) (o : Nat) (ob : AObj) (l : Loc) : (X.put w' o ob l).φ o = l := by simp [Ctx.put]
theorem Ctx.put_φ_ne (X : Ctx) (w' : World) (o : Nat) (ob : AObj) (l : Loc) {i : Nat} (h : i ≠ o) : (X.put w' o ob l).φ i = X.φ i := by simp [Ctx.put, h]

theorem ObjR.evo {X X' : Ctx} (h : Evo X X') {l : Loc} {ob : AObj} (r : ObjR X l ob)
    (hb : (match ob with | .box _ _ => True | .row _ _ _ _ => l.nil = false | _ => False) → X'.w.heap[l.blk]? = X.w.heap[l.blk]?) : ObjR X' l ob := by
  cases ob with
  | box T a =>
    obtain ⟨h1, ⟨cs, te, h2, h3⟩, h4⟩ := r
    have e := hb trivial
    refine ⟨h1, ⟨cs, te, by rw [e]; exact h2, h3⟩, ?_⟩
    rw [mem_of_block e]
    exact h4.evo h
  | row v m T xs =>
    obtain ⟨h1, h2, h3⟩ := r
    refine ⟨h1, h2, fun hn => ?_⟩
    obtain ⟨⟨cs, te, h4, h5⟩, h6, h7⟩ := h3 hn
    have e := hb hn
    refine ⟨⟨cs, te, by rw [e]; exact h4, h5⟩, h6, fun i hi => ?_⟩
    rw [mem_of_block e]
    exact Rep.evo h (h7 i hi)
  | imm v m T xs => exact ⟨r.1, Rep.evo h r.2⟩

/-- The block that an object would have for its own. -/
def AObj.own (l : Loc) (b : Nat) : AObj → Prop
  | .box _ _ => b = l.blk
  | .row _ _ _ _ => l.nil = false ∧ b = l.blk
  | .imm _ _ _ _ => False
theorem own_put_same {X : Ctx} {w' : World} {o b : Nat} {ob : AObj} {l : Loc} (h : Own (X.put w' o ob l).objs (X.put w' o ob l).φ o b) :
    ob.own l b := by
  unfold Own at h
  have e : (X.put w' o ob l).objs o = some ob := Objs.put_same _ _ _
  rw [e, Ctx.put_φ_same] at h
  cases ob <;> exact h
theorem own_put_ne {X : Ctx} {w' : World} {o o' b : Nat} {ob : AObj} {l : Loc} (hne : o' ≠ o) : Own (X.put w' o ob l).objs (X.put w' o ob l).φ o' b ↔ Own X.objs X.φ o' b := by
  unfold Own
  have e : (X.put w' o ob l).objs o' = X.objs o' := Objs.put_ne _ _ _ hne
  rw [e, Ctx.put_φ_ne _ _ _ _ _ hne]

/-- What a step may do to the world: what is not the given object's stays. -/
structure Turns (X : Ctx) (w' : World) (mine : Bs) : Prop where
  os : w'.os = X.w.os
  tape : w'.tape = X.w.tape
  output : w'.output = X.w.output
  size : X.w.heap.size ≤ w'.heap.size
  block : ∀ k, k < X.w.heap.size → ¬ mine k → w'.heap[k]? = X.w.heap[k]?

/-- A block that nobody owns or reads yet, and that was made since the call began. -/
structure Fresh (E : Fix) (X : Ctx) (w' : World) (b : Nat) : Prop where
  own : ∀ o, ¬ Own X.objs X.φ o b
  j : ¬ X.J b
  lt : b < w'.heap.size
  ge : E.w0.heap.size ≤ b
theorem Fits.fresh {E : Fix} {X : Ctx} (F : Fits E X) {w' : World} {b : Nat} (h : X.w.heap.size ≤ b ∧ b < w'.heap.size) : Fresh E X w' b :=
  ⟨fun o ho => by have := (F.ownw o b ho).1; omega, fun hj => by have := F.jlt b hj; omega, h.2, by have := F.keep.size; omega⟩
/-- An object is put: a new one, or one that turns. -/
theorem Fits.put {E : Fix} {X : Ctx} (F : Fits E X) {w' : World} {o : Nat} {ob : AObj} {l : Loc} {mine : Bs}
    (hw : Turns X w' mine) (hm : ∀ b, mine b → Own X.objs X.φ o b)
    (hc : ∀ ob0, X.objs o = some ob0 → ObC (X.φ o) l ob0 (some ob))
    (hown : ∀ b, ob.own l b → Own X.objs X.φ o b ∨ Fresh E X w' b)
    (hrn : ∀ v m T xs, ob = .row v m T xs → l.nil = false → E.w0.heap.size ≤ l.blk)
    (hobj : Evo X (X.put w' o ob l) → ObjR (X.put w' o ob l) l ob) : Fits E (X.put w' o ob l) ∧ Evo X (X.put w' o ob l) := by
  have hev : Evo X (X.put w' o ob l) := by
    refine ⟨fun b hb => ?_, fun _ h => h, fun _ h => h, F.ij, fun o' ob' ho' => ?_⟩
    · exact hw.block b (F.jlt b hb) (fun hk => F.ownJ o b (hm b hk) hb)
    · by_cases e : o' = o
      · subst e
        have e1 : (X.put w' o' ob l).objs o' = some ob := Objs.put_same _ _ _
        rw [e1, Ctx.put_φ_same]
        exact hc ob' ho'
      · have e1 : (X.put w' o ob l).objs o' = X.objs o' := Objs.put_ne _ _ _ e
        rw [e1, Ctx.put_φ_ne _ _ _ _ _ e, ho']
        cases ob' with
        | box T a => exact ⟨rfl, rfl⟩
        | row v m T xs => exact ⟨rfl, Nat.le_refl _, fun _ => rfl⟩
        | imm v m T xs => exact ⟨rfl, Nat.le_refl _, fun _ => rfl⟩
  refine ⟨⟨?_, ?_, ?_, ?_, ?_, ?_, F.ij, ?_, F.i0, F.iw, F.j0, F.jw⟩, hev⟩
  · refine ⟨hw.os.trans F.keep.os, hw.tape.trans F.keep.tape, hw.output.trans F.keep.output, Nat.le_trans F.keep.size hw.size, fun k hk hs => ?_⟩
    refine (hw.block k (Nat.lt_of_lt_of_le hk F.keep.size) (fun hmk => ?_)).trans (F.keep.block k hk hs)
    rcases (F.ownw o k (hm k hmk)).2 with h | h
    · omega
    · exact hs h
  · intro o' ob' ho'
    by_cases e : o' = o
    · subst e
      have e1 : (X.put w' o' ob l).objs o' = some ob := Objs.put_same _ _ _
      rw [e1] at ho'
      injection ho' with ho'
      subst ho'
      rw [Ctx.put_φ_same]
      exact hobj hev
    · have e1 : (X.put w' o ob l).objs o' = X.objs o' := Objs.put_ne _ _ _ e
      rw [e1] at ho'
      rw [Ctx.put_φ_ne _ _ _ _ _ e]
      refine ObjR.evo hev (F.objs o' ob' ho') (fun hb => ?_)
      have hown' : Own X.objs X.φ o' (X.φ o').blk := by
        unfold Own
        rw [ho']
        cases ob' with
        | box T a => rfl
        | row v m T xs => exact ⟨hb, rfl⟩
        | imm v m T xs => exact hb.elim
      exact hw.block _ (F.ownw o' _ hown').1 (fun hk => e (F.dist o' o _ hown' (hm _ hk)))
  · intro o1 o2 b h1 h2
    by_cases e1 : o1 = o
    · by_cases e2 : o2 = o
      · rw [e1, e2]
      · subst e1
        rw [own_put_ne e2] at h2
        rcases hown b (own_put_same h1) with h | h
        · exact absurd (F.dist _ _ _ h2 h) e2
        · exact absurd h2 (h.own _)
    · by_cases e2 : o2 = o
      · subst e2
        rw [own_put_ne e1] at h1
        rcases hown b (own_put_same h2) with h | h
        · exact absurd (F.dist _ _ _ h1 h) e1
        · exact absurd h1 (h.own _)
      · rw [own_put_ne e1] at h1
        rw [own_put_ne e2] at h2
        exact F.dist _ _ _ h1 h2
  · intro o1 b h1
    by_cases e1 : o1 = o
    · subst e1
      rcases hown b (own_put_same h1) with h | h
      · exact F.ownJ _ _ h
      · exact h.j
    · rw [own_put_ne e1] at h1
      exact F.ownJ _ _ h1
  · intro o1 b h1
    have hsz : (X.put w' o ob l).w.heap.size = w'.heap.size := rfl
    by_cases e1 : o1 = o
    · subst e1
      rcases hown b (own_put_same h1) with h | h
      · have := F.ownw _ _ h
        exact ⟨by rw [hsz]; have := hw.size; omega, this.2⟩
      · exact ⟨h.lt, .inl h.ge⟩
    · rw [own_put_ne e1] at h1
      have := F.ownw _ _ h1
      exact ⟨by rw [hsz]; have := hw.size; omega, this.2⟩
  · intro o1 v m T xs h1
    by_cases e1 : o1 = o
    · subst e1
      have e2 : (X.put w' o1 ob l).objs o1 = some ob := Objs.put_same _ _ _
      rw [e2] at h1
      rw [Ctx.put_φ_same]
      exact hrn v m T xs (Option.some.inj h1)
    · have e2 : (X.put w' o ob l).objs o1 = X.objs o1 := Objs.put_ne _ _ _ e1
      rw [e2] at h1
      rw [Ctx.put_φ_ne _ _ _ _ _ e1]
      exact F.rown o1 v m T xs h1
  · intro b hb
    exact Nat.lt_of_lt_of_le (F.jlt b hb) hw.size

theorem Evo.refl {X : Ctx} (hij : ∀ b, X.I b → X.J b) : Evo X X := by
  refine ⟨fun _ _ => rfl, fun _ h => h, fun _ h => h, hij, fun o ob ho => ?_⟩
  rw [ho]
  cases ob with
  | box T a => exact ⟨rfl, rfl⟩
  | row v m T xs => exact ⟨rfl, Nat.le_refl _, fun _ => rfl⟩
  | imm v m T xs => exact ⟨rfl, Nat.le_refl _, fun _ => rfl⟩
theorem Evo.trans {X Y Z : Ctx} (h : Evo X Y) (k : Evo Y Z) : Evo X Z := by
  refine ⟨h.agree.trans (k.agree.mono h.j), fun b hb => k.i b (h.i b hb), fun b hb => k.j b (h.j b hb), h.ij, fun o ob ho => ?_⟩
  have h1 := h.obj o ob ho
  cases ho2 : Y.objs o with
  | none => rw [ho2] at h1; cases ob <;> exact h1.elim
  | some ob2 =>
    have h2 := k.obj o ob2 ho2
    rw [ho2] at h1
    cases ho3 : Z.objs o with
    | none => rw [ho3] at h2; cases ob2 <;> exact h2.elim
    | some ob3 =>
      rw [ho3] at h2
      cases ob with
      | box T a =>
        cases ob2 with
        | box T2 a2 =>
          cases ob3 with
          | box T3 a3 => exact ⟨h2.1.trans h1.1, h2.2.trans h1.2⟩
          | _ => exact h2.elim
        | _ => exact h1.elim
      | row v m T xs =>
        cases ob2 with
        | box T2 a2 => exact h1.elim
        | row v2 m2 T2 xs2 =>
          cases ob3 with
          | box T3 a3 => exact h2.elim
          | row v3 m3 T3 xs3 => exact ⟨h2.1.trans h1.1, Nat.le_trans h1.2.1 h2.2.1, fun e => by
              have e1 : v = v2 := Nat.le_antisymm h1.2.1 (by have := h2.2.1; omega)
              exact (h2.2.2 (e1.symm.trans e)).trans (h1.2.2 e1)⟩
          | imm v3 m3 T3 xs3 => exact ⟨h2.1.trans h1.1, Nat.le_trans h1.2.1 h2.2.1, fun e => by
              have e1 : v = v2 := Nat.le_antisymm h1.2.1 (by have := h2.2.1; omega)
              exact (h2.2.2 (e1.symm.trans e)).trans (h1.2.2 e1)⟩
        | imm v2 m2 T2 xs2 =>
          cases ob3 with
          | box T3 a3 => exact h2.elim
          | row v3 m3 T3 xs3 => exact h2.elim
          | imm v3 m3 T3 xs3 => exact ⟨h2.1.trans h1.1, Nat.le_trans h1.2.1 h2.2.1, fun e => by
              have e1 : v = v2 := Nat.le_antisymm h1.2.1 (by have := h2.2.1; omega)
              exact (h2.2.2 (e1.symm.trans e)).trans (h1.2.2 e1)⟩
      | imm v m T xs =>
        cases ob2 with
        | box T2 a2 => exact h1.elim
        | row v2 m2 T2 xs2 => exact h1.elim
        | imm v2 m2 T2 xs2 =>
          cases ob3 with
          | box T3 a3 => exact h2.elim
          | row v3 m3 T3 xs3 => exact h2.elim
          | imm v3 m3 T3 xs3 => exact ⟨h2.1.trans h1.1, Nat.le_trans h1.2.1 h2.2.1, fun e => by
              have e1 : v = v2 := Nat.le_antisymm h1.2.1 (by have := h2.2.1; omega)
              exact (h2.2.2 (e1.symm.trans e)).trans (h1.2.2 e1)⟩

/-- Some orders were drawn: nothing else has turned. -/
theorem Fits.same {E : Fix} {X : Ctx} (F : Fits E X) {w' : World} (h1 : w'.os = X.w.os) (h2 : w'.tape = X.w.tape) (h3 : w'.output = X.w.output) (h4 : w'.heap = X.w.heap) :
    Fits E { X with w := w' } ∧ Evo X { X with w := w' } := by
  have hev : Evo X { X with w := w' } := by
    refine ⟨fun b _ => by show w'.heap[b]? = _; rw [h4], fun _ h => h, fun _ h => h, F.ij, fun o ob ho => ?_⟩
    show ObC _ _ ob (X.objs o)
    rw [ho]
    cases ob with
    | box T a => exact ⟨rfl, rfl⟩
    | row v m T xs => exact ⟨rfl, Nat.le_refl _, fun _ => rfl⟩
    | imm v m T xs => exact ⟨rfl, Nat.le_refl _, fun _ => rfl⟩
  refine ⟨⟨?_, fun o ob ho => ?_, F.dist, F.ownJ, fun o b h => ?_, F.rown, F.ij, fun b hb => ?_, F.i0, F.iw, F.j0, F.jw⟩, hev⟩
  · refine ⟨h1.trans F.keep.os, h2.trans F.keep.tape, h3.trans F.keep.output, ?_, fun k hk hs => ?_⟩
    · show _ ≤ w'.heap.size; rw [h4]; exact F.keep.size
    · show w'.heap[k]? = _; rw [h4]; exact F.keep.block k hk hs
  · exact ObjR.evo hev (F.objs o ob ho) (fun _ => by show w'.heap[_]? = _; rw [h4])
  · have := F.ownw o b h
    refine ⟨?_, this.2⟩
    show b < w'.heap.size
    rw [h4]; exact this.1
  · show b < w'.heap.size
    rw [h4]; exact F.jlt b hb

/-! ### Loads and stores -/
theorem okCell_sl (l : Loc) : okCell l.sl := by unfold Loc.sl; split <;> trivial
theorem AVR.okc {X : Ctx} : ∀ {a : AV} {T : Ty} {c : Cs}, AVR X a c → a.fits T = true → a.cur X.objs = true → ∀ j, j < a.sz → ∃ v, c j = some v ∧ okCell v := by
  intro a
  induction a with
  | undef => intro T c r f; cases T <;> simp [AV.fits] at f
  | pv m T x => intro T' c r f _; exact Rep.cells r
  | nilv => intro T c r f _ j hj; obtain rfl : j = 0 := by simp [AV.sz] at hj; exact hj
            exact ⟨_, r, trivial⟩
  | row o v =>
    intro T c r f hc j hj
    obtain rfl : j = 0 := by simp [AV.sz] at hj; exact hj
    simp only [AVR] at r
    simp only [AV.cur] at hc
    cases ho : X.objs o with
    | none => simp [ho] at r
    | some ob =>
      rw [ho] at r hc
      cases ob with
      | box T a => exact r.elim
      | row v' m T xs => exact ⟨_, r.2 (Nat.eq_of_beq_eq_true hc), okCell_sl _⟩
      | imm v' m T xs => exact ⟨_, r.2 (Nat.eq_of_beq_eq_true hc), okCell_sl _⟩
  | bptr o p =>
    intro T c r f hc j hj
    obtain rfl : j = 0 := by simp [AV.sz] at hj; exact hj
    simp only [AVR] at r
    simp only [AV.cur] at hc
    cases ho : X.objs o with
    | none => simp [ho] at r
    | some ob =>
      rw [ho] at r hc
      cases ob with
      | box T a =>
        dsimp only at r hc
        cases hp : Ty.at p T with
        | none => simp [hp] at hc
        | some q => obtain ⟨off, T'⟩ := q; exact ⟨_, r.2 off T' hp, trivial⟩
      | row v' m T xs => exact r.elim
      | imm v' m T xs => exact r.elim
  | rptr o v i p =>
    intro T c r f hc j hj
    obtain rfl : j = 0 := by simp [AV.sz] at hj; exact hj
    simp only [AVR] at r
    simp only [AV.cur] at hc
    cases ho : X.objs o with
    | none => simp [ho] at r
    | some ob =>
      rw [ho] at r hc
      cases ob with
      | box T a => exact r.elim
      | row v' m T xs =>
        simp only [Bool.and_eq_true] at hc
        have e := Nat.eq_of_beq_eq_true hc.1
        subst e
        dsimp only at r
        cases hp : Ty.at p T with
        | none => simp [hp] at hc
        | some q => obtain ⟨off, T'⟩ := q; exact ⟨_, (r.2 rfl).2.2 off T' hp, trivial⟩
      | imm v' m T xs => simp at hc
  | pp m T x =>
    intro T' c r f _ j hj
    obtain rfl : j = 0 := by simp [AV.sz] at hj; exact hj
    obtain ⟨b, off, h, _⟩ := r
    exact ⟨_, h, trivial⟩
  | fn g os =>
    intro T c r f _ j hj
    obtain rfl : j = 0 := by simp [AV.sz] at hj; exact hj
    exact ⟨_, r.1, trivial⟩
  | unit => intro T c r f _ j hj; simp [AV.sz] at hj
  | pair a b iha ihb =>
    intro T c r f hc j hj
    cases T with
    | pair A B =>
      simp only [AV.fits, Bool.and_eq_true] at f
      simp only [AV.cur, Bool.and_eq_true] at hc
      by_cases h : j < a.sz
      · exact iha r.1 f.1 hc.1 j h
      · obtain ⟨v, hv, ok⟩ := ihb r.2 f.2 hc.2 (j - a.sz) (by simp only [AV.sz] at hj; omega)
        refine ⟨v, ?_, ok⟩
        have e : a.sz + (j - a.sz) = j := by omega
        rw [shift, e] at hv
        exact hv
    | _ => simp [AV.fits] at f
  | tnil => intro T c r f; cases T <;> simp [AV.fits] at f
  | tcons a b => intro T c r f; cases T <;> simp [AV.fits] at f
end Go.Proofs.Ytbpfllifhpdlfaa.Ev
