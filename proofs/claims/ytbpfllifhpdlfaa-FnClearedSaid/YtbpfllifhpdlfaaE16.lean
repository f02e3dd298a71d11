/- What a call hands back, when it is done. -/
import Derived.Test.YtbpfllifhpdlfaaE15
namespace Go.Proofs.Ytbpfllifhpdlfaa.Ev
open Go
set_option linter.unusedVariables false
set_option linter.unusedSimpArgs false

/-- One result, as its type says; and the objects that go to the caller. -/
def finR : (r : RTy) → AV → Objs → Option (r.ty.D × List Nat × Objs)
  | .pure T, a, ob => match purify T ob a with
    | some (p, ob') => if unlent p.1 T = true then some (p.2, [], ob') else none
    | none => none
  | .own e, a, ob => match a with
    | .nilv => some ([], [], ob)
    | .row o v => match ob o with
      | some (.row v' m T xs) => if h : T = e then (if Nat.beq v v' = true ∧ unlent m T = true then some (h ▸ xs, [o], ob) else none) else none
      | _ => none
    | _ => none
  | .box T, a, ob => match a with
    | .bptr o [] => match ob o with
      | some (.box T' b) => if T' = T then (match purify T ob b with
        | some (p, ob') => if unlent p.1 T = true then some (p.2, [o], ob') else none
        | none => none) else none
      | _ => none
    | _ => none
  | .unit, a, ob => match a with
    | .unit => some ((), [], ob)
    | .pv _ .unit _ => some ((), [], ob)
    | _ => none
  | .pair p q, a, ob => match a with
    | .pair a b => match finR p a ob with
      | some (x, us, ob1) => match finR q b ob1 with
        | some (y, vs, ob2) => some ((x, y), us ++ vs, ob2)
        | none => none
      | none => none
    | _ => none
def finT : (rs : List RTy) → AV → Objs → Option ((tysOf rs).D × List Nat × Objs)
  | [], .tnil, ob => some ((), [], ob)
  | r :: rs, .tcons a b, ob => match finR r a ob with
    | some (x, us, ob1) => match finT rs b ob1 with
      | some (y, vs, ob2) => some ((x, y), us ++ vs, ob2)
      | none => none
    | none => none
  | _, _, _ => none
def finO : (o : Outs) → AV → Objs → Option (o.ty.D × List Nat × Objs)
  | .one r, a, ob => finR r a ob
  | .many rs, a, ob => finT rs a ob
/-- What the variables that were handed over hold now: they are objects n, n + 1, .. -/
def finM : (ps : List Par) → Nat → Objs → Option ((mutsTy ps).D × Objs)
  | [], _, ob => some ((), ob)
  | .lent _ :: ps, n, ob => finM ps n ob
  | .leak _ :: ps, n, ob => finM ps n ob
  | .mbox T :: ps, n, ob => match ob n with
    | some (.box T' a) => if T' = T then (match purify T ob a with
      | some (p, ob1) => if unlent p.1 T = true then (match finM ps (n + 1) ob1 with
        | some (y, ob2) => some ((p.2, y), ob2)
        | none => none) else none
      | none => none) else none
    | _ => none
def mCount : List Par → Nat
  | [] => 0
  | .mbox _ :: ps => mCount ps + 1
  | _ :: ps => mCount ps
/-- The objects that go to the caller are still the call's own, and none was lent. -/
def ownsB (n : Nat) (ob : Objs) (us : List Nat) : Bool := nodupB us && us.all fun o => !Nat.blt o n && match ob o with
  | some (.row _ _ _ _) => true
  | some (.box _ _) => true
  | _ => false
def fin (sg : Sig) (a : AV) (ob : Objs) : Option (sg.outs.ty.D × (mutsTy sg.ps).D) :=
  match finO sg.outs a ob with
  | some (x, us, ob1) => match finM sg.ps 0 ob1 with
    | some (y, ob2) => if ownsB (mCount sg.ps) ob2 us = true then some (x, y) else none
    | none => none
  | none => none

section
variable {P : Program} {E : Fix} {X : Ctx}

/-- A result, told by the objects that it hands over. -/
def ResX (X : Ctx) : (r : RTy) → r.ty.D → Cs → List Nat → Prop
  | .pure T, x, c, us => Rep X.w X.I T x c ∧ us = []
  | .own e, xs, c, us => (c 0 = some (.slice none 0 0) ∧ xs = [] ∧ us = []) ∨ ∃ o v m, us = [o] ∧ X.objs o = some (.row v m e xs) ∧ unlent m e = true ∧ c 0 = some (X.φ o).sl
  | .box T, x, c, us => ∃ o a, us = [o] ∧ X.objs o = some (.box T a) ∧ c 0 = some (.pointer (some ⟨(X.φ o).blk, 0, none⟩)) ∧ Rep X.w X.I T x (mem X.w (X.φ o).blk 0)
  | .unit, _, _, us => us = []
  | .pair a b, x, c, us => ∃ u1 u2, us = u1 ++ u2 ∧ ResX X a x.1 c u1 ∧ ResX X b x.2 (shift c a.sz) u2
def LiveAll (ob : Objs) (us : List Nat) : Prop := ∀ o, o ∈ us → (∃ v m T xs, ob o = some (.row v m T xs)) ∨ ∃ T a, ob o = some (.box T a)
theorem ResX.tame {X X' : Ctx} (h : Tame X X') : ∀ {r : RTy} {x : r.ty.D} {c : Cs} {us : List Nat}, LiveAll X'.objs us → ResX X r x c us → ResX X' r x c us := by
  intro r
  induction r with
  | pure T =>
    intro x c us _ k
    refine ⟨?_, k.2⟩
    exact Rep.evo (m := false) h.evo k.1
  | own e =>
    intro x c us hl k
    rcases k with k | ⟨o, v, m, k1, k2, k3, k4⟩
    · exact .inl k
    · right
      subst k1
      have hc := h.evo.obj o _ k2
      rcases h.row o v m e x k2 with h1 | ⟨h1, _⟩
      · exact ⟨o, v, m, rfl, h1, k3, by rw [h.φ]; exact k4⟩
      · rcases hl o (by simp) with ⟨v', m', T', xs', h2⟩ | ⟨T', a', h2⟩
        · rw [h1] at h2; cases h2
        · rw [h1] at h2; cases h2
  | box T =>
    intro x c us hl k
    obtain ⟨o, a, k1, k2, k3, k4⟩ := k
    refine ⟨o, a, k1, h.box o T a k2, by rw [h.φ]; exact k3, ?_⟩
    rw [h.w, h.φ]
    exact k4.mono h.evo.i
  | unit => intro x c us _ k; exact k
  | pair a b iha ihb =>
    intro x c us hl k
    obtain ⟨u1, u2, rfl, k1, k2⟩ := k
    exact ⟨u1, u2, rfl, iha (fun o ho => hl o (by simp [ho])) k1, ihb (fun o ho => hl o (by simp [ho])) k2⟩

theorem LiveAll.tame {X X' : Ctx} (h : Tame X X') {us : List Nat} (k : LiveAll X'.objs us) : (∀ o, o ∈ us → ∃ ob, X.objs o = some ob) → LiveAll X.objs us := by
  intro hex o ho
  obtain ⟨ob, hob⟩ := hex o ho
  cases ob with
  | box T a => exact .inr ⟨T, a, hob⟩
  | row v m T xs => exact .inl ⟨v, m, T, xs, hob⟩
  | imm v m T xs =>
    have := h.imm o v m T xs hob
    rcases k o ho with ⟨_, _, _, _, h2⟩ | ⟨_, _, h2⟩ <;> (rw [this] at h2; cases h2)
theorem ResX.ex {X : Ctx} : ∀ {r : RTy} {x : r.ty.D} {c : Cs} {us : List Nat}, ResX X r x c us → ∀ o, o ∈ us → ∃ ob, X.objs o = some ob := by
  intro r
  induction r with
  | pure T => intro x c us k o ho; rw [k.2] at ho; exact absurd ho (by simp)
  | own e =>
    intro x c us k o ho
    rcases k with ⟨_, _, k⟩ | ⟨o', v, m, k1, k2, _⟩
    · rw [k] at ho; exact absurd ho (by simp)
    · rw [k1] at ho; simp at ho; subst ho; exact ⟨_, k2⟩
  | box T =>
    intro x c us k o ho
    obtain ⟨o', a, k1, k2, _⟩ := k
    rw [k1] at ho; simp at ho; subst ho; exact ⟨_, k2⟩
  | unit => intro x c us k o ho; rw [show us = [] from k] at ho; exact absurd ho (by simp)
  | pair a b iha ihb =>
    intro x c us k o ho
    obtain ⟨u1, u2, rfl, k1, k2⟩ := k
    rcases List.mem_append.1 ho with h | h
    · exact iha k1 o h
    · exact ihb k2 o h

theorem finR_ok : ∀ {r : RTy} {X : Ctx} {a : AV} {c : Cs} {x : r.ty.D} {us : List Nat} {ob' : Objs}, Fits E X → AVR X a c → finR r a X.objs = some (x, us, ob') →
    ∃ X', X'.objs = ob' ∧ Fits E X' ∧ Tame X X' ∧ a.sz = r.sz ∧ a.isAgg = r.isAgg ∧ (LiveAll ob' us → ResX X' r x c us) ∧ ∀ o, o ∈ us → ∃ ob, X'.objs o = some ob := by
  intro r
  induction r with
  | pure T =>
    intro X a c x us ob' F r h
    simp only [finR] at h
    split at h
    · rename_i p ob1 hp
      split at h
      · rename_i hu
        simp only [Option.some.injEq, Prod.mk.injEq] at h
        obtain ⟨rfl, rfl, rfl⟩ := h
        obtain ⟨X', o1, F1, t1, r1, s1, g1⟩ := purify_ok F r hp
        exact ⟨X', o1, F1, t1, s1, g1, fun _ => ⟨unlent_ok hu r1, rfl⟩, fun o ho => absurd ho (by simp)⟩
      · exact absurd h (by simp)
    · exact absurd h (by simp)
  | own e =>
    intro X a c x us ob' F r h
    simp only [finR] at h
    split at h
    · simp only [Option.some.injEq, Prod.mk.injEq] at h
      obtain ⟨rfl, rfl, rfl⟩ := h
      exact ⟨X, rfl, F, Tame.refl F.ij, rfl, rfl, fun _ => .inl ⟨r, rfl, rfl⟩, fun o ho => absurd ho (by simp)⟩
    · rename_i o v
      split at h
      · rename_i v' m T xs ho
        split at h
        · rename_i hT
          subst hT
          split at h
          · rename_i hc
            obtain ⟨hv, hu⟩ := hc
            obtain rfl := Nat.eq_of_beq_eq_true hv
            simp only [Option.some.injEq, Prod.mk.injEq] at h
            obtain ⟨rfl, rfl, rfl⟩ := h
            simp only [AVR, ho] at r
            exact ⟨X, rfl, F, Tame.refl F.ij, rfl, rfl, fun _ => .inr ⟨o, v, m, rfl, ho, hu, r.2 trivial⟩, fun o' ho' => by simp at ho'; subst ho'; exact ⟨_, ho⟩⟩
          · exact absurd h (by simp)
        · exact absurd h (by simp)
      · exact absurd h (by simp)
    · exact absurd h (by simp)
  | box T =>
    intro X a c x us ob' F r h
    simp only [finR] at h
    split at h
    · rename_i o
      split at h
      · rename_i T' b ho
        split at h
        · rename_i hT
          subst hT
          split at h
          · rename_i p ob1 hp
            split at h
            · rename_i hu
              simp only [Option.some.injEq, Prod.mk.injEq] at h
              obtain ⟨rfl, rfl, rfl⟩ := h
              obtain ⟨hf, hm⟩ := box_mem F ho
              obtain ⟨X', o1, F1, t1, r1, s1, g1⟩ := purify_ok F hm hp
              simp only [AVR, ho] at r
              refine ⟨X', o1, F1, t1, rfl, rfl, fun _ => ⟨o, b, rfl, t1.box o T' b ho, by rw [t1.φ]; exact r.2 0 T' rfl, ?_⟩, fun o' ho' => by simp at ho'; subst ho'; exact ⟨_, t1.box _ _ _ ho⟩⟩
              have := unlent_ok hu r1
              rw [t1.φ]
              rw [t1.w] at this ⊢
              exact this
            · exact absurd h (by simp)
          · exact absurd h (by simp)
        · exact absurd h (by simp)
      · exact absurd h (by simp)
    · exact absurd h (by simp)
  | unit =>
    intro X a c x us ob' F r h
    simp only [finR] at h
    split at h
    · simp only [Option.some.injEq, Prod.mk.injEq] at h
      obtain ⟨_, rfl, rfl⟩ := h
      exact ⟨X, rfl, F, Tame.refl F.ij, rfl, rfl, fun _ => rfl, fun o ho => absurd ho (by simp)⟩
    · simp only [Option.some.injEq, Prod.mk.injEq] at h
      obtain ⟨_, rfl, rfl⟩ := h
      exact ⟨X, rfl, F, Tame.refl F.ij, rfl, rfl, fun _ => rfl, fun o ho => absurd ho (by simp)⟩
    · exact absurd h (by simp)
  | pair p q ihp ihq =>
    intro X a c x us ob' F r h
    simp only [finR] at h
    split at h
    · rename_i a b
      split at h
      · rename_i y us1 ob1 h1
        split at h
        · rename_i z us2 ob2 h2
          simp only [Option.some.injEq, Prod.mk.injEq] at h
          obtain ⟨rfl, rfl, rfl⟩ := h
          obtain ⟨X1, o1, F1, t1, s1, g1, k1, e1⟩ := ihp F r.1 h1
          subst o1
          obtain ⟨X2, o2, F2, t2, s2, g2, k2, e2⟩ := ihq F1 (r.2.evo t1.evo) h2
          subst o2
          have hex : ∀ o, o ∈ us1 → ∃ ob, X2.objs o = some ob := fun o ho => by
            obtain ⟨ob, hob⟩ := e1 o ho
            cases ob with
            | box T a => exact ⟨_, t2.box _ _ _ hob⟩
            | row v m T xs => rcases t2.row _ _ _ _ _ hob with h | ⟨h, _⟩ <;> exact ⟨_, h⟩
            | imm v m T xs => exact ⟨_, t2.imm _ _ _ _ _ hob⟩
          refine ⟨X2, rfl, F2, t1.trans t2, by simp [AV.sz, RTy.sz, s1, s2], rfl, fun hl => ⟨us1, us2, rfl, ?_, ?_⟩, fun o ho => ?_⟩
          · have hl1 : LiveAll X2.objs us1 := fun o ho => hl o (by simp [ho])
            exact (k1 (hl1.tame t2 e1)).tame t2 hl1
          · rw [← s1]; exact k2 (fun o ho => hl o (by simp [ho]))
          · rcases List.mem_append.1 ho with h | h
            · exact hex o h
            · exact e2 o h
        · exact absurd h (by simp)
      · exact absurd h (by simp)
    · exact absurd h (by simp)
def TupX (X : Ctx) : (rs : List RTy) → (tysOf rs).D → List Value → List Nat → Prop
  | [], _, vs, us => vs = [] ∧ us = []
  | r :: rs, x, vs, us => ∃ v s u1 u2, vs = v :: s ∧ us = u1 ++ u2 ∧ (Value.isAgg v = r.isAgg ∧ v.cells.size = r.sz ∧ ResX X r x.1 (cv v) u1) ∧ TupX X rs x.2 s u2
theorem TupX.tame {X X' : Ctx} (h : Tame X X') : ∀ {rs : List RTy} {x : (tysOf rs).D} {vs : List Value} {us : List Nat}, LiveAll X'.objs us → TupX X rs x vs us → TupX X' rs x vs us := by
  intro rs
  induction rs with
  | nil => intro x vs us _ k; exact k
  | cons r rs ih =>
    intro x vs us hl k
    obtain ⟨v, s, u1, u2, e1, e2, k1, k2⟩ := k
    subst e2
    exact ⟨v, s, u1, u2, e1, rfl, ⟨k1.1, k1.2.1, k1.2.2.tame h (fun o ho => hl o (by simp [ho]))⟩, ih (fun o ho => hl o (by simp [ho])) k2⟩
theorem finT_ok : ∀ {rs : List RTy} {X : Ctx} {a : AV} {vs : List Value} {x : (tysOf rs).D} {us : List Nat} {ob' : Objs}, Fits E X → TupR X a vs → finT rs a X.objs = some (x, us, ob') →
    ∃ X', X'.objs = ob' ∧ Fits E X' ∧ Tame X X' ∧ (LiveAll ob' us → TupX X' rs x vs us) ∧ ∀ o, o ∈ us → ∃ ob, X'.objs o = some ob := by
  intro rs
  induction rs with
  | nil =>
    intro X a vs x us ob' F r h
    cases a with
    | tnil =>
      simp only [finT, Option.some.injEq, Prod.mk.injEq] at h
      obtain ⟨_, rfl, rfl⟩ := h
      exact ⟨X, rfl, F, Tame.refl F.ij, fun _ => ⟨r, rfl⟩, fun o ho => absurd ho (by simp)⟩
    | _ => simp [finT] at h
  | cons t rs ih =>
    intro X a vs x us ob' F r h
    cases a with
    | tcons a b =>
      simp only [finT] at h
      split at h
      · rename_i y us1 ob1 h1
        split at h
        · rename_i z us2 ob2 h2
          simp only [Option.some.injEq, Prod.mk.injEq] at h
          obtain ⟨rfl, rfl, rfl⟩ := h
          obtain ⟨v, s, rfl, hv, hs⟩ := r
          obtain ⟨X1, o1, F1, t1, s1, g1, k1, e1⟩ := finR_ok F hv.2.2 h1
          subst o1
          obtain ⟨X2, o2, F2, t2, k2, e2⟩ := ih F1 (hs.evo t1.evo) h2
          subst o2
          have hex : ∀ o, o ∈ us1 → ∃ ob, X2.objs o = some ob := fun o ho => by
            obtain ⟨ob, hob⟩ := e1 o ho
            cases ob with
            | box T a => exact ⟨_, t2.box _ _ _ hob⟩
            | row v m T xs => rcases t2.row _ _ _ _ _ hob with h | ⟨h, _⟩ <;> exact ⟨_, h⟩
            | imm v m T xs => exact ⟨_, t2.imm _ _ _ _ _ hob⟩
          refine ⟨X2, rfl, F2, t1.trans t2, fun hl => ⟨v, s, us1, us2, rfl, rfl, ⟨hv.1.trans g1, hv.2.1.trans s1, ?_⟩, k2 (fun o ho => hl o (by simp [ho]))⟩, fun o ho => ?_⟩
          · have hl1 : LiveAll X2.objs us1 := fun o ho => hl o (by simp [ho])
            exact (k1 (hl1.tame t2 e1)).tame t2 hl1
          · rcases List.mem_append.1 ho with h | h
            · exact hex o h
            · exact e2 o h
        · exact absurd h (by simp)
      · exact absurd h (by simp)
    | _ => simp [finT] at h
def OutX (X : Ctx) : (o : Outs) → o.ty.D → Value → List Nat → Prop
  | .one r, x, v, us => Value.isAgg v = r.isAgg ∧ v.cells.size = r.sz ∧ ResX X r x (cv v) us
  | .many rs, x, v, us => ∃ vs, v = .tuple vs ∧ TupX X rs x vs.toList us
theorem finO_ok {o : Outs} {a : AV} {v : Value} {x : o.ty.D} {us : List Nat} {ob' : Objs} (F : Fits E X) (hv : SlotR X a v) (h : finO o a X.objs = some (x, us, ob')) :
    ∃ X', X'.objs = ob' ∧ Fits E X' ∧ Tame X X' ∧ (LiveAll ob' us → OutX X' o x v us) ∧ ∀ o, o ∈ us → ∃ ob, X'.objs o = some ob := by
  cases o with
  | one r =>
    simp only [finO] at h
    have hval : ValR X a v := by
      cases a with
      | undef => cases r with
        | pure T => cases T <;> simp [finR, purify, AV.pureAs] at h
        | _ => simp [finR] at h
      | tnil => cases r with
        | pure T => cases T <;> simp [finR, purify, AV.pureAs] at h
        | _ => simp [finR] at h
      | tcons y z => cases r with
        | pure T => cases T <;> simp [finR, purify, AV.pureAs] at h
        | _ => simp [finR] at h
      | _ => exact hv
    obtain ⟨X', o1, F1, t1, s1, g1, k1, e1⟩ := finR_ok F hval.2.2 h
    exact ⟨X', o1, F1, t1, fun hl => ⟨hval.1.trans g1, hval.2.1.trans s1, k1 hl⟩, e1⟩
  | many rs =>
    simp only [finO] at h
    cases a with
    | tnil =>
      obtain ⟨vs, rfl, ht⟩ := hv
      obtain ⟨X', o1, F1, t1, k1, e1⟩ := finT_ok F ht h
      exact ⟨X', o1, F1, t1, fun hl => ⟨vs, rfl, k1 hl⟩, e1⟩
    | tcons y z =>
      obtain ⟨vs, rfl, ht⟩ := hv
      obtain ⟨X', o1, F1, t1, k1, e1⟩ := finT_ok F ht h
      exact ⟨X', o1, F1, t1, fun hl => ⟨vs, rfl, k1 hl⟩, e1⟩
    | _ => cases rs <;> simp [finT] at h
theorem OutX.tame {X X' : Ctx} (h : Tame X X') {o : Outs} {x : o.ty.D} {v : Value} {us : List Nat} (hl : LiveAll X'.objs us) (k : OutX X o x v us) : OutX X' o x v us := by
  cases o with
  | one r => exact ⟨k.1, k.2.1, k.2.2.tame h hl⟩
  | many rs => obtain ⟨vs, e, k⟩ := k; exact ⟨vs, e, k.tame h hl⟩

/-- The variables that were handed over are objects n, n + 1, .. -/
def MB (X : Ctx) : List Par → Nat → List Nat → Prop
  | [], _, bs => bs = []
  | .lent _ :: ps, n, bs => MB X ps n bs
  | .leak _ :: ps, n, bs => MB X ps n bs
  | .mbox T :: ps, n, bs => ∃ b r, bs = b :: r ∧ (X.φ n).blk = b ∧ (∃ a, X.objs n = some (.box T a)) ∧ MB X ps (n + 1) r
theorem evo_boxφ {X X' : Ctx} (h : Evo X X') {o : Nat} {T : Ty} {a : AV} (ho : X.objs o = some (.box T a)) : X'.φ o = X.φ o := by
  have k := h.obj o _ ho
  cases h' : X'.objs o with
  | none => rw [h'] at k; exact k.elim
  | some ob0 =>
    rw [h'] at k
    cases ob0 with
    | box T2 a2 => exact k.2
    | row _ _ _ _ => exact k.elim
    | imm _ _ _ _ => exact k.elim
theorem MB.evo {X X' : Ctx} (h : Evo X X') : ∀ (ps : List Par) (n : Nat) (bs : List Nat), MB X ps n bs → MB X' ps n bs := by
  intro ps
  induction ps with
  | nil => intro n bs k; exact k
  | cons p ps ih =>
    intro n bs k
    cases p with
    | lent T => exact ih n bs k
    | leak T => exact ih n bs k
    | mbox T =>
      obtain ⟨b, r, e, h1, ⟨a, h2⟩, h3⟩ := k
      exact ⟨b, r, e, by rw [evo_boxφ h h2]; exact h1, evo_box h h2, ih (n + 1) r h3⟩
theorem MB.at_ : ∀ (ps : List Par) (n : Nat) (bs : List Nat), MB X ps n bs → ∀ b, b ∈ bs → ∃ o T a, n ≤ o ∧ o < n + mCount ps ∧ (X.φ o).blk = b ∧ X.objs o = some (.box T a) := by
  intro ps
  induction ps with
  | nil => intro n bs k b hb; rw [show bs = [] from k] at hb; exact absurd hb (by simp)
  | cons p ps ih =>
    intro n bs k b hb
    cases p with
    | lent T => exact ih n bs k b hb
    | leak T => exact ih n bs k b hb
    | mbox T =>
      obtain ⟨b0, r, e, h1, ⟨a, h2⟩, h3⟩ := k
      subst e
      rcases List.mem_cons.1 hb with e | e
      · subst e; exact ⟨n, T, a, Nat.le_refl _, by simp only [mCount]; omega, h1, h2⟩
      · obtain ⟨o, T', a', g1, g2, g3⟩ := ih (n + 1) r h3 b e
        exact ⟨o, T', a', by omega, by simp only [mCount]; omega, g3⟩
theorem finM_ok : ∀ (ps : List Par) (X : Ctx) (n : Nat) (bs : List Nat) (y : (mutsTy ps).D) (ob' : Objs), Fits E X → MB X ps n bs → finM ps n X.objs = some (y, ob') →
    ∃ X', X'.objs = ob' ∧ Fits E X' ∧ Tame X X' ∧ MutsR X'.w X'.I ps y bs := by
  intro ps
  induction ps with
  | nil =>
    intro X n bs y ob' F hm h
    simp only [finM, Option.some.injEq, Prod.mk.injEq] at h
    exact ⟨X, h.2, F, Tame.refl F.ij, hm⟩
  | cons p ps ih =>
    intro X n bs y ob' F hm h
    cases p with
    | lent T => exact ih X n bs y ob' F hm h
    | leak T => exact ih X n bs y ob' F hm h
    | mbox T =>
      obtain ⟨b, r, e, h1, ⟨a, h2⟩, h3⟩ := hm
      simp only [finM, h2] at h
      split at h
      · split at h
        · rename_i p ob1 hp
          split at h
          · rename_i hu
            split at h
            · rename_i z ob2 hz
              simp only [Option.some.injEq, Prod.mk.injEq] at h
              obtain ⟨rfl, rfl⟩ := h
              obtain ⟨hf, hmm⟩ := box_mem F h2
              obtain ⟨cs, te, hb, hcs⟩ := box_cells F h2
              obtain ⟨X1, o1, F1, t1, r1, _, _⟩ := purify_ok F hmm hp
              subst o1
              obtain ⟨X2, o2, F2, t2, r2⟩ := ih X1 (n + 1) r z ob2 F1 (MB.evo t1.evo ps _ _ h3) hz
              refine ⟨X2, o2, F2, t1.trans t2, b, r, e, ⟨cs, te, ?_, hcs⟩, ?_, r2⟩
              · rw [t2.w, t1.w, ← h1]; exact hb
              · have k1 := unlent_ok hu r1
                have k2 : Rep X2.w X2.I T p.2 (mem X.w (X.φ n).blk 0) := Rep.evo (m := false) t2.evo k1
                rw [t2.w, t1.w] at k2 ⊢
                rw [← h1]
                exact k2
            · exact absurd h (by simp)
          · exact absurd h (by simp)
        · exact absurd h (by simp)
      · exact absurd h (by simp)

/-- The blocks of objects that go to the caller. -/
def blkOf (X : Ctx) (o : Nat) : List Nat := match X.objs o with
  | some (.row _ _ _ _) => if (X.φ o).nil = true then [] else [(X.φ o).blk]
  | some (.box _ _) => [(X.φ o).blk]
  | _ => []
theorem resR_of (F : Fits E X) : ∀ {r : RTy} {x : r.ty.D} {c : Cs} {us : List Nat}, ResX X r x c us → ResR X.w X.I r x c (us.flatMap (blkOf X)) := by
  intro r
  induction r with
  | pure T => intro x c us k; rw [k.2]; exact ⟨k.1, rfl⟩
  | own e =>
    intro x c us k
    rcases k with ⟨k1, k2, k3⟩ | ⟨o, v, m, k1, k2, k3, k4⟩
    · rw [k3]; exact ⟨⟨0, 0, 0, true⟩, k1, by rw [k2]; rfl, fun _ => ⟨k2, rfl⟩, fun h => by cases h⟩
    · rw [k1]
      obtain ⟨h1, h2, h3⟩ := F.objs o _ k2
      refine ⟨X.φ o, k4, h1, fun hn => ⟨h2 hn, by simp [blkOf, k2, hn]⟩, fun hn => ⟨by simp [blkOf, k2, hn], (h3 hn).1, (h3 hn).2.1, fun i hi => ?_⟩⟩
      exact unlent_ok k3 ((h3 hn).2.2 i hi)
  | box T =>
    intro x c us k
    obtain ⟨o, a, k1, k2, k3, k4⟩ := k
    rw [k1]
    exact ⟨(X.φ o).blk, k3, by simp [blkOf, k2], box_cells F k2, k4⟩
  | unit => intro x c us k; rw [show us = [] from k]; rfl
  | pair a b iha ihb =>
    intro x c us k
    obtain ⟨u1, u2, rfl, k1, k2⟩ := k
    exact ⟨_, _, List.flatMap_append, iha k1, ihb k2⟩
theorem tupV_of (F : Fits E X) : ∀ {rs : List RTy} {x : (tysOf rs).D} {vs : List Value} {us : List Nat}, TupX X rs x vs us → TupV X.w X.I rs x vs (us.flatMap (blkOf X)) := by
  intro rs
  induction rs with
  | nil => intro x vs us k; rw [k.2]; exact ⟨k.1, rfl⟩
  | cons r rs ih =>
    intro x vs us k
    obtain ⟨v, s, u1, u2, e1, rfl, k1, k2⟩ := k
    exact ⟨v, s, _, _, e1, List.flatMap_append, ⟨k1.1, k1.2.1, resR_of F k1.2.2⟩, ih k2⟩
theorem outsR_of (F : Fits E X) {o : Outs} {x : o.ty.D} {v : Value} {us : List Nat} (k : OutX X o x v us) : OutsR X.w X.I o x v (us.flatMap (blkOf X)) := by
  cases o with
  | one r => exact ⟨k.1, k.2.1, resR_of F k.2.2⟩
  | many rs => obtain ⟨vs, e, k⟩ := k; exact ⟨vs, e, tupV_of F k⟩
theorem own_of_blk {o b : Nat} (h : b ∈ blkOf X o) : Own X.objs X.φ o b := by
  unfold blkOf at h
  unfold Own
  split at h
  · rename_i ho
    rw [ho]
    split at h
    · exact absurd h (by simp)
    · rename_i hn
      simp at h
      exact ⟨by simpa using hn, h⟩
  · rename_i ho
    rw [ho]
    simpa using h
  · exact absurd h (by simp)
theorem blk_nodup (o : Nat) : (blkOf X o).Nodup := by
  unfold blkOf
  split
  · split <;> simp
  · simp
  · simp
theorem nodup_blks (F : Fits E X) : ∀ {us : List Nat}, us.Nodup → (us.flatMap (blkOf X)).Nodup := by
  intro us
  induction us with
  | nil => intro _; exact List.nodup_nil
  | cons o us ih =>
    intro h
    obtain ⟨h1, h2⟩ := List.nodup_cons.1 h
    rw [List.flatMap_cons]
    refine List.nodup_append.2 ⟨blk_nodup o, ih h2, fun b hb b' hb' e => ?_⟩
    subst e
    obtain ⟨o', ho', hb'⟩ := List.mem_flatMap.1 hb'
    have := F.dist o o' b (own_of_blk hb) (own_of_blk hb')
    exact h1 (this ▸ ho')

theorem fin_ok (F : Fits E X) {sg : Sig} {a : AV} {v : Value} (hv : SlotR X a v) {bs : List Nat} (hMB : MB X sg.ps 0 bs) (hS : ∀ b, E.S b ↔ b ∈ bs) {r : sg.outs.ty.D × (mutsTy sg.ps).D} (h : fin sg a X.objs = some r) :
    ∃ I' owns, PostR E.w0 X.w E.I0 bs sg r v I' owns := by
  unfold fin at h
  split at h
  case h_2 => exact absurd h (by simp)
  rename_i x us ob1 hx
  split at h
  case h_2 => exact absurd h (by simp)
  rename_i y ob2 hy
  split at h
  case isFalse => exact absurd h (by simp)
  rename_i hb
  simp only [Option.some.injEq] at h
  subst h
  obtain ⟨X1, o1, F1, t1, k1, e1⟩ := finO_ok F hv hx
  subst o1
  obtain ⟨X2, o2, F2, t2, k2⟩ := finM_ok sg.ps X1 0 bs y ob2 F1 (MB.evo t1.evo _ _ _ hMB) hy
  subst o2
  simp only [ownsB, Bool.and_eq_true, List.all_eq_true] at hb
  obtain ⟨hb1, hb2⟩ := hb
  have hnd := nodupB_ok hb1
  have hlive : LiveAll X2.objs us := fun o ho => by
    have := (hb2 o ho).2
    split at this
    · rename_i v m T xs h; exact .inl ⟨v, m, T, xs, h⟩
    · rename_i T a h; exact .inr ⟨T, a, h⟩
    · exact absurd this (by simp)
  have hout := (k1 (hlive.tame t2 e1)).tame t2 hlive
  have hw : X2.w = X.w := t2.w.trans t1.w
  have hMB2 := MB.evo (t1.evo.trans t2.evo) _ _ _ hMB
  refine ⟨X2.I, us.flatMap (blkOf X2), ?_, F2.i0, F2.iw, fun b hb => hw ▸ F2.jlt b (F2.ij b hb), ?_, ?_, nodup_blks F2 hnd, fun b hb => ?_⟩
  · have := F2.keep
    rw [hw] at this
    exact ⟨this.os, this.tape, this.output, this.size, fun k hk hn => this.block k hk (fun hs => hn ((hS k).1 hs))⟩
  · rw [← hw]; exact outsR_of F2 hout
  · rw [← hw]; exact k2
  · obtain ⟨o, ho, hb⟩ := List.mem_flatMap.1 hb
    have hown := own_of_blk hb
    have h1 := F2.ownw o b hown
    refine ⟨?_, by rw [← hw]; exact h1.1, fun hi => F2.ownJ o b hown (F2.ij b hi)⟩
    rcases h1.2 with h | h
    · exact h
    · exfalso
      obtain ⟨o', T, a', g1, g2, g3, g4⟩ := MB.at_ _ _ _ hMB2 b ((hS b).1 h)
      have : o = o' := F2.dist o o' b hown (by unfold Own; rw [g4]; exact g3.symm)
      subst this
      have h3 := (hb2 o ho).1
      have : Nat.blt o (mCount sg.ps) = true := Nat.ble_eq_true_of_le (by omega)
      rw [this] at h3
      exact absurd h3 (by simp)
end
end Go.Proofs.Ytbpfllifhpdlfaa.Ev
