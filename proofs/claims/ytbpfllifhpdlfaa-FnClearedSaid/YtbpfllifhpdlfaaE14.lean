/- What a call of a function comes to: its contract; how a caller takes it up. -/
import Derived.Test.YtbpfllifhpdlfaaE13
namespace Go.Proofs.Ytbpfllifhpdlfaa.Ev
open Go
set_option linter.unusedVariables false
set_option linter.unusedSimpArgs false

/-- A parameter: data that is only read and may not be led to by a result; data that results may lead to; a pointer to a variable that is the callee's for the while. -/
inductive Par where
  | lent (T : Ty)
  | leak (T : Ty)
  | mbox (T : Ty)
def Par.T : Par → Ty
  | .lent T => T
  | .leak T => T
  | .mbox T => T
/-- A result: data; a slice that is the caller's own; a struct of such; a pointer to a new variable. -/
inductive RTy where
  | pure (T : Ty)
  | own (e : Ty)
  | box (T : Ty)
  | unit
  | pair (a b : RTy)
@[reducible] def RTy.ty : RTy → Ty
  | .pure T => T
  | .own e => .slice e
  | .box T => T
  | .unit => .unit
  | .pair a b => .pair a.ty b.ty
def RTy.sz : RTy → Nat
  | .pure T => T.sz
  | .own _ => 1
  | .box _ => 1
  | .unit => 0
  | .pair a b => a.sz + b.sz
def RTy.isAgg : RTy → Bool
  | .pure T => T.isAgg
  | .unit => true
  | .pair _ _ => true
  | _ => false
inductive Outs where
  | one (r : RTy)
  | many (rs : List RTy)
@[reducible] def tysOf : List RTy → Ty
  | [] => .unit
  | r :: rs => .pair r.ty (tysOf rs)
@[reducible] def Outs.ty : Outs → Ty
  | .one r => r.ty
  | .many rs => tysOf rs
@[reducible] def parsTy : List Par → Ty
  | [] => .unit
  | .lent T :: ps => .pair T (parsTy ps)
  | .leak T :: ps => .pair T (parsTy ps)
  | .mbox T :: ps => .pair T (parsTy ps)
@[reducible] def mutsTy : List Par → Ty
  | [] => .unit
  | .lent _ :: ps => mutsTy ps
  | .leak _ :: ps => mutsTy ps
  | .mbox T :: ps => .pair T (mutsTy ps)
structure Sig where
  ps : List Par
  outs : Outs
  fn : (parsTy ps).D → Option (outs.ty.D × (mutsTy ps).D)

def PVal (w : World) (I : Bs) (T : Ty) (x : T.D) (v : Value) : Prop := Value.isAgg v = T.isAgg ∧ v.cells.size = T.sz ∧ Rep w I T x (cv v)
def ArgsR (w : World) (I J : Bs) : (ps : List Par) → (parsTy ps).D → List Value → List Nat → Prop
  | [], _, vs, bs => vs = [] ∧ bs = []
  | .lent T :: ps, x, vs, bs => ∃ v r, vs = v :: r ∧ PVal w J T x.1 v ∧ ArgsR w I J ps x.2 r bs
  | .leak T :: ps, x, vs, bs => ∃ v r, vs = v :: r ∧ PVal w I T x.1 v ∧ ArgsR w I J ps x.2 r bs
  | .mbox T :: ps, x, vs, bs => ∃ b r bs', vs = .pointer (some ⟨b, 0, none⟩) :: r ∧ bs = b :: bs' ∧ (∃ cs te, w.heap[b]? = some (.cells cs te (0, 0)) ∧ cs.size = T.sz) ∧ Rep w I T x.1 (mem w b 0) ∧ ArgsR w I J ps x.2 r bs'
def MutsR (w : World) (I : Bs) : (ps : List Par) → (mutsTy ps).D → List Nat → Prop
  | [], _, bs => bs = []
  | .lent _ :: ps, x, bs => MutsR w I ps x bs
  | .leak _ :: ps, x, bs => MutsR w I ps x bs
  | .mbox T :: ps, x, bs => ∃ b bs', bs = b :: bs' ∧ (∃ cs te, w.heap[b]? = some (.cells cs te (0, 0)) ∧ cs.size = T.sz) ∧ Rep w I T x.1 (mem w b 0) ∧ MutsR w I ps x.2 bs'
/-- A result in memory; 'owns': the blocks that are the caller's from now on. -/
def ResR (w : World) (I : Bs) : (r : RTy) → r.ty.D → Cs → List Nat → Prop
  | .pure T, x, c, owns => Rep w I T x c ∧ owns = []
  | .own e, xs, c, owns => ∃ l : Loc, c 0 = some l.sl ∧ l.len = xs.length ∧ (l.nil = true → xs = [] ∧ owns = []) ∧ (l.nil = false → owns = [l.blk] ∧ (∃ cs te, w.heap[l.blk]? = some (.cells cs te (0, 0)) ∧ l.cap * e.sz ≤ cs.size) ∧
      xs.length ≤ l.cap ∧ ∀ i (h : i < xs.length), Rep w I e xs[i] (mem w l.blk (i * e.sz)))
  | .box T, x, c, owns => ∃ b, c 0 = some (.pointer (some ⟨b, 0, none⟩)) ∧ owns = [b] ∧ (∃ cs te, w.heap[b]? = some (.cells cs te (0, 0)) ∧ cs.size = T.sz) ∧ Rep w I T x (mem w b 0)
  | .unit, _, _, owns => owns = []
  | .pair a b, x, c, owns => ∃ o1 o2, owns = o1 ++ o2 ∧ ResR w I a x.1 c o1 ∧ ResR w I b x.2 (shift c a.sz) o2
def ResV (w : World) (I : Bs) (r : RTy) (x : r.ty.D) (v : Value) (owns : List Nat) : Prop := Value.isAgg v = r.isAgg ∧ v.cells.size = r.sz ∧ ResR w I r x (cv v) owns
def TupV (w : World) (I : Bs) : (rs : List RTy) → (tysOf rs).D → List Value → List Nat → Prop
  | [], _, vs, owns => vs = [] ∧ owns = []
  | r :: rs, x, vs, owns => ∃ v s o1 o2, vs = v :: s ∧ owns = o1 ++ o2 ∧ ResV w I r x.1 v o1 ∧ TupV w I rs x.2 s o2
def OutsR (w : World) (I : Bs) : (o : Outs) → o.ty.D → Value → List Nat → Prop
  | .one r, x, v, owns => ResV w I r x v owns
  | .many rs, x, v, owns => ∃ vs, v = .tuple vs ∧ TupV w I rs x vs.toList owns
structure PostR (w w' : World) (I : Bs) (bs : List Nat) (sg : Sig) (r : sg.outs.ty.D × (mutsTy sg.ps).D) (v : Value) (I' : Bs) (owns : List Nat) : Prop where
  keep : Keep (· ∈ bs) w w'
  i : ∀ b, I b → I' b
  iw : ∀ b, I' b → I b ∨ w.heap.size ≤ b
  ilt : ∀ b, I' b → b < w'.heap.size
  outs : OutsR w' I' sg.outs r.1 v owns
  muts : MutsR w' I' sg.ps r.2 bs
  nodup : owns.Nodup
  fresh : ∀ b, b ∈ owns → w.heap.size ≤ b ∧ b < w'.heap.size ∧ ¬ I' b
/-- The function's contract: whatever it is called with, it comes to what the plain function says. -/
def Meets (P : Program) (g : FuncId) (sg : Sig) : Prop :=
  ∀ (w : World) (I J : Bs) (xs : (parsTy sg.ps).D) (vs : List Value) (bs : List Nat), (∀ b, I b → J b) → (∀ b, J b → b < w.heap.size) → ArgsR w I J sg.ps xs vs bs → bs.Nodup → (∀ b, b ∈ bs → ¬ J b) →
    ∀ r, sg.fn xs = some r → Calls P g vs.toArray w fun e w' => ∃ v, e = .returned v ∧ ∃ I' owns, PostR w w' I bs sg r v I' owns

section
variable {P : Program} {E : Fix} {X : Ctx}

/-- What a caller makes of a result: new objects, numbered from id on. -/
def bindR : (r : RTy) → r.ty.D → Nat → Objs → Option (AV × Objs × Nat)
  | .pure T, x, id, ob => some (.pv false T x, ob, id)
  | .own e, xs, id, ob => match ob id with
    | none => some (.row id 0, ob.put id (.row 0 false e xs), id + 1)
    | some _ => none
  | .box T, x, id, ob => match ob id with
    | none => some (.bptr id [], ob.put id (.box T (.pv false T x)), id + 1)
    | some _ => none
  | .unit, _, id, ob => some (.unit, ob, id)
  | .pair a b, x, id, ob => match bindR a x.1 id ob with
    | some (p, ob1, id1) => match bindR b x.2 id1 ob1 with
      | some (q, ob2, id2) => some (.pair p q, ob2, id2)
      | none => none
    | none => none

theorem Turns.refl (X : Ctx) : Turns X X.w (fun _ => False) := ⟨rfl, rfl, rfl, Nat.le_refl _, fun _ _ _ => rfl⟩
theorem Fresh.put {o : Nat} {ob : AObj} {l : Loc} {w' : World} {b : Nat} (h : Fresh E X w' b) (hne : ¬ ob.own l b) : Fresh E (X.put w' o ob l) w' b := by
  refine ⟨fun o' ho => ?_, h.j, h.lt, h.ge⟩
  by_cases e : o' = o
  · subst e; exact hne (own_put_same ho)
  · rw [own_put_ne e] at ho; exact h.own _ ho

theorem bindR_ok : ∀ {r : RTy} {X : Ctx} {x : r.ty.D} {c : Cs} {owns : List Nat} {id id' : Nat} {a : AV} {ob' : Objs}, Fits E X → ResR X.w X.I r x c owns → owns.Nodup → (∀ b, b ∈ owns → Fresh E X X.w b) → bindR r x id X.objs = some (a, ob', id') →
    ∃ X', X'.w = X.w ∧ X'.I = X.I ∧ X'.J = X.J ∧ X'.objs = ob' ∧ Fits E X' ∧ Evo X X' ∧ AVR X' a c ∧ a.sz = r.sz ∧ a.isAgg = r.isAgg ∧ ∀ b, Fresh E X X.w b → b ∉ owns → Fresh E X' X.w b := by
  intro r
  induction r with
  | pure T =>
    intro X x c owns id id' a ob' F h _ _ hb
    simp only [bindR, Option.some.injEq, Prod.mk.injEq] at hb
    obtain ⟨rfl, rfl, rfl⟩ := hb
    exact ⟨X, rfl, rfl, rfl, rfl, F, Evo.refl F.ij, h.1, rfl, rfl, fun b hf _ => hf⟩
  | unit =>
    intro X x c owns id id' a ob' F h _ _ hb
    simp only [bindR, Option.some.injEq, Prod.mk.injEq] at hb
    obtain ⟨rfl, rfl, rfl⟩ := hb
    exact ⟨X, rfl, rfl, rfl, rfl, F, Evo.refl F.ij, trivial, rfl, rfl, fun b hf _ => hf⟩
  | own e =>
    intro X x c owns id id' a ob' F h _ hfr hb
    simp only [bindR] at hb
    split at hb
    · rename_i hid
      simp only [Option.some.injEq, Prod.mk.injEq] at hb
      obtain ⟨rfl, rfl, rfl⟩ := hb
      obtain ⟨l, h1, h2, h3, h4⟩ := h
      have hc : ∀ ob0, X.objs id = some ob0 → ObC (X.φ id) l ob0 (some (.row 0 false e x)) := fun ob0 h0 => by rw [hid] at h0; exact absurd h0 (by simp)
      obtain ⟨g1, g2⟩ := Fits.put F (w' := X.w) (o := id) (ob := .row 0 false e x) (l := l) (Turns.refl X) (fun b hb => hb.elim) hc (fun b hb => .inr (hfr b (by rw [(h4 hb.1).1, hb.2]; simp))) (fun v m T xs _ hn => (hfr l.blk (by rw [(h4 hn).1]; simp)).ge) (fun hev => by
        refine ⟨h2, fun hn => (h3 hn).1, fun hn => ?_⟩
        obtain ⟨_, k1, k2, k3⟩ := h4 hn
        exact ⟨k1, k2, fun i hi => Rep.evo (m := false) hev (k3 i hi)⟩)
      refine ⟨X.put X.w id (.row 0 false e x) l, rfl, rfl, rfl, rfl, g1, g2, ?_, rfl, rfl, fun b hf hni => hf.put (fun hb => ?_)⟩
      · have e1 : (X.put X.w id (.row 0 false e x) l).objs id = some (.row 0 false e x) := Objs.put_same _ _ _
        simp only [AVR, e1, Ctx.put_φ_same]
        exact ⟨Nat.le_refl _, fun _ => h1⟩
      · exact hni (by rw [(h4 hb.1).1, hb.2]; simp)
    · exact absurd hb (by simp)
  | box T =>
    intro X x c owns id id' a ob' F h _ hfr hb
    simp only [bindR] at hb
    split at hb
    · rename_i hid
      simp only [Option.some.injEq, Prod.mk.injEq] at hb
      obtain ⟨rfl, rfl, rfl⟩ := hb
      obtain ⟨b0, h1, h2, h3, h4⟩ := h
      have hc : ∀ ob0, X.objs id = some ob0 → ObC (X.φ id) ⟨b0, 0, 0, false⟩ ob0 (some (.box T (.pv false T x))) := fun ob0 h0 => by rw [hid] at h0; exact absurd h0 (by simp)
      obtain ⟨g1, g2⟩ := Fits.put F (w' := X.w) (o := id) (ob := .box T (.pv false T x)) (l := ⟨b0, 0, 0, false⟩) (Turns.refl X) (fun b hb => hb.elim) hc (fun b hb => .inr (hfr b (by rw [h2, show b = b0 from hb]; simp))) (fun v m T xs hh _ => by cases hh) (fun hev => by
        exact ⟨by simp [AV.fits], h3, Rep.evo (m := false) hev h4⟩)
      refine ⟨X.put X.w id (.box T (.pv false T x)) ⟨b0, 0, 0, false⟩, rfl, rfl, rfl, rfl, g1, g2, ?_, rfl, rfl, fun b hf hni => hf.put (fun hb => ?_)⟩
      · have e1 : (X.put X.w id (.box T (.pv false T x)) ⟨b0, 0, 0, false⟩).objs id = some (.box T (.pv false T x)) := Objs.put_same _ _ _
        simp only [AVR, e1, Ctx.put_φ_same]
        refine ⟨trivial, fun off T' h' => ?_⟩
        simp only [Ty.at, Option.some.injEq, Prod.mk.injEq] at h'
        obtain ⟨rfl, rfl⟩ := h'
        exact h1
      · exact hni (by rw [h2, show b = b0 from hb]; simp)
    · exact absurd hb (by simp)
  | pair p q ihp ihq =>
    intro X x c owns id id' a ob' F h hnd hfr hb
    simp only [bindR] at hb
    split at hb
    · rename_i a1 ob1 id1 hb1
      split at hb
      · rename_i a2 ob2 id2 hb2
        simp only [Option.some.injEq, Prod.mk.injEq] at hb
        obtain ⟨rfl, rfl, rfl⟩ := hb
        obtain ⟨o1, o2, rfl, r1, r2⟩ := h
        obtain ⟨n1, n2, n3⟩ := List.nodup_append.1 hnd
        obtain ⟨X1, w1, i1, j1, e1, F1, v1, k1, s1, _, f1⟩ := ihp F r1 n1 (fun b hb => hfr b (by simp [hb])) hb1
        subst e1
        rw [← w1, ← i1] at r2
        obtain ⟨X2, w2, i2, j2, e2, F2, v2, k2, s2, _, f2⟩ := ihq F1 r2 n2 (fun b hb => by
          rw [w1]
          exact f1 b (hfr b (by simp [hb])) (fun hb1 => n3 b hb1 b hb rfl)) hb2
        refine ⟨X2, w2.trans w1, i2.trans i1, j2.trans j1, e2, F2, v1.trans v2, ⟨k1.evo v2, ?_⟩, by simp [AV.sz, RTy.sz, s1, s2], rfl, fun b hf hni => ?_⟩
        · rw [s1]; exact k2
        · simp only [List.mem_append, not_or] at hni
          rw [← w1]
          exact f2 b (by rw [w1]; exact f1 b hf hni.1) hni.2
      · exact absurd hb (by simp)
    · exact absurd hb (by simp)
def bindT : (rs : List RTy) → (tysOf rs).D → Nat → Objs → Option (AV × Objs × Nat)
  | [], _, id, ob => some (.tnil, ob, id)
  | r :: rs, x, id, ob => match bindR r x.1 id ob with
    | some (p, ob1, id1) => match bindT rs x.2 id1 ob1 with
      | some (q, ob2, id2) => some (.tcons p q, ob2, id2)
      | none => none
    | none => none
theorem bindT_ok : ∀ {rs : List RTy} {X : Ctx} {x : (tysOf rs).D} {vs : List Value} {owns : List Nat} {id id' : Nat} {a : AV} {ob' : Objs}, Fits E X → TupV X.w X.I rs x vs owns → owns.Nodup → (∀ b, b ∈ owns → Fresh E X X.w b) → bindT rs x id X.objs = some (a, ob', id') →
    ∃ X', X'.w = X.w ∧ X'.objs = ob' ∧ Fits E X' ∧ Evo X X' ∧ TupR X' a vs := by
  intro rs
  induction rs with
  | nil =>
    intro X x vs owns id id' a ob' F h _ _ hb
    simp only [bindT, Option.some.injEq, Prod.mk.injEq] at hb
    obtain ⟨rfl, rfl, rfl⟩ := hb
    exact ⟨X, rfl, rfl, F, Evo.refl F.ij, h.1⟩
  | cons r rs ih =>
    intro X x vs owns id id' a ob' F h hnd hfr hb
    simp only [bindT] at hb
    split at hb
    · rename_i a1 ob1 id1 hb1
      split at hb
      · rename_i a2 ob2 id2 hb2
        simp only [Option.some.injEq, Prod.mk.injEq] at hb
        obtain ⟨rfl, rfl, rfl⟩ := hb
        obtain ⟨v, s, o1, o2, rfl, rfl, r1, r2⟩ := h
        obtain ⟨n1, n2, n3⟩ := List.nodup_append.1 hnd
        obtain ⟨X1, w1, i1, j1, e1, F1, v1, k1, s1, g1, f1⟩ := bindR_ok F r1.2.2 n1 (fun b hb => hfr b (by simp [hb])) hb1
        subst e1
        rw [← w1, ← i1] at r2
        obtain ⟨X2, w2, e2, F2, v2, k2⟩ := ih F1 r2 n2 (fun b hb => by
          rw [w1]
          exact f1 b (hfr b (by simp [hb])) (fun hb1 => n3 b hb1 b hb rfl)) hb2
        refine ⟨X2, w2.trans w1, e2, F2, v1.trans v2, v, s, rfl, ⟨r1.1.trans g1.symm, r1.2.1.trans s1.symm, k1.evo v2⟩, k2⟩
      · exact absurd hb (by simp)
    · exact absurd hb (by simp)
def bindO : (o : Outs) → o.ty.D → Nat → Objs → Option (AV × Objs)
  | .one r, x, id, ob => match bindR r x id ob with
    | some (a, ob', _) => some (a, ob')
    | none => none
  | .many rs, x, id, ob => match bindT rs x id ob with
    | some (a, ob', _) => some (a, ob')
    | none => none
theorem tup_slot {a : AV} {vs : Array Value} (h : TupR X a vs.toList) : SlotR X a (.tuple vs) := by
  cases a with
  | tnil => exact ⟨vs, rfl, h⟩
  | tcons x y => exact ⟨vs, rfl, h⟩
  | _ => exact h.elim
theorem bindO_ok {o : Outs} {x : o.ty.D} {v : Value} {owns : List Nat} {id : Nat} {a : AV} {ob' : Objs} (F : Fits E X) (h : OutsR X.w X.I o x v owns) (hnd : owns.Nodup) (hfr : ∀ b, b ∈ owns → Fresh E X X.w b) (hb : bindO o x id X.objs = some (a, ob')) :
    ∃ X', X'.w = X.w ∧ X'.objs = ob' ∧ Fits E X' ∧ Evo X X' ∧ SlotR X' a v := by
  cases o with
  | one r =>
    simp only [bindO] at hb
    split at hb
    · rename_i a1 ob1 id1 hb1
      simp only [Option.some.injEq, Prod.mk.injEq] at hb
      obtain ⟨rfl, rfl⟩ := hb
      obtain ⟨X1, w1, i1, j1, e1, F1, v1, k1, s1, g1, f1⟩ := bindR_ok F h.2.2 hnd hfr hb1
      exact ⟨X1, w1, e1, F1, v1, slot_of_val ⟨h.1.trans g1.symm, h.2.1.trans s1.symm, k1⟩⟩
    · exact absurd hb (by simp)
  | many rs =>
    simp only [bindO] at hb
    split at hb
    · rename_i a1 ob1 id1 hb1
      simp only [Option.some.injEq, Prod.mk.injEq] at hb
      obtain ⟨rfl, rfl⟩ := hb
      obtain ⟨vs, rfl, h⟩ := h
      obtain ⟨X1, w1, e1, F1, v1, k1⟩ := bindT_ok F h hnd hfr hb1
      exact ⟨X1, w1, e1, F1, v1, tup_slot k1⟩
    · exact absurd hb (by simp)

/-- The world behind a call: what was written are boxes that were handed over. -/
theorem Fits.world (F : Fits E X) {w' : World} {S' I' : Bs} {objs' : Objs} (K : Keep S' X.w w') (hi : ∀ b, X.I b → I' b) (hiw : ∀ b, I' b → X.I b ∨ X.w.heap.size ≤ b) (hil : ∀ b, I' b → b < w'.heap.size)
    (hS : ∀ b, S' b → ∃ o T a, X.objs o = some (.box T a) ∧ b = (X.φ o).blk)
    (hobj : ∀ o, (objs' o = X.objs o ∧ ∀ b, Own X.objs X.φ o b → ¬ S' b) ∨ ∃ T a x, X.objs o = some (.box T a) ∧ objs' o = some (.box T (.pv false T x)) ∧ (∃ cs te, w'.heap[(X.φ o).blk]? = some (.cells cs te (0, 0)) ∧ cs.size = T.sz) ∧ Rep w' I' T x (mem w' (X.φ o).blk 0)) :
    Fits E { w := w', I := I', J := fun b => X.J b ∨ I' b, objs := objs', φ := X.φ } ∧ Evo X { w := w', I := I', J := fun b => X.J b ∨ I' b, objs := objs', φ := X.φ } := by
  have hSJ : ∀ b, X.J b → ¬ S' b := fun b hj hs => by
    obtain ⟨o, T, a, ho, rfl⟩ := hS b hs
    exact F.ownJ o _ (by unfold Own; rw [ho]) hj
  have hown : ∀ o b, Own objs' X.φ o b ↔ Own X.objs X.φ o b := by
    intro o b
    rcases hobj o with ⟨h, _⟩ | ⟨T, a, x, h1, h2, _⟩
    · unfold Own; rw [h]
    · unfold Own; rw [h1, h2]
  have hev : Evo X { w := w', I := I', J := fun b => X.J b ∨ I' b, objs := objs', φ := X.φ } := by
    refine ⟨fun b hb => K.block b (F.jlt b hb) (hSJ b hb), hi, fun b hb => .inl hb, F.ij, fun o ob ho => ?_⟩
    show ObC _ _ ob (objs' o)
    rcases hobj o with ⟨h, _⟩ | ⟨T, a, x, h1, h2, _⟩
    · rw [h, ho]
      cases ob with
      | box T a => exact ⟨rfl, rfl⟩
      | row v m T xs => exact ⟨rfl, Nat.le_refl _, fun _ => rfl⟩
      | imm v m T xs => exact ⟨rfl, Nat.le_refl _, fun _ => rfl⟩
    · rw [h1] at ho
      obtain rfl := Option.some.inj ho
      rw [h2]
      exact ⟨rfl, rfl⟩
  refine ⟨⟨?_, fun o ob ho => ?_, fun o o' b h1 h2 => F.dist o o' b ((hown _ _).1 h1) ((hown _ _).1 h2), fun o b h1 hj => ?_, fun o b h1 => ?_, fun o v m T xs h1 hn => ?_, fun b hb => .inr hb, fun b hb => ?_, fun b hb => hi b (F.i0 b hb), fun b hb => ?_,
    fun b hb => .inl (F.j0 b hb), fun b hb => ?_⟩, hev⟩
  · refine ⟨K.os.trans F.keep.os, K.tape.trans F.keep.tape, K.output.trans F.keep.output, Nat.le_trans F.keep.size K.size, fun k hk hs => ?_⟩
    refine (K.block k (Nat.lt_of_lt_of_le hk F.keep.size) (fun hk' => ?_)).trans (F.keep.block k hk hs)
    obtain ⟨o, T, a, ho, rfl⟩ := hS k hk'
    rcases (F.ownw o _ (by unfold Own; rw [ho])).2 with h | h
    · omega
    · exact hs h
  · have ho' : objs' o = some ob := ho
    rcases hobj o with ⟨h, h2⟩ | ⟨T, a, x, h1, h2, h3, h4⟩
    · rw [h] at ho'
      refine ObjR.evo hev (F.objs o ob ho') (fun hb => ?_)
      have hown' : Own X.objs X.φ o (X.φ o).blk := by
        unfold Own
        rw [ho']
        cases ob with
        | box T a => rfl
        | row v m T xs => exact ⟨hb, rfl⟩
        | imm v m T xs => exact hb.elim
      exact K.block _ (F.ownw o _ hown').1 (h2 _ hown')
    · rw [h2] at ho'
      obtain rfl := Option.some.inj ho'
      exact ⟨by simp [AV.fits], h3, h4⟩
  · have h2 := (hown _ _).1 h1
    rcases hj with hj | hj
    · exact F.ownJ _ _ h2 hj
    · rcases hiw b hj with h3 | h3
      · exact F.ownJ _ _ h2 (F.ij b h3)
      · have := (F.ownw _ _ h2).1; omega
  · have := F.ownw _ _ ((hown _ _).1 h1)
    exact ⟨Nat.lt_of_lt_of_le this.1 K.size, this.2⟩
  · have h1' : objs' o = some (.row v m T xs) := h1
    rcases hobj o with ⟨h, _⟩ | ⟨T', a, x, _, h2, _⟩
    · rw [h] at h1'; exact F.rown o v m T xs h1' hn
    · rw [h2] at h1'; cases h1'
  · rcases hb with hb | hb
    · exact Nat.lt_of_lt_of_le (F.jlt b hb) K.size
    · exact hil b hb
  · rcases hiw b hb with h | h
    · exact F.iw b h
    · have := F.keep.size; right; omega
  · rcases hb with hb | hb
    · exact F.jw b hb
    · rcases hiw b hb with h | h
      · exact F.jw b (F.ij b h)
      · have := F.keep.size; right; omega
end
end Go.Proofs.Ytbpfllifhpdlfaa.Ev
