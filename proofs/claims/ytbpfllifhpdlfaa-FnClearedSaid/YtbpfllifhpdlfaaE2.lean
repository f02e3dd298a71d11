/- What an abstract run knows of values and of the memory that it owns, and when a machine's world fits it. -/
import Derived.Test.YtbpfllifhpdlfaaE1
namespace Go.Proofs.Ytbpfllifhpdlfaa.Ev
open Go
set_option linter.unusedVariables false
set_option linter.unusedSimpArgs false

/-- A step into a value: a pair's first or second part, an array's element. -/
inductive Step where
  | fst
  | snd
  | ix (i : Nat)
  deriving DecidableEq, Inhabited

/-- Where a path ends: how many cells on, and the type there. -/
def Ty.at : List Step → Ty → Option (Nat × Ty)
  | [], T => some (0, T)
  | .fst :: p, .pair a _ => Ty.at p a
  | .snd :: p, .pair a b => match Ty.at p b with
    | some (o, t) => some (a.sz + o, t)
    | none => none
  | .ix i :: p, .arr _ e => match Ty.at p e with
    | some (o, t) => some (i * e.sz + o, t)
    | none => none
  | _, _ => none
/-- Indices on a path lie in their arrays. -/
def PathOk : List Step → Ty → Prop
  | [], _ => True
  | .fst :: p, .pair a _ => PathOk p a
  | .snd :: p, .pair _ b => PathOk p b
  | .ix i :: p, .arr n e => i < n ∧ PathOk p e
  | _, _ => False

/-- What is known of a value. 'pv m': plain data (m: it may lead to memory that was lent); 'nilv': the nil slice; 'row o v': a slice that is object o, at its version v; 'bptr': a pointer into the variable that is object o; 'rptr': into element i of object o; 'pp': to plain data that lies in memory; 'fn': a function, with the variables that it holds. -/
inductive AV where
  | undef
  | pv (m : Bool) (T : Ty) (x : T.D)
  | nilv
  | row (o v : Nat)
  | bptr (o : Nat) (p : List Step)
  | rptr (o v i : Nat) (p : List Step)
  | pp (m : Bool) (T : Ty) (x : T.D)
  | fn (f : FuncId) (os : List Nat)
  | unit
  | pair (a b : AV)
  | tnil
  | tcons (a b : AV)
instance : Inhabited AV := ⟨.undef⟩

/-- A variable in memory; a row of the call's own; a row that is told to last. -/
inductive AObj where
  | box (T : Ty) (a : AV)
  | row (v : Nat) (m : Bool) (T : Ty) (xs : List T.D)
  | imm (v : Nat) (m : Bool) (T : Ty) (xs : List T.D)

abbrev Objs := Nat → Option AObj
def Objs.put (s : Objs) (o : Nat) (a : AObj) : Objs := fun i => bif Nat.beq i o then some a else s i
theorem Objs.put_same (s : Objs) (o : Nat) (a : AObj) : s.put o a o = some a := by simp [Objs.put]
theorem Objs.put_ne (s : Objs) (o : Nat) (a : AObj) {i : Nat} (h : i ≠ o) : s.put o a i = s i := by
  have : Nat.beq i o = false := by
    rw [← Bool.not_eq_true]
    exact fun e => h (Nat.eq_of_beq_eq_true e)
  simp [Objs.put, this]

structure Loc where
  blk : Nat
  len : Nat
  cap : Nat
  nil : Bool
def Loc.sl (l : Loc) : Value := if l.nil then .slice none 0 0 else .slice (some ⟨l.blk, 0, none⟩) l.len l.cap

def AV.sz : AV → Nat
  | .pv _ T _ => T.sz
  | .unit => 0
  | .pair a b => a.sz + b.sz
  | _ => 1
def AV.isAgg : AV → Bool
  | .pv _ T _ => T.isAgg
  | .unit => true
  | .pair _ _ => true
  | _ => false
/-- It may stand in a variable of this type. -/
def AV.fits : AV → Ty → Bool
  | .pv _ T' _, T => decide (T' = T)
  | .unit, .unit => true
  | .pair a b, .pair A B => a.fits A && b.fits B
  | .row _ _, .slice _ => true
  | .nilv, .slice _ => true
  | .bptr _ _, .opq => true
  | .rptr _ _ _ _, .opq => true
  | .pp _ _ _, .opq => true
  | .fn _ _, .opq => true
  | _, _ => false
theorem AV.fits_sz : ∀ {a : AV} {T : Ty}, a.fits T = true → a.sz = T.sz := by
  intro a
  induction a with
  | pv m T x => intro T' h; simp [AV.fits] at h; subst h; rfl
  | unit => intro T h; cases T <;> simp [AV.fits] at h; rfl
  | pair a b iha ihb =>
    intro T h
    cases T <;> simp [AV.fits] at h
    simp only [AV.sz, Ty.sz, iha h.1, ihb h.2]
  | row o v => intro T h; cases T <;> simp [AV.fits] at h; rfl
  | nilv => intro T h; cases T <;> simp [AV.fits] at h; rfl
  | bptr o p => intro T h; cases T <;> simp [AV.fits] at h; rfl
  | rptr o v i p => intro T h; cases T <;> simp [AV.fits] at h; rfl
  | pp m T x => intro T h; cases T <;> simp [AV.fits] at h; rfl
  | fn f os => intro T h; cases T <;> simp [AV.fits] at h; rfl
  | undef => intro T h; cases T <;> simp [AV.fits] at h
  | tnil => intro T h; cases T <;> simp [AV.fits] at h
  | tcons a b => intro T h; cases T <;> simp [AV.fits] at h
theorem AV.fits_agg : ∀ {a : AV} {T : Ty}, a.fits T = true → a.isAgg = T.isAgg := by
  intro a T h
  cases a with
  | pv m T' x => simp [AV.fits] at h; subst h; rfl
  | _ => cases T <;> simp [AV.fits] at h <;> rfl

structure Ctx where
  w : World
  I : Bs
  J : Bs
  objs : Objs
  φ : Nat → Loc
def Ctx.set (X : Ctx) (m : Bool) : Bs := if m then X.J else X.I

/-- The cells c hold what is known. -/
def AVR (X : Ctx) : AV → Cs → Prop
  | .undef, _ => True
  | .pv m T x, c => Rep X.w (X.set m) T x c
  | .nilv, c => c 0 = some (.slice none 0 0)
  | .row o v, c => match X.objs o with
    | some (.row v' _ _ _) => v ≤ v' ∧ (v = v' → c 0 = some (X.φ o).sl)
    | some (.imm v' _ _ _) => v ≤ v' ∧ (v = v' → c 0 = some (X.φ o).sl)
    | _ => False
  | .bptr o p, c => match X.objs o with
    | some (.box T _) => PathOk p T ∧ ∀ off T', T.at p = some (off, T') → c 0 = some (.pointer (some ⟨(X.φ o).blk, off, none⟩))
    | _ => False
  | .rptr o v i p, c => match X.objs o with
    | some (.row v' _ T _) => v ≤ v' ∧ (v = v' → i < (X.φ o).len ∧ PathOk p T ∧ ∀ off T', T.at p = some (off, T') → c 0 = some (.pointer (some ⟨(X.φ o).blk, i * T.sz + off, none⟩)))
    | some (.imm v' _ _ _) => v ≤ v'
    | _ => False
  | .pp m T x, c => ∃ b off, c 0 = some (.pointer (some ⟨b, off, none⟩)) ∧ X.set m b ∧ Rep X.w (X.set m) T x (mem X.w b off)
  | .fn f os, c => c 0 = some (.func (.func f) #[] (os.map fun o => Value.pointer (some ⟨(X.φ o).blk, 0, none⟩)).toArray) ∧ ∀ o, o ∈ os → ∃ T a, X.objs o = some (.box T a)
  | .unit, _ => True
  | .pair a b, c => AVR X a c ∧ AVR X b (shift c a.sz)
  | .tnil, _ => False
  | .tcons _ _, _ => False

/-- A value of a slot, but for tuples. -/
def ValR (X : Ctx) (a : AV) (v : Value) : Prop := Value.isAgg v = a.isAgg ∧ v.cells.size = a.sz ∧ AVR X a (cv v)
def TupR (X : Ctx) : AV → List Value → Prop
  | .tnil, vs => vs = []
  | .tcons a b, vs => ∃ v r, vs = v :: r ∧ ValR X a v ∧ TupR X b r
  | _, _ => False
def SlotR (X : Ctx) : AV → Value → Prop
  | .undef, _ => True
  | .tnil, v => ∃ vs, v = .tuple vs ∧ TupR X .tnil vs.toList
  | .tcons a b, v => ∃ vs, v = .tuple vs ∧ TupR X (.tcons a b) vs.toList
  | a, v => ValR X a v
def SlotsR (X : Ctx) (ss : List AV) (ts : Array Value) : Prop := ss.length = ts.size ∧ ∀ i, SlotR X (ss.getD i .undef) (ts.getD i (.tuple #[]))

/-- An object lies in memory where it is said to. -/
def ObjR (X : Ctx) (l : Loc) : AObj → Prop
  | .box T a => a.fits T = true ∧ (∃ cs te, X.w.heap[l.blk]? = some (.cells cs te (0, 0)) ∧ cs.size = T.sz) ∧ AVR X a (mem X.w l.blk 0)
  | .row _ m T xs => l.len = xs.length ∧ (l.nil = true → xs = []) ∧ (l.nil = false → (∃ cs te, X.w.heap[l.blk]? = some (.cells cs te (0, 0)) ∧ l.cap * T.sz ≤ cs.size) ∧
      xs.length ≤ l.cap ∧ ∀ i (h : i < xs.length), Rep X.w (X.set m) T xs[i] (mem X.w l.blk (i * T.sz)))
  | .imm _ m T xs => l.len = xs.length ∧ Rep X.w (X.set m) (.slice T) xs (fun _ => some l.sl)
/-- Block b is object o's own. -/
def Own (objs : Objs) (φ : Nat → Loc) (o b : Nat) : Prop :=
  match objs o with
  | some (.box _ _) => b = (φ o).blk
  | some (.row _ _ _ _) => (φ o).nil = false ∧ b = (φ o).blk
  | _ => False

/-- What was there when the call began is as it was, but for the blocks of S. -/
structure Keep (S : Bs) (w w' : World) : Prop where
  os : w'.os = w.os
  tape : w'.tape = w.tape
  output : w'.output = w.output
  size : w.heap.size ≤ w'.heap.size
  block : ∀ k, k < w.heap.size → ¬ S k → w'.heap[k]? = w.heap[k]?
theorem Keep.refl (S : Bs) (w : World) : Keep S w w := ⟨rfl, rfl, rfl, Nat.le_refl _, fun _ _ _ => rfl⟩
theorem Keep.trans {S S' : Bs} {a b c : World} (h : Keep S a b) (k : Keep S' b c) (hs : ∀ x, x < a.heap.size → S' x → S x) : Keep S a c :=
  ⟨k.os.trans h.os, k.tape.trans h.tape, k.output.trans h.output, Nat.le_trans h.size k.size,
    fun i hi hn => (k.block i (Nat.lt_of_lt_of_le hi h.size) (fun hx => hn (hs i hi hx))).trans (h.block i hi hn)⟩

/-- What holds all through a call: the world at its begin; the blocks that results may lead to, those that were lent, those that it may write. -/
structure Fix where
  w0 : World
  I0 : Bs
  J0 : Bs
  S : Bs

structure Fits (E : Fix) (X : Ctx) : Prop where
  keep : Keep E.S E.w0 X.w
  objs : ∀ o ob, X.objs o = some ob → ObjR X (X.φ o) ob
  dist : ∀ o o' b, Own X.objs X.φ o b → Own X.objs X.φ o' b → o = o'
  ownJ : ∀ o b, Own X.objs X.φ o b → ¬ X.J b
  ownw : ∀ o b, Own X.objs X.φ o b → b < X.w.heap.size ∧ (E.w0.heap.size ≤ b ∨ E.S b)
  rown : ∀ o v m T xs, X.objs o = some (.row v m T xs) → (X.φ o).nil = false → E.w0.heap.size ≤ (X.φ o).blk
  ij : ∀ b, X.I b → X.J b
  jlt : ∀ b, X.J b → b < X.w.heap.size
  i0 : ∀ b, E.I0 b → X.I b
  iw : ∀ b, X.I b → E.I0 b ∨ E.w0.heap.size ≤ b
  j0 : ∀ b, E.J0 b → X.J b
  jw : ∀ b, X.J b → E.J0 b ∨ E.w0.heap.size ≤ b

theorem Ctx.set_le {E : Fix} {X : Ctx} (h : Fits E X) {m : Bool} : ∀ b, X.set m b → X.J b := by
  intro b hb
  cases m
  · exact h.ij b hb
  · exact hb

/-- How an object may turn, so that what is known of others' values stays. -/
def ObC (l l' : Loc) : AObj → Option AObj → Prop
  | .box T _, some (.box T' _) => T' = T ∧ l' = l
  | .row v _ T _, some (.row v' _ T' _) => T' = T ∧ v ≤ v' ∧ (v = v' → l' = l)
  | .row v _ T _, some (.imm v' _ T' _) => T' = T ∧ v ≤ v' ∧ (v = v' → l' = l)
  | .imm v _ T _, some (.imm v' _ T' _) => T' = T ∧ v ≤ v' ∧ (v = v' → l' = l)
  | _, _ => False
structure Evo (X X' : Ctx) : Prop where
  agree : Agree X.J X.w X'.w
  i : ∀ b, X.I b → X'.I b
  j : ∀ b, X.J b → X'.J b
  ij : ∀ b, X.I b → X.J b
  obj : ∀ o ob, X.objs o = some ob → ObC (X.φ o) (X'.φ o) ob (X'.objs o)

theorem Rep.evo {X X' : Ctx} (h : Evo X X') {m : Bool} {T : Ty} {x : T.D} {c : Cs} (r : Rep X.w (X.set m) T x c) : Rep X'.w (X'.set m) T x c := by
  cases m
  · exact (r.frame (h.agree.mono h.ij)).mono h.i
  · exact (r.frame h.agree).mono h.j
theorem AVR.evo {X X' : Ctx} (h : Evo X X') : ∀ {a : AV} {c : Cs}, AVR X a c → AVR X' a c := by
  intro a
  induction a with
  | undef => intro c r; exact r
  | pv m T x => intro c r; exact Rep.evo h r
  | nilv => intro c r; exact r
  | row o v =>
    intro c r
    simp only [AVR] at r ⊢
    cases ho : X.objs o with
    | none => rw [ho] at r; exact r.elim
    | some ob =>
      have k := h.obj o ob ho
      rw [ho] at r
      cases ob with
      | box T a => exact r.elim
      | row v1 m1 T1 xs1 =>
        cases ho' : X'.objs o with
        | none => rw [ho'] at k; exact k.elim
        | some ob' =>
          rw [ho'] at k
          cases ob' with
          | box T a => exact k.elim
          | row v2 m2 T2 xs2 =>
            obtain ⟨_, k1, k2⟩ := k
            exact ⟨Nat.le_trans r.1 k1, fun e => by
              have e1 : v = v1 := Nat.le_antisymm r.1 (e ▸ k1)
              rw [k2 (e1.symm.trans e)]; exact r.2 e1⟩
          | imm v2 m2 T2 xs2 =>
            obtain ⟨_, k1, k2⟩ := k
            exact ⟨Nat.le_trans r.1 k1, fun e => by
              have e1 : v = v1 := Nat.le_antisymm r.1 (e ▸ k1)
              rw [k2 (e1.symm.trans e)]; exact r.2 e1⟩
      | imm v1 m1 T1 xs1 =>
        cases ho' : X'.objs o with
        | none => rw [ho'] at k; exact k.elim
        | some ob' =>
          rw [ho'] at k
          cases ob' with
          | box T a => exact k.elim
          | row v2 m2 T2 xs2 => exact k.elim
          | imm v2 m2 T2 xs2 =>
            obtain ⟨_, k1, k2⟩ := k
            exact ⟨Nat.le_trans r.1 k1, fun e => by
              have e1 : v = v1 := Nat.le_antisymm r.1 (e ▸ k1)
              rw [k2 (e1.symm.trans e)]; exact r.2 e1⟩
  | bptr o p =>
    intro c r
    simp only [AVR] at r ⊢
    cases ho : X.objs o with
    | none => rw [ho] at r; exact r.elim
    | some ob =>
      have k := h.obj o ob ho
      rw [ho] at r
      cases ob with
      | row v1 m1 T1 xs1 => exact r.elim
      | imm v1 m1 T1 xs1 => exact r.elim
      | box T a =>
        cases ho' : X'.objs o with
        | none => rw [ho'] at k; exact k.elim
        | some ob' =>
          rw [ho'] at k
          cases ob' with
          | row v1 m1 T1 xs1 => exact k.elim
          | imm v1 m1 T1 xs1 => exact k.elim
          | box T' a' =>
            obtain ⟨rfl, k2⟩ := k
            dsimp only at r ⊢
            rw [k2]; exact r
  | rptr o v i p =>
    intro c r
    simp only [AVR] at r ⊢
    cases ho : X.objs o with
    | none => rw [ho] at r; exact r.elim
    | some ob =>
      have k := h.obj o ob ho
      rw [ho] at r
      cases ob with
      | box T a => exact r.elim
      | row v1 m1 T1 xs1 =>
        cases ho' : X'.objs o with
        | none => rw [ho'] at k; exact k.elim
        | some ob' =>
          rw [ho'] at k
          cases ob' with
          | box T a => exact k.elim
          | row v2 m2 T2 xs2 =>
            obtain ⟨rfl, k1, k2⟩ := k
            exact ⟨Nat.le_trans r.1 k1, fun e => by
              have e1 : v = v1 := Nat.le_antisymm r.1 (e ▸ k1)
              rw [k2 (e1.symm.trans e)]; exact r.2 e1⟩
          | imm v2 m2 T2 xs2 => exact Nat.le_trans r.1 k.2.1
      | imm v1 m1 T1 xs1 =>
        cases ho' : X'.objs o with
        | none => rw [ho'] at k; exact k.elim
        | some ob' =>
          rw [ho'] at k
          cases ob' with
          | box T a => exact k.elim
          | row v2 m2 T2 xs2 => exact k.elim
          | imm v2 m2 T2 xs2 => exact Nat.le_trans r k.2.1
  | pp m T x =>
    intro c r
    obtain ⟨b, off, h1, h2, h3⟩ := r
    have hj : X.J b := by
      cases m
      · exact h.ij b h2
      · exact h2
    refine ⟨b, off, h1, ?_, ?_⟩
    · cases m
      · exact h.i b h2
      · exact h.j b h2
    · rw [mem_of_block (h.agree b hj)]; exact Rep.evo h h3
  | fn f os =>
    intro c r
    obtain ⟨r1, r2⟩ := r
    have hb : ∀ o, o ∈ os → X'.φ o = X.φ o ∧ ∃ T a, X'.objs o = some (.box T a) := by
      intro o hm
      obtain ⟨T, a, ho⟩ := r2 o hm
      have k := h.obj o _ ho
      cases ho' : X'.objs o with
      | none => rw [ho'] at k; exact k.elim
      | some ob' =>
        rw [ho'] at k
        cases ob' with
        | row v1 m1 T1 xs1 => exact k.elim
        | imm v1 m1 T1 xs1 => exact k.elim
        | box T' a' => exact ⟨k.2, T', a', rfl⟩
    refine ⟨?_, fun o hm => (hb o hm).2⟩
    rw [r1]
    congr 3
    refine List.map_congr_left fun o hm => ?_
    rw [(hb o hm).1]
  | unit => intro c r; exact r
  | pair a b iha ihb => intro c r; exact ⟨iha r.1, ihb r.2⟩
  | tnil => intro c r; exact r
  | tcons a b => intro c r; exact r
theorem ValR.evo {X X' : Ctx} (h : Evo X X') {a : AV} {v : Value} (r : ValR X a v) : ValR X' a v := ⟨r.1, r.2.1, r.2.2.evo h⟩
theorem TupR.evo {X X' : Ctx} (h : Evo X X') : ∀ {a : AV} {vs : List Value}, TupR X a vs → TupR X' a vs := by
  intro a
  induction a with
  | tnil => intro vs r; exact r
  | tcons a b iha ihb =>
    intro vs r
    obtain ⟨v, r', e, r1, r2⟩ := r
    exact ⟨v, r', e, r1.evo h, ihb r2⟩
  | _ => intro vs r; exact r.elim
theorem SlotR.evo {X X' : Ctx} (h : Evo X X') : ∀ {a : AV} {v : Value}, SlotR X a v → SlotR X' a v := by
  intro a v r
  cases a with
  | undef => trivial
  | tnil => obtain ⟨vs, e, r⟩ := r; exact ⟨vs, e, TupR.evo h r⟩
  | tcons a b => obtain ⟨vs, e, r⟩ := r; exact ⟨vs, e, TupR.evo h r⟩
  | _ => exact ValR.evo h r
theorem SlotsR.evo {X X' : Ctx} (h : Evo X X') {ss : List AV} {ts : Array Value} (r : SlotsR X ss ts) : SlotsR X' ss ts := ⟨r.1, fun i => (r.2 i).evo h⟩
theorem SlotsR.put {X : Ctx} {ss : List AV} {ts : Array Value} (r : SlotsR X ss ts) {a : AV} {v : Value} (d : Nat) (h : SlotR X a v) : SlotsR X (ss.set d a) (ts.setIfInBounds d v) := by
  refine ⟨by simp [r.1], fun i => ?_⟩
  by_cases hi : i = d
  · subst hi
    by_cases hl : i < ss.length
    · have hl' : i < ts.size := r.1 ▸ hl
      simpa [hl, hl', List.getD_eq_getElem?_getD, Array.getD_eq_getD_getElem?] using h
    · have hl' : ¬ i < ts.size := r.1 ▸ hl
      simp only [List.getD_eq_getElem?_getD, Array.getD_eq_getD_getElem?]
      rw [List.getElem?_eq_none (by simp; omega)]
      trivial
  · have := r.2 i
    simpa [List.getD_eq_getElem?_getD, Array.getD_eq_getD_getElem?, List.getElem?_set_ne (Ne.symm hi), Array.getElem?_setIfInBounds_ne (Ne.symm hi)] using this
end Go.Proofs.Ytbpfllifhpdlfaa.Ev
