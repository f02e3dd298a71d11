/- Proved: the law laws.FnExactWitness returns true for every input, and the input reads behind the call as it read before. There are no conditions. (The last theorem: fnExactWitness_holds.) -/
import Derived.Calls
import Derived.KernelRfl
import Derived.Laws.CopyRow
import Derived.Laws.Append
import Derived.Laws.AppendOwn
import Derived.Laws.IdiomCopy
import Derived.Laws.Cells
import Derived.Laws.Rows
import Derived.Laws.Small
import Derived.Laws.MakeOwn
import Derived.Laws.Tables
import Derived.Great.BuildSlice
/- Types of data, what a value of such a type is in memory, and that it stays so while the blocks it lies in stay. -/
namespace Go.Proofs.Ytmggpiijahiaiaa.Ev
open Go
set_option linter.unusedVariables false
set_option linter.unusedSimpArgs false

/-- The types of plain data. 'pair' and 'unit' make up a struct, field by field; 'opq' is one cell of which nothing is told. -/
inductive Ty where
  | int (k : IntKind)
  | bool
  | str
  | unit
  | pair (a b : Ty)
  | slice (e : Ty)
  | arr (n : Nat) (e : Ty)
  | opq
  deriving DecidableEq, Inhabited

/-- The values of a type, asv plain Lean has them. -/
@[reducible] def Ty.D : Ty → Type
  | .int _ => Int
  | .bool => Bool
  | .str => ByteArray
  | .unit => Unit
  | .pair a b => a.D × b.D
  | .slice e => List e.D
  | .arr _ e => List e.D
  | .opq => Unit

def Ty.zero : (T : Ty) → T.D
  | .int _ => (0 : Int)
  | .bool => false
  | .str => ByteArray.empty
  | .unit => ()
  | .pair a b => (a.zero, b.zero)
  | .slice _ => []
  | .arr n e => List.replicate n e.zero
  | .opq => ()

/-- How many cells. -/
def Ty.sz : Ty → Nat
  | .unit => 0
  | .pair a b => a.sz + b.sz
  | .arr n e => n * e.sz
  | _ => 1

/-- Is a value of it a row of cells ('.agg')? -/
def Ty.isAgg : Ty → Bool
  | .unit => true
  | .pair _ _ => true
  | .arr _ _ => true
  | _ => false

/-- Does it lead to no other memory? -/
def Ty.flat : Ty → Bool
  | .slice _ => false
  | .pair a b => a.flat && b.flat
  | .arr _ e => e.flat
  | _ => true

abbrev Cs := Nat → Option Value
abbrev Bs := Nat → Prop
/-- The cells of memory from a place on. -/
def mem (w : World) (b off : Nat) : Cs := fun j => w.cell? ⟨b, off + j, none⟩
def shift (c : Cs) (n : Nat) : Cs := fun j => c (n + j)

/-- A value that one cell can hold. -/
def okCell : Value → Prop
  | .agg _ => False
  | .tuple _ => False
  | _ => True

/-- The cells c tell the value x; what it leads to lies in blocks of I. -/
def Rep (w : World) (I : Bs) : (T : Ty) → T.D → Cs → Prop
  | .int k, x, c => c 0 = some (.int k x)
  | .bool, x, c => c 0 = some (.bool x)
  | .str, x, c => c 0 = some (.string x)
  | .unit, _, _ => True
  | .pair a b, x, c => Rep w I a x.1 c ∧ Rep w I b x.2 (shift c a.sz)
  | .slice e, xs, c => ∃ (ad : Option Addr) (cap : Nat), c 0 = some (.slice ad xs.length cap) ∧ xs.length ≤ cap ∧
      (0 < xs.length → ∃ b off, ad = some ⟨b, off, none⟩ ∧ I b ∧ ∀ i (h : i < xs.length), Rep w I e xs[i] (mem w b (off + i * e.sz)))
  | .arr n e, xs, c => xs.length = n ∧ ∀ i (h : i < xs.length), Rep w I e xs[i] (shift c (i * e.sz))
  | .opq, _, c => ∃ v, c 0 = some v ∧ okCell v

theorem shift_zero (c : Cs) : shift c 0 = c := by funext j; simp [shift]
theorem shift_shift (c : Cs) (m n : Nat) : shift (shift c m) n = shift c (m + n) := by funext j; simp [shift, Nat.add_assoc]
theorem mem_shift (w : World) (b off n : Nat) : shift (mem w b off) n = mem w b (off + n) := by funext j; simp [shift, mem, Nat.add_assoc]

/-- Blocks that are the same in both worlds. -/
def Agree (D : Bs) (w w' : World) : Prop := ∀ b, D b → w'.heap[b]? = w.heap[b]?
theorem Agree.refl (D : Bs) (w : World) : Agree D w w := fun _ _ => rfl
theorem Agree.trans {D : Bs} {a b c : World} (h : Agree D a b) (k : Agree D b c) : Agree D a c := fun x hx => (k x hx).trans (h x hx)
theorem Agree.mono {D D' : Bs} {a b : World} (h : Agree D a b) (k : ∀ x, D' x → D x) : Agree D' a b := fun x hx => h x (k x hx)
theorem cell_of_block {w w' : World} {b : Nat} (h : w'.heap[b]? = w.heap[b]?) (off : Nat) (s : Option Nat) : w'.cell? ⟨b, off, s⟩ = w.cell? ⟨b, off, s⟩ := by
  simp only [World.cell?, h]
theorem mem_of_block {w w' : World} {b : Nat} (h : w'.heap[b]? = w.heap[b]?) (off : Nat) : mem w' b off = mem w b off := by
  funext j; exact cell_of_block h _ _

theorem Rep.congr {w : World} {I : Bs} : ∀ {T : Ty} {x : T.D} {c c' : Cs}, (∀ j, j < T.sz → c' j = c j) → Rep w I T x c → Rep w I T x c' := by
  intro T
  induction T with
  | int k => intro x c c' h r; simp only [Rep] at r ⊢; rw [h 0 (by simp [Ty.sz])]; exact r
  | bool => intro x c c' h r; simp only [Rep] at r ⊢; rw [h 0 (by simp [Ty.sz])]; exact r
  | str => intro x c c' h r; simp only [Rep] at r ⊢; rw [h 0 (by simp [Ty.sz])]; exact r
  | unit => intro x c c' h r; simp only [Rep]
  | opq => intro x c c' h r; simp only [Rep] at r ⊢; rw [h 0 (by simp [Ty.sz])]; exact r
  | pair a b iha ihb =>
    intro x c c' h r
    simp only [Rep] at r ⊢
    exact ⟨iha (fun j hj => h j (by simp only [Ty.sz]; omega)) r.1, ihb (fun j hj => h _ (by simp only [Ty.sz]; omega)) r.2⟩
  | slice e ih => intro x c c' h r; simp only [Rep] at r ⊢; rw [h 0 (by simp [Ty.sz])]; exact r
  | arr n e ih =>
    intro x c c' h r
    simp only [Rep] at r ⊢
    obtain ⟨hl, r⟩ := r
    refine ⟨hl, fun i hi => ih (fun j hj => h _ ?_) (r i hi)⟩
    have h1 : (i + 1) * e.sz ≤ n * e.sz := Nat.mul_le_mul_right _ (by omega)
    rw [Nat.succ_mul] at h1
    show i * e.sz + j < n * e.sz
    omega

theorem Rep.frame {w w' : World} {I : Bs} (ha : Agree I w w') : ∀ {T : Ty} {x : T.D} {c : Cs}, Rep w I T x c → Rep w' I T x c := by
  intro T
  induction T with
  | int k => intro x c r; exact r
  | bool => intro x c r; exact r
  | str => intro x c r; exact r
  | unit => intro x c r; exact r
  | opq => intro x c r; exact r
  | pair a b iha ihb => intro x c r; exact ⟨iha r.1, ihb r.2⟩
  | slice e ih =>
    intro x c r
    obtain ⟨ad, cap, h1, h2, h3⟩ := r
    refine ⟨ad, cap, h1, h2, fun hp => ?_⟩
    obtain ⟨b, off, e1, hb, hr⟩ := h3 hp
    refine ⟨b, off, e1, hb, fun i hi => ?_⟩
    rw [mem_of_block (ha b hb)]
    exact ih (hr i hi)
  | arr n e ih => intro x c r; exact ⟨r.1, fun i hi => ih (r.2 i hi)⟩

theorem Rep.mono {w : World} {I J : Bs} (hij : ∀ b, I b → J b) : ∀ {T : Ty} {x : T.D} {c : Cs}, Rep w I T x c → Rep w J T x c := by
  intro T
  induction T with
  | int k => intro x c r; exact r
  | bool => intro x c r; exact r
  | str => intro x c r; exact r
  | unit => intro x c r; exact r
  | opq => intro x c r; exact r
  | pair a b iha ihb => intro x c r; exact ⟨iha r.1, ihb r.2⟩
  | slice e ih =>
    intro x c r
    obtain ⟨ad, cap, h1, h2, h3⟩ := r
    refine ⟨ad, cap, h1, h2, fun hp => ?_⟩
    obtain ⟨b, off, e1, hb, hr⟩ := h3 hp
    exact ⟨b, off, e1, hij b hb, fun i hi => ih (hr i hi)⟩
  | arr n e ih => intro x c r; exact ⟨r.1, fun i hi => ih (r.2 i hi)⟩

/-- What leads nowhere is told in any world, over any blocks. -/
theorem Rep.flat {w w' : World} {I J : Bs} : ∀ {T : Ty} {x : T.D} {c : Cs}, T.flat = true → Rep w I T x c → Rep w' J T x c := by
  intro T
  induction T with
  | int k => intro x c _ r; exact r
  | bool => intro x c _ r; exact r
  | str => intro x c _ r; exact r
  | unit => intro x c _ r; exact r
  | opq => intro x c _ r; exact r
  | pair a b iha ihb =>
    intro x c f r
    simp only [Ty.flat, Bool.and_eq_true] at f
    exact ⟨iha f.1 r.1, ihb f.2 r.2⟩
  | slice e ih => intro x c f r; simp [Ty.flat] at f
  | arr n e ih => intro x c f r; exact ⟨r.1, fun i hi => ih f (r.2 i hi)⟩

/-- Each cell is there, and one that can be stored. -/
theorem Rep.cells {w : World} {I : Bs} : ∀ {T : Ty} {x : T.D} {c : Cs}, Rep w I T x c → ∀ j, j < T.sz → ∃ v, c j = some v ∧ okCell v := by
  intro T
  induction T with
  | int k => intro x c r j hj; obtain rfl : j = 0 := by simp [Ty.sz] at hj; exact hj
             exact ⟨_, r, trivial⟩
  | bool => intro x c r j hj; obtain rfl : j = 0 := by simp [Ty.sz] at hj; exact hj
            exact ⟨_, r, trivial⟩
  | str => intro x c r j hj; obtain rfl : j = 0 := by simp [Ty.sz] at hj; exact hj
           exact ⟨_, r, trivial⟩
  | unit => intro x c r j hj; simp [Ty.sz] at hj
  | opq => intro x c r j hj; obtain rfl : j = 0 := by simp [Ty.sz] at hj; exact hj
           exact r
  | pair a b iha ihb =>
    intro x c r j hj
    by_cases h : j < a.sz
    · exact iha r.1 j h
    · obtain ⟨v, hv, ok⟩ := ihb r.2 (j - a.sz) (by simp only [Ty.sz] at hj; omega)
      refine ⟨v, ?_, ok⟩
      have : a.sz + (j - a.sz) = j := by omega
      rw [shift, this] at hv
      exact hv
  | slice e ih =>
    intro x c r j hj
    obtain rfl : j = 0 := by simp [Ty.sz] at hj; exact hj
    obtain ⟨ad, cap, h1, _⟩ := r
    exact ⟨_, h1, trivial⟩
  | arr n e ih =>
    intro x c r j hj
    obtain ⟨hl, r⟩ := r
    simp only [Ty.sz] at hj
    have he : 0 < e.sz := by
      rcases Nat.eq_zero_or_pos e.sz with h | h
      · rw [h] at hj; simp at hj
      · exact h
    have hi : j / e.sz < x.length := by rw [hl]; exact (Nat.div_lt_iff_lt_mul he).2 hj
    obtain ⟨v, hv, ok⟩ := ih (r (j / e.sz) hi) (j % e.sz) (Nat.mod_lt _ he)
    refine ⟨v, ?_, ok⟩
    have : j / e.sz * e.sz + j % e.sz = j := by rw [Nat.mul_comm]; exact Nat.div_add_mod j e.sz
    rw [shift, this] at hv
    exact hv

def Value.isAgg : Value → Bool
  | .agg _ => true
  | _ => false
/-- The cells of a value. -/
def cv (v : Value) : Cs := fun j => v.cells[j]?
end Go.Proofs.Ytmggpiijahiaiaa.Ev
/- What an abstract run knows of values and of the memory that it owns, and when a machine's world fits it. -/
namespace Go.Proofs.Ytmggpiijahiaiaa.Ev
open Go
set_option linter.unusedVariables false
set_option linter.unusedSimpArgs false

/-- A step into a value: a pair's first or second part, an array's element. -/
inductive Step where
  | fst
  | snd
  | ix (i : Nat)
  deriving DecidableEq, Inhabited

/-- Where a path ends: how many cells on, and the type there. -/
def Ty.at : List Step → Ty → Option (Nat × Ty)
  | [], T => some (0, T)
  | .fst :: p, .pair a _ => Ty.at p a
  | .snd :: p, .pair a b => match Ty.at p b with
    | some (o, t) => some (a.sz + o, t)
    | none => none
  | .ix i :: p, .arr _ e => match Ty.at p e with
    | some (o, t) => some (i * e.sz + o, t)
    | none => none
  | _, _ => none
/-- Indices on a path lie in their arrays. -/
def PathOk : List Step → Ty → Prop
  | [], _ => True
  | .fst :: p, .pair a _ => PathOk p a
  | .snd :: p, .pair _ b => PathOk p b
  | .ix i :: p, .arr n e => i < n ∧ PathOk p e
  | _, _ => False

/-- What is known of a value. 'pv m': plain data (m: it may lead to memory that was lent); 'nilv': the nil slice; 'row o v': a slice that is object o, at its version v; 'bptr': a pointer into the variable that is object o; 'rptr': into element i of object o; 'pp': to plain data that lies in memory; 'fn': a function, with the variables that it holds. -/
inductive AV where
  | undef
  | pv (m : Bool) (T : Ty) (x : T.D)
  | nilv
  | row (o v : Nat)
  | bptr (o : Nat) (p : List Step)
  | rptr (o v i : Nat) (p : List Step)
  | pp (m : Bool) (T : Ty) (x : T.D)
  | fn (f : FuncId) (os : List Nat)
  | unit
  | pair (a b : AV)
  | tnil
  | tcons (a b : AV)
instance : Inhabited AV := ⟨.undef⟩

/-- A variable in memory; a row of the call's own; a row that is told to last. -/
inductive AObj where
  | box (T : Ty) (a : AV)
  | row (v : Nat) (m : Bool) (T : Ty) (xs : List T.D)
  | imm (v : Nat) (m : Bool) (T : Ty) (xs : List T.D)

abbrev Objs := Nat → Option AObj
def Objs.put (s : Objs) (o : Nat) (a : AObj) : Objs := fun i => bif Nat.beq i o then some a else s i
theorem Objs.put_same (s : Objs) (o : Nat) (a : AObj) : s.put o a o = some a := by simp [Objs.put]
theorem Objs.put_ne (s : Objs) (o : Nat) (a : AObj) {i : Nat} (h : i ≠ o) : s.put o a i = s i := by
  have : Nat.beq i o = false := by
    rw [← Bool.not_eq_true]
    exact fun e => h (Nat.eq_of_beq_eq_true e)
  simp [Objs.put, this]

structure Loc where
  blk : Nat
  len : Nat
  cap : Nat
  nil : Bool
def Loc.sl (l : Loc) : Value := if l.nil then .slice none 0 0 else .slice (some ⟨l.blk, 0, none⟩) l.len l.cap

def AV.sz : AV → Nat
  | .pv _ T _ => T.sz
  | .unit => 0
  | .pair a b => a.sz + b.sz
  | _ => 1
def AV.isAgg : AV → Bool
  | .pv _ T _ => T.isAgg
  | .unit => true
  | .pair _ _ => true
  | _ => false
/-- It may stand in a variable of this type. -/
def AV.fits : AV → Ty → Bool
  | .pv _ T' _, T => decide (T' = T)
  | .unit, .unit => true
  | .pair a b, .pair A B => a.fits A && b.fits B
  | .row _ _, .slice _ => true
  | .nilv, .slice _ => true
  | .bptr _ _, .opq => true
  | .rptr _ _ _ _, .opq => true
  | .pp _ _ _, .opq => true
  | .fn _ _, .opq => true
  | _, _ => false
theorem AV.fits_sz : ∀ {a : AV} {T : Ty}, a.fits T = true → a.sz = T.sz := by
  intro a
  induction a with
  | pv m T x => intro T' h; simp [AV.fits] at h; subst h; rfl
  | unit => intro T h; cases T <;> simp [AV.fits] at h; rfl
  | pair a b iha ihb =>
    intro T h
    cases T <;> simp [AV.fits] at h
    simp only [AV.sz, Ty.sz, iha h.1, ihb h.2]
  | row o v => intro T h; cases T <;> simp [AV.fits] at h; rfl
  | nilv => intro T h; cases T <;> simp [AV.fits] at h; rfl
  | bptr o p => intro T h; cases T <;> simp [AV.fits] at h; rfl
  | rptr o v i p => intro T h; cases T <;> simp [AV.fits] at h; rfl
  | pp m T x => intro T h; cases T <;> simp [AV.fits] at h; rfl
  | fn f os => intro T h; cases T <;> simp [AV.fits] at h; rfl
  | undef => intro T h; cases T <;> simp [AV.fits] at h
  | tnil => intro T h; cases T <;> simp [AV.fits] at h
  | tcons a b => intro T h; cases T <;> simp [AV.fits] at h
theorem AV.fits_agg : ∀ {a : AV} {T : Ty}, a.fits T = true → a.isAgg = T.isAgg := by
  intro a T h
  cases a with
  | pv m T' x => simp [AV.fits] at h; subst h; rfl
  | _ => cases T <;> simp [AV.fits] at h <;> rfl

structure Ctx where
  w : World
  I : Bs
  J : Bs
  objs : Objs
  φ : Nat → Loc
def Ctx.set (X : Ctx) (m : Bool) : Bs := if m then X.J else X.I

/-- The cells c hold what is known. -/
def AVR (X : Ctx) : AV → Cs → Prop
  | .undef, _ => True
  | .pv m T x, c => Rep X.w (X.set m) T x c
  | .nilv, c => c 0 = some (.slice none 0 0)
  | .row o v, c => match X.objs o with
    | some (.row v' _ _ _) => v ≤ v' ∧ (v = v' → c 0 = some (X.φ o).sl)
    | some (.imm v' _ _ _) => v ≤ v' ∧ (v = v' → c 0 = some (X.φ o).sl)
    | _ => False
  | .bptr o p, c => match X.objs o with
    | some (.box T _) => PathOk p T ∧ ∀ off T', T.at p = some (off, T') → c 0 = some (.pointer (some ⟨(X.φ o).blk, off, none⟩))
    | _ => False
  | .rptr o v i p, c => match X.objs o with
    | some (.row v' _ T _) => v ≤ v' ∧ (v = v' → i < (X.φ o).len ∧ PathOk p T ∧ ∀ off T', T.at p = some (off, T') → c 0 = some (.pointer (some ⟨(X.φ o).blk, i * T.sz + off, none⟩)))
    | some (.imm v' _ _ _) => v ≤ v'
    | _ => False
  | .pp m T x, c => ∃ b off, c 0 = some (.pointer (some ⟨b, off, none⟩)) ∧ X.set m b ∧ Rep X.w (X.set m) T x (mem X.w b off)
  | .fn f os, c => c 0 = some (.func (.func f) #[] (os.map fun o => Value.pointer (some ⟨(X.φ o).blk, 0, none⟩)).toArray) ∧ ∀ o, o ∈ os → ∃ T a, X.objs o = some (.box T a)
  | .unit, _ => True
  | .pair a b, c => AVR X a c ∧ AVR X b (shift c a.sz)
  | .tnil, _ => False
  | .tcons _ _, _ => False

/-- A value of a slot, but for tuples. -/
def ValR (X : Ctx) (a : AV) (v : Value) : Prop := Value.isAgg v = a.isAgg ∧ v.cells.size = a.sz ∧ AVR X a (cv v)
def TupR (X : Ctx) : AV → List Value → Prop
  | .tnil, vs => vs = []
  | .tcons a b, vs => ∃ v r, vs = v :: r ∧ ValR X a v ∧ TupR X b r
  | _, _ => False
def SlotR (X : Ctx) : AV → Value → Prop
  | .undef, _ => True
  | .tnil, v => ∃ vs, v = .tuple vs ∧ TupR X .tnil vs.toList
  | .tcons a b, v => ∃ vs, v = .tuple vs ∧ TupR X (.tcons a b) vs.toList
  | a, v => ValR X a v
def SlotsR (X : Ctx) (ss : List AV) (ts : Array Value) : Prop := ss.length = ts.size ∧ ∀ i, SlotR X (ss.getD i .undef) (ts.getD i (.tuple #[]))

/-- An object lies in memory where it is said to. -/
def ObjR (X : Ctx) (l : Loc) : AObj → Prop
  | .box T a => a.fits T = true ∧ (∃ cs te, X.w.heap[l.blk]? = some (.cells cs te (0, 0)) ∧ cs.size = T.sz) ∧ AVR X a (mem X.w l.blk 0)
  | .row _ m T xs => l.len = xs.length ∧ (l.nil = true → xs = []) ∧ (l.nil = false → (∃ cs te, X.w.heap[l.blk]? = some (.cells cs te (0, 0)) ∧ l.cap * T.sz ≤ cs.size) ∧
      xs.length ≤ l.cap ∧ ∀ i (h : i < xs.length), Rep X.w (X.set m) T xs[i] (mem X.w l.blk (i * T.sz)))
  | .imm _ m T xs => l.len = xs.length ∧ Rep X.w (X.set m) (.slice T) xs (fun _ => some l.sl)
/-- Block b is object o's own. -/
def Own (objs : Objs) (φ : Nat → Loc) (o b : Nat) : Prop :=
  match objs o with
  | some (.box _ _) => b = (φ o).blk
  | some (.row _ _ _ _) => (φ o).nil = false ∧ b = (φ o).blk
  | _ => False

/-- What was there when the call began is asv it was, but for the blocks of S. -/
structure Keep (S : Bs) (w w' : World) : Prop where
  os : w'.os = w.os
  tape : w'.tape = w.tape
  output : w'.output = w.output
  size : w.heap.size ≤ w'.heap.size
  block : ∀ k, k < w.heap.size → ¬ S k → w'.heap[k]? = w.heap[k]?
theorem Keep.refl (S : Bs) (w : World) : Keep S w w := ⟨rfl, rfl, rfl, Nat.le_refl _, fun _ _ _ => rfl⟩
theorem Keep.trans {S S' : Bs} {a b c : World} (h : Keep S a b) (k : Keep S' b c) (hs : ∀ x, x < a.heap.size → S' x → S x) : Keep S a c :=
  ⟨k.os.trans h.os, k.tape.trans h.tape, k.output.trans h.output, Nat.le_trans h.size k.size,
    fun i hi hn => (k.block i (Nat.lt_of_lt_of_le hi h.size) (fun hx => hn (hs i hi hx))).trans (h.block i hi hn)⟩

/-- What holds all through a call: the world at its begin; the blocks that results may lead to, those that were lent, those that it may write. -/
structure Fix where
  w0 : World
  I0 : Bs
  J0 : Bs
  S : Bs

structure Fits (E : Fix) (X : Ctx) : Prop where
  keep : Keep E.S E.w0 X.w
  objs : ∀ o ob, X.objs o = some ob → ObjR X (X.φ o) ob
  dist : ∀ o o' b, Own X.objs X.φ o b → Own X.objs X.φ o' b → o = o'
  ownJ : ∀ o b, Own X.objs X.φ o b → ¬ X.J b
  ownw : ∀ o b, Own X.objs X.φ o b → b < X.w.heap.size ∧ (E.w0.heap.size ≤ b ∨ E.S b)
  ij : ∀ b, X.I b → X.J b
  jlt : ∀ b, X.J b → b < X.w.heap.size
  i0 : ∀ b, E.I0 b → X.I b
  iw : ∀ b, X.I b → E.I0 b ∨ E.w0.heap.size ≤ b ∨ E.S b
  j0 : ∀ b, E.J0 b → X.J b
  jw : ∀ b, X.J b → E.J0 b ∨ E.w0.heap.size ≤ b ∨ E.S b

theorem Ctx.set_le {E : Fix} {X : Ctx} (h : Fits E X) {m : Bool} : ∀ b, X.set m b → X.J b := by
  intro b hb
  cases m
  · exact h.ij b hb
  · exact hb

/-- How an object may turn, so that what is known of others' values stays. -/
def ObC (l l' : Loc) : AObj → Option AObj → Prop
  | .box T _, some (.box T' _) => T' = T ∧ l' = l
  | .row v _ T _, some (.row v' _ T' _) => T' = T ∧ v ≤ v' ∧ (v = v' → l' = l)
  | .row v _ T _, some (.imm v' _ T' _) => T' = T ∧ v ≤ v' ∧ (v = v' → l' = l)
  | .imm v _ T _, some (.imm v' _ T' _) => T' = T ∧ v ≤ v' ∧ (v = v' → l' = l)
  | _, _ => False
structure Evo (X X' : Ctx) : Prop where
  agree : Agree X.J X.w X'.w
  i : ∀ b, X.I b → X'.I b
  j : ∀ b, X.J b → X'.J b
  ij : ∀ b, X.I b → X.J b
  obj : ∀ o ob, X.objs o = some ob → ObC (X.φ o) (X'.φ o) ob (X'.objs o)

theorem Rep.evo {X X' : Ctx} (h : Evo X X') {m : Bool} {T : Ty} {x : T.D} {c : Cs} (r : Rep X.w (X.set m) T x c) : Rep X'.w (X'.set m) T x c := by
  cases m
  · exact (r.frame (h.agree.mono h.ij)).mono h.i
  · exact (r.frame h.agree).mono h.j
theorem AVR.evo {X X' : Ctx} (h : Evo X X') : ∀ {a : AV} {c : Cs}, AVR X a c → AVR X' a c := by
  intro a
  induction a with
  | undef => intro c r; exact r
  | pv m T x => intro c r; exact Rep.evo h r
  | nilv => intro c r; exact r
  | row o v =>
    intro c r
    simp only [AVR] at r ⊢
    cases ho : X.objs o with
    | none => rw [ho] at r; exact r.elim
    | some ob =>
      have k := h.obj o ob ho
      rw [ho] at r
      cases ob with
      | box T a => exact r.elim
      | row v1 m1 T1 xs1 =>
        cases ho' : X'.objs o with
        | none => rw [ho'] at k; exact k.elim
        | some ob' =>
          rw [ho'] at k
          cases ob' with
          | box T a => exact k.elim
          | row v2 m2 T2 xs2 =>
            obtain ⟨_, k1, k2⟩ := k
            exact ⟨Nat.le_trans r.1 k1, fun e => by
              have e1 : v = v1 := Nat.le_antisymm r.1 (e ▸ k1)
              rw [k2 (e1.symm.trans e)]; exact r.2 e1⟩
          | imm v2 m2 T2 xs2 =>
            obtain ⟨_, k1, k2⟩ := k
            exact ⟨Nat.le_trans r.1 k1, fun e => by
              have e1 : v = v1 := Nat.le_antisymm r.1 (e ▸ k1)
              rw [k2 (e1.symm.trans e)]; exact r.2 e1⟩
      | imm v1 m1 T1 xs1 =>
        cases ho' : X'.objs o with
        | none => rw [ho'] at k; exact k.elim
        | some ob' =>
          rw [ho'] at k
          cases ob' with
          | box T a => exact k.elim
          | row v2 m2 T2 xs2 => exact k.elim
          | imm v2 m2 T2 xs2 =>
            obtain ⟨_, k1, k2⟩ := k
            exact ⟨Nat.le_trans r.1 k1, fun e => by
              have e1 : v = v1 := Nat.le_antisymm r.1 (e ▸ k1)
              rw [k2 (e1.symm.trans e)]; exact r.2 e1⟩
  | bptr o p =>
    intro c r
    simp only [AVR] at r ⊢
    cases ho : X.objs o with
    | none => rw [ho] at r; exact r.elim
    | some ob =>
      have k := h.obj o ob ho
      rw [ho] at r
      cases ob with
      | row v1 m1 T1 xs1 => exact r.elim
      | imm v1 m1 T1 xs1 => exact r.elim
      | box T a =>
        cases ho' : X'.objs o with
        | none => rw [ho'] at k; exact k.elim
        | some ob' =>
          rw [ho'] at k
          cases ob' with
          | row v1 m1 T1 xs1 => exact k.elim
          | imm v1 m1 T1 xs1 => exact k.elim
          | box T' a' =>
            obtain ⟨rfl, k2⟩ := k
            dsimp only at r ⊢
            rw [k2]; exact r
  | rptr o v i p =>
    intro c r
    simp only [AVR] at r ⊢
    cases ho : X.objs o with
    | none => rw [ho] at r; exact r.elim
    | some ob =>
      have k := h.obj o ob ho
      rw [ho] at r
      cases ob with
      | box T a => exact r.elim
      | row v1 m1 T1 xs1 =>
        cases ho' : X'.objs o with
        | none => rw [ho'] at k; exact k.elim
        | some ob' =>
          rw [ho'] at k
          cases ob' with
          | box T a => exact k.elim
          | row v2 m2 T2 xs2 =>
            obtain ⟨rfl, k1, k2⟩ := k
            exact ⟨Nat.le_trans r.1 k1, fun e => by
              have e1 : v = v1 := Nat.le_antisymm r.1 (e ▸ k1)
              rw [k2 (e1.symm.trans e)]; exact r.2 e1⟩
          | imm v2 m2 T2 xs2 => exact Nat.le_trans r.1 k.2.1
      | imm v1 m1 T1 xs1 =>
        cases ho' : X'.objs o with
        | none => rw [ho'] at k; exact k.elim
        | some ob' =>
          rw [ho'] at k
          cases ob' with
          | box T a => exact k.elim
          | row v2 m2 T2 xs2 => exact k.elim
          | imm v2 m2 T2 xs2 => exact Nat.le_trans r k.2.1
  | pp m T x =>
    intro c r
    obtain ⟨b, off, h1, h2, h3⟩ := r
    have hj : X.J b := by
      cases m
      · exact h.ij b h2
      · exact h2
    refine ⟨b, off, h1, ?_, ?_⟩
    · cases m
      · exact h.i b h2
      · exact h.j b h2
    · rw [mem_of_block (h.agree b hj)]; exact Rep.evo h h3
  | fn f os =>
    intro c r
    obtain ⟨r1, r2⟩ := r
    have hb : ∀ o, o ∈ os → X'.φ o = X.φ o ∧ ∃ T a, X'.objs o = some (.box T a) := by
      intro o hm
      obtain ⟨T, a, ho⟩ := r2 o hm
      have k := h.obj o _ ho
      cases ho' : X'.objs o with
      | none => rw [ho'] at k; exact k.elim
      | some ob' =>
        rw [ho'] at k
        cases ob' with
        | row v1 m1 T1 xs1 => exact k.elim
        | imm v1 m1 T1 xs1 => exact k.elim
        | box T' a' => exact ⟨k.2, T', a', rfl⟩
    refine ⟨?_, fun o hm => (hb o hm).2⟩
    rw [r1]
    congr 3
    refine List.map_congr_left fun o hm => ?_
    rw [(hb o hm).1]
  | unit => intro c r; exact r
  | pair a b iha ihb => intro c r; exact ⟨iha r.1, ihb r.2⟩
  | tnil => intro c r; exact r
  | tcons a b => intro c r; exact r
theorem ValR.evo {X X' : Ctx} (h : Evo X X') {a : AV} {v : Value} (r : ValR X a v) : ValR X' a v := ⟨r.1, r.2.1, r.2.2.evo h⟩
theorem TupR.evo {X X' : Ctx} (h : Evo X X') : ∀ {a : AV} {vs : List Value}, TupR X a vs → TupR X' a vs := by
  intro a
  induction a with
  | tnil => intro vs r; exact r
  | tcons a b iha ihb =>
    intro vs r
    obtain ⟨v, r', e, r1, r2⟩ := r
    exact ⟨v, r', e, r1.evo h, ihb r2⟩
  | _ => intro vs r; exact r.elim
theorem SlotR.evo {X X' : Ctx} (h : Evo X X') : ∀ {a : AV} {v : Value}, SlotR X a v → SlotR X' a v := by
  intro a v r
  cases a with
  | undef => trivial
  | tnil => obtain ⟨vs, e, r⟩ := r; exact ⟨vs, e, TupR.evo h r⟩
  | tcons a b => obtain ⟨vs, e, r⟩ := r; exact ⟨vs, e, TupR.evo h r⟩
  | _ => exact ValR.evo h r
theorem SlotsR.evo {X X' : Ctx} (h : Evo X X') {ss : List AV} {ts : Array Value} (r : SlotsR X ss ts) : SlotsR X' ss ts := ⟨r.1, fun i => (r.2 i).evo h⟩
theorem SlotsR.put {X : Ctx} {ss : List AV} {ts : Array Value} (r : SlotsR X ss ts) {a : AV} {v : Value} (d : Nat) (h : SlotR X a v) : SlotsR X (ss.set d a) (ts.setIfInBounds d v) := by
  refine ⟨by simp [r.1], fun i => ?_⟩
  by_cases hi : i = d
  · subst hi
    by_cases hl : i < ss.length
    · have hl' : i < ts.size := r.1 ▸ hl
      simpa [hl, hl', List.getD_eq_getElem?_getD, Array.getD_eq_getD_getElem?] using h
    · have hl' : ¬ i < ts.size := r.1 ▸ hl
      simp only [List.getD_eq_getElem?_getD, Array.getD_eq_getD_getElem?]
      rw [List.getElem?_eq_none (by simp; omega)]
      trivial
  · have := r.2 i
    simpa [List.getD_eq_getElem?_getD, Array.getD_eq_getD_getElem?, List.getElem?_set_ne (Ne.symm hi), Array.getElem?_setIfInBounds_ne (Ne.symm hi)] using this
end Go.Proofs.Ytmggpiijahiaiaa.Ev
/- Parts of a value: reading one, turning one; a struct told part by part, or whole. -/
namespace Go.Proofs.Ytmggpiijahiaiaa.Ev
open Go
set_option linter.unusedVariables false
set_option linter.unusedSimpArgs false

theorem AVR.congr {X : Ctx} : ∀ {a : AV} {c c' : Cs}, (∀ j, j < a.sz → c' j = c j) → AVR X a c → AVR X a c' := by
  intro a
  induction a with
  | undef => intro c c' h r; trivial
  | pv m T x => intro c c' h r; exact Rep.congr h r
  | nilv => intro c c' h r; simp only [AVR] at r ⊢; rw [h 0 (by simp [AV.sz])]; exact r
  | row o v => intro c c' h r; simp only [AVR] at r ⊢; rw [h 0 (by simp [AV.sz])]; exact r
  | bptr o p => intro c c' h r; simp only [AVR] at r ⊢; rw [h 0 (by simp [AV.sz])]; exact r
  | rptr o v i p => intro c c' h r; simp only [AVR] at r ⊢; rw [h 0 (by simp [AV.sz])]; exact r
  | pp m T x => intro c c' h r; simp only [AVR] at r ⊢; rw [h 0 (by simp [AV.sz])]; exact r
  | fn f os => intro c c' h r; simp only [AVR] at r ⊢; rw [h 0 (by simp [AV.sz])]; exact r
  | unit => intro c c' h r; trivial
  | pair a b iha ihb =>
    intro c c' h r
    exact ⟨iha (fun j hj => h j (by simp only [AV.sz]; omega)) r.1, ihb (fun j hj => h _ (by simp only [AV.sz]; omega)) r.2⟩
  | tnil => intro c c' h r; exact r
  | tcons a b => intro c c' h r; exact r

theorem Rep.weaken {X : Ctx} (hij : ∀ b, X.I b → X.J b) {m : Bool} (m' : Bool) {T : Ty} {x : T.D} {c : Cs} (r : Rep X.w (X.set m) T x c) : Rep X.w (X.set (m || m')) T x c := by
  cases m
  · cases m'
    · exact r
    · exact r.mono hij
  · exact r
theorem Rep.weaken' {X : Ctx} (hij : ∀ b, X.I b → X.J b) {m : Bool} (m' : Bool) {T : Ty} {x : T.D} {c : Cs} (r : Rep X.w (X.set m) T x c) : Rep X.w (X.set (m' || m)) T x c := by
  rw [Bool.or_comm]; exact Rep.weaken hij m' r

/-- A value told whole asv one of type T, if all its parts are plain data; and whether it may lead to what was lent. -/
def AV.pureAs : (T : Ty) → AV → Option (Bool × T.D)
  | .pair A B, .pair a b => match a.pureAs A, b.pureAs B with
    | some p, some q => some (p.1 || q.1, (p.2, q.2))
    | _, _ => none
  | .unit, .unit => some (false, ())
  | .slice _, .nilv => some (false, [])
  | T, .pv m T' x => if h : T' = T then some (m && !T'.flat, h ▸ x) else none
  | _, _ => none
theorem AV.pureAs_pv {T T' : Ty} {m : Bool} {x : T'.D} : AV.pureAs T (.pv m T' x) = if h : T' = T then some (m && !T'.flat, h ▸ x) else none := by
  cases T <;> rfl
theorem rep_flatm {X : Ctx} {m : Bool} {T : Ty} {x : T.D} {c : Cs} (r : Rep X.w (X.set m) T x c) : Rep X.w (X.set (m && !T.flat)) T x c := by
  cases hf : T.flat with
  | true => exact Rep.flat hf r
  | false => simpa [hf] using r
theorem AV.pureAs_ok {X : Ctx} (hij : ∀ b, X.I b → X.J b) : ∀ {T : Ty} {a : AV} {p : Bool × T.D} {c : Cs}, AVR X a c → a.pureAs T = some p → Rep X.w (X.set p.1) T p.2 c ∧ a.fits T = true := by
  intro T
  have hpv : ∀ {T T' : Ty} {m : Bool} {x : T'.D} {p : Bool × T.D} {c : Cs}, AVR X (.pv m T' x) c → AV.pureAs T (.pv m T' x) = some p → Rep X.w (X.set p.1) T p.2 c ∧ (AV.pv m T' x).fits T = true := by
    intro T T' m x p c r h
    rw [AV.pureAs_pv] at h
    split at h
    · rename_i e
      subst e
      simp only [Option.some.injEq] at h
      subst h
      exact ⟨rep_flatm r, by simp [AV.fits]⟩
    · exact absurd h (by simp)
  induction T with
  | pair A B iha ihb =>
    intro a p c r h
    cases a with
    | pv m T' x => exact hpv r h
    | pair a b =>
      simp only [AV.pureAs] at h
      cases ha : a.pureAs A with
      | none => simp [ha] at h
      | some pa =>
        cases hb : b.pureAs B with
        | none => simp [ha, hb] at h
        | some pb =>
          simp only [ha, hb, Option.some.injEq] at h
          subst h
          obtain ⟨ra, fa⟩ := iha r.1 ha
          obtain ⟨rb, fb⟩ := ihb r.2 hb
          rw [AV.fits_sz fa] at rb
          exact ⟨⟨Rep.weaken hij _ ra, Rep.weaken' hij _ rb⟩, by simp [AV.fits, fa, fb]⟩
    | _ => simp [AV.pureAs] at h
  | unit =>
    intro a p c r h
    cases a with
    | pv m T' x => exact hpv r h
    | unit => simp only [AV.pureAs, Option.some.injEq] at h; subst h; exact ⟨trivial, rfl⟩
    | _ => simp [AV.pureAs] at h
  | slice e ih =>
    intro a p c r h
    cases a with
    | pv m T' x => exact hpv r h
    | nilv =>
      simp only [AV.pureAs, Option.some.injEq] at h
      subst h
      exact ⟨⟨none, 0, r, Nat.le_refl _, fun hp => absurd hp (by simp)⟩, rfl⟩
    | _ => simp [AV.pureAs] at h
  | _ =>
    intro a p c r h
    cases a with
    | pv m T' x => exact hpv r h
    | _ => simp [AV.pureAs] at h

theorem getD_rep {w : World} {I : Bs} {e : Ty} {xs : List e.D} {f : Nat → Cs} (h : ∀ i (hi : i < xs.length), Rep w I e xs[i] (f i)) {i : Nat} (hi : i < xs.length) (z : e.D) : Rep w I e (xs.getD i z) (f i) := by
  have := h i hi
  rwa [List.getD_eq_getElem?_getD, List.getElem?_eq_getElem hi]

/-- The part at a path's end. -/
def AV.get : List Step → AV → Option AV
  | [], a => some a
  | .fst :: p, .pair a _ => AV.get p a
  | .snd :: p, .pair _ b => AV.get p b
  | .fst :: p, .pv m (.pair A _) x => AV.get p (.pv m A x.1)
  | .snd :: p, .pv m (.pair _ B) x => AV.get p (.pv m B x.2)
  | .ix i :: p, .pv m (.arr _ e) xs => AV.get p (.pv m e (xs.getD i e.zero))
  | _, _ => none
theorem AV.get_ok {X : Ctx} : ∀ {p : List Step} {a a' : AV} {T T' : Ty} {off : Nat} {c : Cs}, AVR X a c → a.fits T = true → Ty.at p T = some (off, T') → PathOk p T → AV.get p a = some a' → AVR X a' (shift c off) ∧ a'.fits T' = true := by
  intro p
  induction p with
  | nil =>
    intro a a' T T' off c r f h _ g
    simp only [Ty.at, Option.some.injEq, Prod.mk.injEq] at h
    obtain ⟨rfl, rfl⟩ := h
    simp only [AV.get, Option.some.injEq] at g
    subst g
    exact ⟨by rw [shift_zero]; exact r, f⟩
  | cons s p ih =>
    intro a a' T T' off c r f h ok g
    cases s with
    | fst =>
      cases T with
      | pair A B =>
        simp only [Ty.at] at h
        simp only [PathOk] at ok
        cases a with
        | pair a b =>
          simp only [AV.fits, Bool.and_eq_true] at f
          exact ih r.1 f.1 h ok g
        | pv m T0 x =>
          simp only [AV.fits, decide_eq_true_eq] at f
          subst f
          exact ih (a := .pv m A x.1) r.1 (by simp [AV.fits]) h ok g
        | _ => simp [AV.get] at g
      | _ => simp [Ty.at] at h
    | snd =>
      cases T with
      | pair A B =>
        simp only [Ty.at] at h
        simp only [PathOk] at ok
        cases hb : Ty.at p B with
        | none => simp [hb] at h
        | some q =>
          obtain ⟨o1, t1⟩ := q
          simp only [hb, Option.some.injEq, Prod.mk.injEq] at h
          obtain ⟨rfl, rfl⟩ := h
          rw [← shift_shift]
          cases a with
          | pair a b =>
            simp only [AV.fits, Bool.and_eq_true] at f
            rw [← AV.fits_sz f.1]
            exact ih r.2 f.2 hb ok g
          | pv m T0 x =>
            simp only [AV.fits, decide_eq_true_eq] at f
            subst f
            exact ih (a := .pv m B x.2) r.2 (by simp [AV.fits]) hb ok g
          | _ => simp [AV.get] at g
      | _ => simp [Ty.at] at h
    | ix i =>
      cases T with
      | arr n e =>
        simp only [Ty.at] at h
        simp only [PathOk] at ok
        cases hb : Ty.at p e with
        | none => simp [hb] at h
        | some q =>
          obtain ⟨o1, t1⟩ := q
          simp only [hb, Option.some.injEq, Prod.mk.injEq] at h
          obtain ⟨rfl, rfl⟩ := h
          rw [← shift_shift]
          cases a with
          | pv m T0 x =>
            simp only [AV.fits, decide_eq_true_eq] at f
            subst f
            obtain ⟨hl, r⟩ := r
            exact ih (a := .pv m e (x.getD i e.zero)) (getD_rep r (by omega) _) (by simp [AV.fits]) hb ok.2 g
          | pair a b => simp [AV.fits] at f
          | _ => simp [AV.get] at g
      | _ => simp [Ty.at] at h

theorem Ty.at_le : ∀ {p : List Step} {T T' : Ty} {off : Nat}, Ty.at p T = some (off, T') → PathOk p T → off + T'.sz ≤ T.sz := by
  intro p
  induction p with
  | nil =>
    intro T T' off h _
    simp only [Ty.at, Option.some.injEq, Prod.mk.injEq] at h
    obtain ⟨rfl, rfl⟩ := h
    omega
  | cons s p ih =>
    intro T T' off h ok
    cases s with
    | fst =>
      cases T with
      | pair A B => simp only [Ty.at] at h; simp only [PathOk] at ok; have := ih h ok; simp only [Ty.sz]; omega
      | _ => simp [Ty.at] at h
    | snd =>
      cases T with
      | pair A B =>
        simp only [Ty.at] at h
        simp only [PathOk] at ok
        cases hb : Ty.at p B with
        | none => simp [hb] at h
        | some q =>
          simp only [hb, Option.some.injEq, Prod.mk.injEq] at h
          obtain ⟨rfl, rfl⟩ := h
          have := ih hb ok
          simp only [Ty.sz]; omega
      | _ => simp [Ty.at] at h
    | ix i =>
      cases T with
      | arr n e =>
        simp only [Ty.at] at h
        simp only [PathOk] at ok
        cases hb : Ty.at p e with
        | none => simp [hb] at h
        | some q =>
          simp only [hb, Option.some.injEq, Prod.mk.injEq] at h
          obtain ⟨rfl, rfl⟩ := h
          have := ih hb ok.2
          have h1 : (i + 1) * e.sz ≤ n * e.sz := Nat.mul_le_mul_right _ ok.1
          rw [Nat.succ_mul] at h1
          simp only [Ty.sz]; omega
      | _ => simp [Ty.at] at h

/-- The value with another part at a path's end. -/
def AV.upd : List Step → AV → AV → Option AV
  | [], _, v => some v
  | .fst :: p, .pair a b, v => match AV.upd p a v with
    | some a' => some (.pair a' b)
    | none => none
  | .snd :: p, .pair a b, v => match AV.upd p b v with
    | some b' => some (.pair a b')
    | none => none
  | .fst :: p, .pv m (.pair A B) x, v => match AV.upd p (.pv m A x.1) v with
    | some a' => some (.pair a' (.pv m B x.2))
    | none => none
  | .snd :: p, .pv m (.pair A B) x, v => match AV.upd p (.pv m B x.2) v with
    | some b' => some (.pair (.pv m A x.1) b')
    | none => none
  | .ix i :: p, .pv m (.arr n e) xs, v => match AV.upd p (.pv m e (xs.getD i e.zero)) v with
    | some a => match a.pureAs e with
      | some q => some (.pv (m || q.1) (.arr n e) (xs.set i q.2))
      | none => none
    | none => none
  | _, _, _ => none

theorem AV.upd_ok {X : Ctx} (hij : ∀ b, X.I b → X.J b) : ∀ {p : List Step} {a v a' : AV} {T T' : Ty} {off : Nat} {c c' : Cs}, AVR X a c → a.fits T = true → Ty.at p T = some (off, T') → PathOk p T →
    v.fits T' = true → AVR X v (shift c' off) → (∀ j, j < T.sz → (j < off ∨ off + T'.sz ≤ j) → c' j = c j) → AV.upd p a v = some a' → AVR X a' c' ∧ a'.fits T = true := by
  intro p
  induction p with
  | nil =>
    intro a v a' T T' off c c' r f h _ fv rv hc g
    simp only [Ty.at, Option.some.injEq, Prod.mk.injEq] at h
    obtain ⟨rfl, rfl⟩ := h
    simp only [AV.upd, Option.some.injEq] at g
    subst g
    rw [shift_zero] at rv
    exact ⟨rv, fv⟩
  | cons s p ih =>
    intro a v a' T T' off c c' r f h ok fv rv hc g
    cases s with
    | fst =>
      cases T with
      | pair A B =>
        simp only [Ty.at] at h
        simp only [PathOk] at ok
        have hle := Ty.at_le h ok
        cases a with
        | pair a b =>
          simp only [AV.fits, Bool.and_eq_true] at f
          simp only [AV.upd] at g
          cases hu : AV.upd p a v with
          | none => simp [hu] at g
          | some a1 =>
            simp only [hu, Option.some.injEq] at g
            subst g
            obtain ⟨r1, f1⟩ := ih r.1 f.1 h ok fv rv (fun j hj ho => hc j (by simp only [Ty.sz]; omega) ho) hu
            refine ⟨⟨r1, ?_⟩, by simp [AV.fits, f1, f.2]⟩
            rw [AV.fits_sz f1]
            refine AVR.congr (fun j hj => ?_) r.2
            rw [AV.fits_sz f.2] at hj
            simp only [shift]
            rw [AV.fits_sz f.1]
            exact hc _ (by simp only [Ty.sz]; omega) (by omega)
        | pv m T0 x =>
          simp only [AV.fits, decide_eq_true_eq] at f
          subst f
          simp only [AV.upd] at g
          cases hu : AV.upd p (.pv m A x.1) v with
          | none => simp [hu] at g
          | some a1 =>
            simp only [hu, Option.some.injEq] at g
            subst g
            obtain ⟨r1, f1⟩ := ih (a := .pv m A x.1) r.1 (by simp [AV.fits]) h ok fv rv (fun j hj ho => hc j (by simp only [Ty.sz]; omega) ho) hu
            refine ⟨⟨r1, ?_⟩, by simp [AV.fits, f1]⟩
            rw [AV.fits_sz f1]
            refine Rep.congr (fun j hj => ?_) r.2
            simp only [shift]
            exact hc _ (by simp only [Ty.sz]; omega) (by omega)
        | _ => simp [AV.upd] at g
      | _ => simp [Ty.at] at h
    | snd =>
      cases T with
      | pair A B =>
        simp only [Ty.at] at h
        simp only [PathOk] at ok
        cases hb : Ty.at p B with
        | none => simp [hb] at h
        | some q =>
          obtain ⟨o1, t1⟩ := q
          simp only [hb, Option.some.injEq, Prod.mk.injEq] at h
          obtain ⟨rfl, rfl⟩ := h
          have hle := Ty.at_le hb ok
          rw [← shift_shift] at rv
          cases a with
          | pair a b =>
            simp only [AV.fits, Bool.and_eq_true] at f
            simp only [AV.upd] at g
            cases hu : AV.upd p b v with
            | none => simp [hu] at g
            | some b1 =>
              simp only [hu, Option.some.injEq] at g
              subst g
              have r2 := r.2
              rw [AV.fits_sz f.1] at r2
              obtain ⟨r1, f1⟩ := ih (c' := shift c' A.sz) r2 f.2 hb ok fv rv (fun j hj ho => hc _ (by simp only [Ty.sz]; omega) (by omega)) hu
              refine ⟨⟨AVR.congr (fun j hj => ?_) r.1, ?_⟩, by simp [AV.fits, f1, f.1]⟩
              · rw [AV.fits_sz f.1] at hj
                exact hc j (by simp only [Ty.sz]; omega) (by omega)
              · rw [AV.fits_sz f.1]; exact r1
          | pv m T0 x =>
            simp only [AV.fits, decide_eq_true_eq] at f
            subst f
            simp only [AV.upd] at g
            cases hu : AV.upd p (.pv m B x.2) v with
            | none => simp [hu] at g
            | some b1 =>
              simp only [hu, Option.some.injEq] at g
              subst g
              obtain ⟨r1, f1⟩ := ih (a := .pv m B x.2) (c' := shift c' A.sz) r.2 (by simp [AV.fits]) hb ok fv rv (fun j hj ho => hc _ (by simp only [Ty.sz]; omega) (by omega)) hu
              exact ⟨⟨Rep.congr (fun j hj => hc j (by simp only [Ty.sz]; omega) (by omega)) r.1, r1⟩, by simp [AV.fits, f1]⟩
          | _ => simp [AV.upd] at g
      | _ => simp [Ty.at] at h
    | ix i =>
      cases T with
      | arr n e =>
        simp only [Ty.at] at h
        simp only [PathOk] at ok
        cases hb : Ty.at p e with
        | none => simp [hb] at h
        | some q =>
          obtain ⟨o1, t1⟩ := q
          simp only [hb, Option.some.injEq, Prod.mk.injEq] at h
          obtain ⟨rfl, rfl⟩ := h
          have hle := Ty.at_le hb ok.2
          rw [← shift_shift] at rv
          cases a with
          | pv m T0 x =>
            simp only [AV.fits, decide_eq_true_eq] at f
            subst f
            simp only [AV.upd] at g
            cases hu : AV.upd p (.pv m e (x.getD i e.zero)) v with
            | none => simp only [hu] at g; exact absurd g (by simp)
            | some a1 =>
              simp only [hu] at g
              cases hp : a1.pureAs e with
              | none => simp [hp] at g
              | some q =>
                simp only [hp, Option.some.injEq] at g
                subst g
                obtain ⟨hl, r⟩ := r
                have hn : (i + 1) * e.sz ≤ n * e.sz := Nat.mul_le_mul_right _ ok.1
                rw [Nat.succ_mul] at hn
                obtain ⟨r1, f1⟩ := ih (a := .pv m e (x.getD i e.zero)) (c' := shift c' (i * e.sz)) (getD_rep r (by omega) _) (by simp [AV.fits]) hb ok.2 fv rv (fun j hj ho => by
                  refine hc _ ?_ (by omega)
                  simp only [Ty.sz]; omega) hu
                obtain ⟨rp, _⟩ := AV.pureAs_ok hij r1 hp
                refine ⟨⟨by simp [hl], fun k hk => ?_⟩, by simp [AV.fits]⟩
                simp only [List.length_set] at hk
                by_cases hki : k = i
                · subst hki
                  rw [List.getElem_set_self]
                  exact Rep.weaken' hij _ rp
                · rw [List.getElem_set_ne (Ne.symm hki)]
                  refine Rep.weaken hij _ (Rep.congr (fun j hj => ?_) (r k hk))
                  have hk1 : (k + 1) * e.sz ≤ n * e.sz := Nat.mul_le_mul_right _ (by omega)
                  rw [Nat.succ_mul] at hk1
                  simp only [shift]
                  refine hc _ (by simp only [Ty.sz]; omega) ?_
                  rcases Nat.lt_or_gt_of_ne hki with h1 | h1
                  · have h2 : (k + 1) * e.sz ≤ i * e.sz := Nat.mul_le_mul_right _ h1
                    rw [Nat.succ_mul] at h2
                    left; omega
                  · have h2 : (i + 1) * e.sz ≤ k * e.sz := Nat.mul_le_mul_right _ h1
                    rw [Nat.succ_mul] at h2
                    right; omega
          | pair a b => simp [AV.fits] at f
          | _ => simp [AV.upd] at g
      | _ => simp [Ty.at] at h
end Go.Proofs.Ytmggpiijahiaiaa.Ev
/- A program's types, told asv types of data: a table that is checked by running. -/
namespace Go.Proofs.Ytmggpiijahiaiaa.Ev
open Go
set_option linter.unusedVariables false
set_option linter.unusedSimpArgs false

def plainCell : Value → Bool
  | .agg _ => false
  | .tuple _ => false
  | _ => true
theorem okCell_of_plain {v : Value} (h : plainCell v = true) : okCell v := by
  cases v <;> first | exact trivial | simp [plainCell] at h
theorem oneCell_of_ok {v : Value} (h : okCell v) : v.oneCell' = true := by
  cases v <;> first | rfl | exact h.elim
/-- Do these cells tell the type's zero value? -/
def ZB : Ty → Cs → Bool
  | .int k, c => match c 0 with
    | some (.int k' n) => decide (k' = k) && decide (n = 0)
    | _ => false
  | .bool, c => match c 0 with
    | some (.bool b) => !b
    | _ => false
  | .str, c => match c 0 with
    | some (.string s) => s.data.isEmpty
    | _ => false
  | .unit, _ => true
  | .pair a b, c => ZB a c && ZB b (shift c a.sz)
  | .slice _, c => match c 0 with
    | some (.slice none 0 0) => true
    | _ => false
  | .arr n e, c => (List.range n).all fun i => ZB e (shift c (i * e.sz))
  | .opq, c => match c 0 with
    | some v => plainCell v
    | _ => false
theorem ZB_ok {w : World} {I : Bs} : ∀ {T : Ty} {c : Cs}, ZB T c = true → Rep w I T T.zero c := by
  intro T
  induction T with
  | int k =>
    intro c h
    simp only [ZB] at h
    split at h
    · rename_i k' n hc
      simp only [Bool.and_eq_true, decide_eq_true_eq] at h
      obtain ⟨rfl, rfl⟩ := h
      exact hc
    · simp at h
  | bool =>
    intro c h
    simp only [ZB] at h
    split at h
    · rename_i b hc
      have : b = false := by simpa using h
      subst this
      exact hc
    · simp at h
  | str =>
    intro c h
    simp only [ZB] at h
    split at h
    · rename_i s hc
      have : s = ByteArray.empty := by
        have h' : s.data = #[] := by simpa using h
        obtain ⟨d⟩ := s
        simp only at h'
        subst h'
        rfl
      subst this
      exact hc
    · simp at h
  | unit => intro c h; trivial
  | pair a b iha ihb =>
    intro c h
    simp only [ZB, Bool.and_eq_true] at h
    exact ⟨iha h.1, ihb h.2⟩
  | slice e ih =>
    intro c h
    simp only [ZB] at h
    split at h
    · rename_i hc
      exact ⟨none, 0, hc, Nat.le_refl _, fun hp => absurd hp (by simp [Ty.zero])⟩
    · simp at h
  | arr n e ih =>
    intro c h
    simp only [ZB, List.all_eq_true, List.mem_range] at h
    refine ⟨by simp [Ty.zero], fun i hi => ?_⟩
    simp only [Ty.zero, List.length_replicate] at hi
    simp only [Ty.zero, List.getElem_replicate]
    exact ih (h i hi)
  | opq =>
    intro c h
    simp only [ZB] at h
    split at h
    · rename_i v hc
      exact ⟨v, hc, okCell_of_plain h⟩
    · simp at h

/-- Is what is known of it still what it is? -/
def AV.cur (s : Objs) : AV → Bool
  | .row o v => match s o with
    | some (.row v' _ _ _) => Nat.beq v v'
    | some (.imm v' _ _ _) => Nat.beq v v'
    | _ => false
  | .rptr o v _ p => match s o with
    | some (.row v' _ T _) => Nat.beq v v' && (Ty.at p T).isSome
    | _ => false
  | .bptr o p => match s o with
    | some (.box T _) => (Ty.at p T).isSome
    | _ => false
  | .pair a b => a.cur s && b.cur s
  | _ => true

/-- The zero value, part by part: a slice in it is nil. -/
def zeroAV : Ty → AV
  | .pair a b => .pair (zeroAV a) (zeroAV b)
  | .unit => .unit
  | .slice _ => .nilv
  | T => .pv false T T.zero
theorem zeroAV_fits : ∀ (T : Ty), (zeroAV T).fits T = true := by
  intro T
  induction T with
  | pair a b iha ihb => simp [zeroAV, AV.fits, iha, ihb]
  | _ => simp [zeroAV, AV.fits]
theorem zeroAV_cur (s : Objs) : ∀ (T : Ty), (zeroAV T).cur s = true := by
  intro T
  induction T with
  | pair a b iha ihb => simp [zeroAV, AV.cur, iha, ihb]
  | _ => rfl
theorem zeroAV_ok {X : Ctx} : ∀ {T : Ty} {c : Cs}, ZB T c = true → AVR X (zeroAV T) c := by
  intro T
  induction T with
  | pair a b iha ihb =>
    intro c h
    simp only [ZB, Bool.and_eq_true] at h
    refine ⟨iha h.1, ?_⟩
    rw [AV.fits_sz (zeroAV_fits a)]
    exact ihb h.2
  | unit => intro c h; trivial
  | slice e ih =>
    intro c h
    simp only [ZB] at h
    split at h
    · assumption
    · simp at h
  | int k => intro c h; exact ZB_ok (T := .int k) h
  | bool => intro c h; exact ZB_ok (T := .bool) h
  | str => intro c h; exact ZB_ok (T := .str) h
  | arr n e ih => intro c h; exact ZB_ok (T := .arr n e) h
  | opq => intro c h; exact ZB_ok (T := .opq) h

def aggDesc : TypeDesc → Bool
  | .struct _ => true
  | .array _ _ => true
  | _ => false
/-- Size and zero value are asv the type of data says. -/
def baseB (P : Program) (T : Ty) (t : TypeId) : Bool :=
  match P.info? t with
  | some i => decide (i.size = T.sz) && match i.zero with
    | some z => ZB T (cv z) && decide (z.cells.size = T.sz) && (Value.isAgg z == T.isAgg)
    | none => false
  | none => false
def descB (P : Program) (t : TypeId) (f : TypeDesc → Bool) : Bool :=
  match P.underlying t with
  | some d => f d
  | none => false
def isInt (k : IntKind) : TypeDesc → Bool
  | .int k' => decide (k' = k)
  | _ => false
def isBoolD : TypeDesc → Bool
  | .bool => true
  | _ => false
def isStrD : TypeDesc → Bool
  | .string => true
  | _ => false
/-- Is the program's type t this type of data? And a struct's fields, from an offset on. -/
def TB (P : Program) : Ty → (TypeId → Bool) × (Nat → List Field → Bool)
  | .int k => (fun t => baseB P (.int k) t && descB P t (isInt k), fun _ _ => false)
  | .bool => (fun t => baseB P .bool t && descB P t isBoolD, fun _ _ => false)
  | .str => (fun t => baseB P .str t && descB P t isStrD, fun _ _ => false)
  | .opq => (fun t => baseB P .opq t && descB P t (fun d => !aggDesc d), fun _ _ => false)
  | .slice e => (fun t => baseB P (.slice e) t && descB P t (fun | .slice te => (TB P e).1 te | _ => false), fun _ _ => false)
  | .arr n e => (fun t => baseB P (.arr n e) t && descB P t (fun | .array n' te => decide (n' = n) && (TB P e).1 te | _ => false), fun _ _ => false)
  | .unit => (fun t => baseB P .unit t && descB P t (fun | .struct fs => fs.toList.isEmpty | _ => false), fun _ fs => fs.isEmpty)
  | .pair a b =>
    let fl : Nat → List Field → Bool := fun off fs => match fs with
      | f :: r => decide (f.offset = off) && (TB P a).1 f.type && (TB P b).2 (off + a.sz) r
      | [] => false
    (fun t => baseB P (.pair a b) t && descB P t (fun | .struct fs => fl 0 fs.toList | _ => false), fl)

theorem TB_base {P : Program} {T : Ty} {t : TypeId} (h : (TB P T).1 t = true) : baseB P T t = true := by
  cases T <;> simp only [TB, Bool.and_eq_true] at h <;> exact h.1
structure TInfo (P : Program) (T : Ty) (t : TypeId) (i : TypeInfo) (z : Value) : Prop where
  info : P.info? t = some i
  size : i.size = T.sz
  zero : i.zero = some z
  zsize : z.cells.size = T.sz
  zagg : Value.isAgg z = T.isAgg
  zrep : ∀ w I, Rep w I T T.zero (cv z)
  zav : ∀ X, AVR X (zeroAV T) (cv z)
theorem TB_info {P : Program} {T : Ty} {t : TypeId} (h : (TB P T).1 t = true) : ∃ i z, TInfo P T t i z := by
  have h := TB_base h
  unfold baseB at h
  split at h
  · rename_i i hi
    simp only [Bool.and_eq_true, decide_eq_true_eq] at h
    obtain ⟨h1, h2⟩ := h
    split at h2
    · rename_i z hz
      simp only [Bool.and_eq_true, decide_eq_true_eq, beq_iff_eq] at h2
      exact ⟨i, z, hi, h1, hz, h2.1.2, h2.2, fun w I => ZB_ok h2.1.1, fun X => zeroAV_ok h2.1.1⟩
    · simp at h2
  · simp at h
theorem descB_ok {P : Program} {t : TypeId} {f : TypeDesc → Bool} (h : descB P t f = true) : ∃ d, P.underlying t = some d ∧ f d = true := by
  unfold descB at h
  split at h
  · rename_i d hd; exact ⟨d, hd, h⟩
  · simp at h
theorem TB_agg {P : Program} {T : Ty} {t : TypeId} (h : (TB P T).1 t = true) : ∃ d, P.underlying t = some d ∧ aggDesc d = T.isAgg := by
  cases T with
  | int k =>
    simp only [TB, Bool.and_eq_true] at h
    obtain ⟨d, hd, hf⟩ := descB_ok h.2
    refine ⟨d, hd, ?_⟩
    cases d <;> simp [isInt] at hf <;> rfl
  | bool =>
    simp only [TB, Bool.and_eq_true] at h
    obtain ⟨d, hd, hf⟩ := descB_ok h.2
    refine ⟨d, hd, ?_⟩
    cases d <;> simp [isBoolD] at hf <;> rfl
  | str =>
    simp only [TB, Bool.and_eq_true] at h
    obtain ⟨d, hd, hf⟩ := descB_ok h.2
    refine ⟨d, hd, ?_⟩
    cases d <;> simp [isStrD] at hf <;> rfl
  | opq =>
    simp only [TB, Bool.and_eq_true] at h
    obtain ⟨d, hd, hf⟩ := descB_ok h.2
    refine ⟨d, hd, ?_⟩
    simpa [Ty.isAgg] using hf
  | slice e =>
    simp only [TB, Bool.and_eq_true] at h
    obtain ⟨d, hd, hf⟩ := descB_ok h.2
    refine ⟨d, hd, ?_⟩
    cases d <;> first | rfl | simp at hf
  | arr n e =>
    simp only [TB, Bool.and_eq_true] at h
    obtain ⟨d, hd, hf⟩ := descB_ok h.2
    refine ⟨d, hd, ?_⟩
    cases d <;> first | rfl | simp at hf
  | unit =>
    simp only [TB, Bool.and_eq_true] at h
    obtain ⟨d, hd, hf⟩ := descB_ok h.2
    refine ⟨d, hd, ?_⟩
    cases d <;> first | rfl | simp at hf
  | pair a b =>
    simp only [TB, Bool.and_eq_true] at h
    obtain ⟨d, hd, hf⟩ := descB_ok h.2
    refine ⟨d, hd, ?_⟩
    cases d <;> first | rfl | simp at hf
theorem TB_slice {P : Program} {e : Ty} {t : TypeId} (h : (TB P (.slice e)).1 t = true) : ∃ te, P.underlying t = some (.slice te) ∧ (TB P e).1 te = true := by
  simp only [TB, Bool.and_eq_true] at h
  obtain ⟨d, hd, hf⟩ := descB_ok h.2
  cases d <;> first | exact ⟨_, hd, hf⟩ | simp at hf
theorem TB_arr {P : Program} {n : Nat} {e : Ty} {t : TypeId} (h : (TB P (.arr n e)).1 t = true) : ∃ te, P.underlying t = some (.array n te) ∧ (TB P e).1 te = true := by
  simp only [TB, Bool.and_eq_true] at h
  obtain ⟨d, hd, hf⟩ := descB_ok h.2
  cases d with
  | array n' te =>
    simp only [Bool.and_eq_true, decide_eq_true_eq] at hf
    obtain ⟨rfl, hf⟩ := hf
    exact ⟨te, hd, hf⟩
  | _ => simp at hf
theorem TB_int {P : Program} {k : IntKind} {t : TypeId} (h : (TB P (.int k)).1 t = true) : P.underlying t = some (.int k) := by
  simp only [TB, Bool.and_eq_true] at h
  obtain ⟨d, hd, hf⟩ := descB_ok h.2
  cases d <;> simp [isInt] at hf
  subst hf
  exact hd
theorem TB_str {P : Program} {t : TypeId} (h : (TB P .str).1 t = true) : P.underlying t = some .string := by
  simp only [TB, Bool.and_eq_true] at h
  obtain ⟨d, hd, hf⟩ := descB_ok h.2
  cases d <;> simp [isStrD] at hf
  exact hd

/-- The path to field j. -/
def fldPath : Nat → List Step
  | 0 => [.fst]
  | j + 1 => .snd :: fldPath j
theorem fields_at {P : Program} : ∀ {j : Nat} {T Tj : Ty} {off0 off : Nat} {fs : List Field}, (TB P T).2 off0 fs = true → Ty.at (fldPath j) T = some (off, Tj) → ∃ f, fs[j]? = some f ∧ f.offset = off0 + off ∧ (TB P Tj).1 f.type = true := by
  intro j
  induction j with
  | zero =>
    intro T Tj off0 off fs h g
    cases T with
    | pair a b =>
      simp only [fldPath, Ty.at, Option.some.injEq, Prod.mk.injEq] at g
      obtain ⟨rfl, rfl⟩ := g
      cases fs with
      | nil => simp [TB] at h
      | cons f r =>
        simp only [TB, Bool.and_eq_true, decide_eq_true_eq] at h
        exact ⟨f, rfl, by simpa using h.1.1, h.1.2⟩
    | _ => simp [fldPath, Ty.at] at g
  | succ j ih =>
    intro T Tj off0 off fs h g
    cases T with
    | pair a b =>
      simp only [fldPath, Ty.at] at g
      cases fs with
      | nil => simp [TB] at h
      | cons f r =>
        simp only [TB, Bool.and_eq_true, decide_eq_true_eq] at h
        cases hb : Ty.at (fldPath j) b with
        | none => simp [hb] at g
        | some q =>
          obtain ⟨o1, t1⟩ := q
          simp only [hb, Option.some.injEq, Prod.mk.injEq] at g
          obtain ⟨rfl, rfl⟩ := g
          obtain ⟨f', h1, h2, h3⟩ := ih h.2 hb
          exact ⟨f', by simpa using h1, by omega, h3⟩
    | _ => simp [fldPath, Ty.at] at g
theorem TB_struct {P : Program} {T : Ty} {t : TypeId} (h : (TB P T).1 t = true) {j off : Nat} {Tj : Ty} (g : Ty.at (fldPath j) T = some (off, Tj)) : ∃ fs, P.underlying t = some (.struct fs) ∧ ∃ f, fs[j]? = some f ∧ f.offset = off ∧ (TB P Tj).1 f.type = true := by
  cases T with
  | pair a b =>
    simp only [TB, Bool.and_eq_true] at h
    obtain ⟨d, hd, hf⟩ := descB_ok h.2
    cases d with
    | struct fs =>
      refine ⟨fs, hd, ?_⟩
      have hf' : (TB P (.pair a b)).2 0 fs.toList = true := hf
      obtain ⟨f, h1, h2, h3⟩ := fields_at hf' g
      exact ⟨f, by simpa using h1, by simpa using h2, h3⟩
    | _ => simp at hf
  | _ => cases j <;> simp [fldPath, Ty.at] at g

/-- A table of types: a number, its type of data, and for a slice how many bytes an element has. -/
structure TEnt where
  t : TypeId
  T : Ty
  by_ : Nat
abbrev TTab := List TEnt
def bytesB (P : Program) (t : TypeId) (n : Nat) : Bool :=
  match P.underlying t with
  | some (.slice te) => match P.info? te with
    | some i => decide (i.bytes = n)
    | none => false
  | _ => true
def TTab.ok (P : Program) (l : TTab) : Bool := l.all fun x => (TB P x.T).1 x.t && bytesB P x.t x.by_
def TTab.find : TTab → TypeId → Option TEnt
  | [], _ => none
  | x :: r, t => bif Nat.beq x.t t then some x else TTab.find r t
theorem TTab.find_ok {P : Program} : ∀ {l : TTab} {t : TypeId} {x : TEnt}, l.ok P = true → l.find t = some x → (TB P x.T).1 t = true ∧ bytesB P t x.by_ = true
  | [], _, _, _, h => by simp [TTab.find] at h
  | y :: r, t, x, ok, h => by
    simp only [TTab.ok, List.all_cons, Bool.and_eq_true] at ok
    unfold TTab.find at h
    cases hb : Nat.beq y.t t with
    | true =>
      rw [hb] at h
      simp only [cond_true, Option.some.injEq] at h
      subst h
      have := Nat.eq_of_beq_eq_true hb
      rw [← this]
      exact ok.1
    | false =>
      rw [hb] at h
      exact TTab.find_ok (l := r) (by simpa [TTab.ok] using ok.2) h
theorem bytesB_ok {P : Program} {t te : TypeId} {n : Nat} {i : TypeInfo} (h : bytesB P t n = true) (hu : P.underlying t = some (.slice te)) (hi : P.info? te = some i) : i.bytes = n := by
  unfold bytesB at h
  rw [hu] at h
  simpa [hi] using h
end Go.Proofs.Ytmggpiijahiaiaa.Ev
/- How the memory of an abstract run turns: a new object, an object that turns; and what loads and stores do to the machine's world. -/
namespace Go.Proofs.Ytmggpiijahiaiaa.Ev
open Go
set_option linter.unusedVariables false
set_option linter.unusedSimpArgs false

/-- The context with one object put. -/
def Ctx.put (X : Ctx) (w' : World) (o : Nat) (ob : AObj) (l : Loc) : Ctx := { X with w := w', objs := X.objs.put o ob, φ := fun i => if i = o then l else X.φ i }
theorem Ctx.put_φ_same (X : Ctx) (w' : World) (o : Nat) (ob : AObj) (l : Loc) : (X.put w' o ob l).φ o = l := by simp [Ctx.put]
theorem Ctx.put_φ_ne (X : Ctx) (w' : World) (o : Nat) (ob : AObj) (l : Loc) {i : Nat} (h : i ≠ o) : (X.put w' o ob l).φ i = X.φ i := by simp [Ctx.put, h]

theorem ObjR.evo {X X' : Ctx} (h : Evo X X') {l : Loc} {ob : AObj} (r : ObjR X l ob)
    (hb : (match ob with | .box _ _ => True | .row _ _ _ _ => l.nil = false | _ => False) → X'.w.heap[l.blk]? = X.w.heap[l.blk]?) : ObjR X' l ob := by
  cases ob with
  | box T a =>
    obtain ⟨h1, ⟨cs, te, h2, h3⟩, h4⟩ := r
    have e := hb trivial
    refine ⟨h1, ⟨cs, te, by rw [e]; exact h2, h3⟩, ?_⟩
    rw [mem_of_block e]
    exact h4.evo h
  | row v m T xs =>
    obtain ⟨h1, h2, h3⟩ := r
    refine ⟨h1, h2, fun hn => ?_⟩
    obtain ⟨⟨cs, te, h4, h5⟩, h6, h7⟩ := h3 hn
    have e := hb hn
    refine ⟨⟨cs, te, by rw [e]; exact h4, h5⟩, h6, fun i hi => ?_⟩
    rw [mem_of_block e]
    exact Rep.evo h (h7 i hi)
  | imm v m T xs => exact ⟨r.1, Rep.evo h r.2⟩

/-- The block that an object would have for its own. -/
def AObj.own (l : Loc) (b : Nat) : AObj → Prop
  | .box _ _ => b = l.blk
  | .row _ _ _ _ => l.nil = false ∧ b = l.blk
  | .imm _ _ _ _ => False
theorem own_put_same {X : Ctx} {w' : World} {o b : Nat} {ob : AObj} {l : Loc} (h : Own (X.put w' o ob l).objs (X.put w' o ob l).φ o b) :
    ob.own l b := by
  unfold Own at h
  have e : (X.put w' o ob l).objs o = some ob := Objs.put_same _ _ _
  rw [e, Ctx.put_φ_same] at h
  cases ob <;> exact h
theorem own_put_ne {X : Ctx} {w' : World} {o o' b : Nat} {ob : AObj} {l : Loc} (hne : o' ≠ o) : Own (X.put w' o ob l).objs (X.put w' o ob l).φ o' b ↔ Own X.objs X.φ o' b := by
  unfold Own
  have e : (X.put w' o ob l).objs o' = X.objs o' := Objs.put_ne _ _ _ hne
  rw [e, Ctx.put_φ_ne _ _ _ _ _ hne]

/-- What a step may do to the world: what is not the given object's stays. -/
structure Turns (X : Ctx) (w' : World) (mine : Bs) : Prop where
  os : w'.os = X.w.os
  tape : w'.tape = X.w.tape
  output : w'.output = X.w.output
  size : X.w.heap.size ≤ w'.heap.size
  block : ∀ k, k < X.w.heap.size → ¬ mine k → w'.heap[k]? = X.w.heap[k]?

/-- A block that nobody owns or reads yet, and that was made since the call began. -/
structure Fresh (E : Fix) (X : Ctx) (w' : World) (b : Nat) : Prop where
  own : ∀ o, ¬ Own X.objs X.φ o b
  j : ¬ X.J b
  lt : b < w'.heap.size
  ge : E.w0.heap.size ≤ b ∨ E.S b
theorem Fits.fresh {E : Fix} {X : Ctx} (F : Fits E X) {w' : World} {b : Nat} (h : X.w.heap.size ≤ b ∧ b < w'.heap.size) : Fresh E X w' b :=
  ⟨fun o ho => by have := (F.ownw o b ho).1; omega, fun hj => by have := F.jlt b hj; omega, h.2, .inl (by have := F.keep.size; omega)⟩
/-- An object is put: a new one, or one that turns. -/
theorem Fits.put {E : Fix} {X : Ctx} (F : Fits E X) {w' : World} {o : Nat} {ob : AObj} {l : Loc} {mine : Bs}
    (hw : Turns X w' mine) (hm : ∀ b, mine b → Own X.objs X.φ o b)
    (hc : ∀ ob0, X.objs o = some ob0 → ObC (X.φ o) l ob0 (some ob))
    (hown : ∀ b, ob.own l b → Own X.objs X.φ o b ∨ Fresh E X w' b)
    (hobj : Evo X (X.put w' o ob l) → ObjR (X.put w' o ob l) l ob) : Fits E (X.put w' o ob l) ∧ Evo X (X.put w' o ob l) := by
  have hev : Evo X (X.put w' o ob l) := by
    refine ⟨fun b hb => ?_, fun _ h => h, fun _ h => h, F.ij, fun o' ob' ho' => ?_⟩
    · exact hw.block b (F.jlt b hb) (fun hk => F.ownJ o b (hm b hk) hb)
    · by_cases e : o' = o
      · subst e
        have e1 : (X.put w' o' ob l).objs o' = some ob := Objs.put_same _ _ _
        rw [e1, Ctx.put_φ_same]
        exact hc ob' ho'
      · have e1 : (X.put w' o ob l).objs o' = X.objs o' := Objs.put_ne _ _ _ e
        rw [e1, Ctx.put_φ_ne _ _ _ _ _ e, ho']
        cases ob' with
        | box T a => exact ⟨rfl, rfl⟩
        | row v m T xs => exact ⟨rfl, Nat.le_refl _, fun _ => rfl⟩
        | imm v m T xs => exact ⟨rfl, Nat.le_refl _, fun _ => rfl⟩
  refine ⟨⟨?_, ?_, ?_, ?_, ?_, F.ij, ?_, F.i0, F.iw, F.j0, F.jw⟩, hev⟩
  · refine ⟨hw.os.trans F.keep.os, hw.tape.trans F.keep.tape, hw.output.trans F.keep.output, Nat.le_trans F.keep.size hw.size, fun k hk hs => ?_⟩
    refine (hw.block k (Nat.lt_of_lt_of_le hk F.keep.size) (fun hmk => ?_)).trans (F.keep.block k hk hs)
    rcases (F.ownw o k (hm k hmk)).2 with h | h
    · omega
    · exact hs h
  · intro o' ob' ho'
    by_cases e : o' = o
    · subst e
      have e1 : (X.put w' o' ob l).objs o' = some ob := Objs.put_same _ _ _
      rw [e1] at ho'
      injection ho' with ho'
      subst ho'
      rw [Ctx.put_φ_same]
      exact hobj hev
    · have e1 : (X.put w' o ob l).objs o' = X.objs o' := Objs.put_ne _ _ _ e
      rw [e1] at ho'
      rw [Ctx.put_φ_ne _ _ _ _ _ e]
      refine ObjR.evo hev (F.objs o' ob' ho') (fun hb => ?_)
      have hown' : Own X.objs X.φ o' (X.φ o').blk := by
        unfold Own
        rw [ho']
        cases ob' with
        | box T a => rfl
        | row v m T xs => exact ⟨hb, rfl⟩
        | imm v m T xs => exact hb.elim
      exact hw.block _ (F.ownw o' _ hown').1 (fun hk => e (F.dist o' o _ hown' (hm _ hk)))
  · intro o1 o2 b h1 h2
    by_cases e1 : o1 = o
    · by_cases e2 : o2 = o
      · rw [e1, e2]
      · subst e1
        rw [own_put_ne e2] at h2
        rcases hown b (own_put_same h1) with h | h
        · exact absurd (F.dist _ _ _ h2 h) e2
        · exact absurd h2 (h.own _)
    · by_cases e2 : o2 = o
      · subst e2
        rw [own_put_ne e1] at h1
        rcases hown b (own_put_same h2) with h | h
        · exact absurd (F.dist _ _ _ h1 h) e1
        · exact absurd h1 (h.own _)
      · rw [own_put_ne e1] at h1
        rw [own_put_ne e2] at h2
        exact F.dist _ _ _ h1 h2
  · intro o1 b h1
    by_cases e1 : o1 = o
    · subst e1
      rcases hown b (own_put_same h1) with h | h
      · exact F.ownJ _ _ h
      · exact h.j
    · rw [own_put_ne e1] at h1
      exact F.ownJ _ _ h1
  · intro o1 b h1
    have hsz : (X.put w' o ob l).w.heap.size = w'.heap.size := rfl
    by_cases e1 : o1 = o
    · subst e1
      rcases hown b (own_put_same h1) with h | h
      · have := F.ownw _ _ h
        exact ⟨by rw [hsz]; have := hw.size; omega, this.2⟩
      · exact ⟨h.lt, h.ge⟩
    · rw [own_put_ne e1] at h1
      have := F.ownw _ _ h1
      exact ⟨by rw [hsz]; have := hw.size; omega, this.2⟩
  · intro b hb
    exact Nat.lt_of_lt_of_le (F.jlt b hb) hw.size

theorem Evo.refl {X : Ctx} (hij : ∀ b, X.I b → X.J b) : Evo X X := by
  refine ⟨fun _ _ => rfl, fun _ h => h, fun _ h => h, hij, fun o ob ho => ?_⟩
  rw [ho]
  cases ob with
  | box T a => exact ⟨rfl, rfl⟩
  | row v m T xs => exact ⟨rfl, Nat.le_refl _, fun _ => rfl⟩
  | imm v m T xs => exact ⟨rfl, Nat.le_refl _, fun _ => rfl⟩
theorem Evo.trans {X Y Z : Ctx} (h : Evo X Y) (k : Evo Y Z) : Evo X Z := by
  refine ⟨h.agree.trans (k.agree.mono h.j), fun b hb => k.i b (h.i b hb), fun b hb => k.j b (h.j b hb), h.ij, fun o ob ho => ?_⟩
  have h1 := h.obj o ob ho
  cases ho2 : Y.objs o with
  | none => rw [ho2] at h1; cases ob <;> exact h1.elim
  | some ob2 =>
    have h2 := k.obj o ob2 ho2
    rw [ho2] at h1
    cases ho3 : Z.objs o with
    | none => rw [ho3] at h2; cases ob2 <;> exact h2.elim
    | some ob3 =>
      rw [ho3] at h2
      cases ob with
      | box T a =>
        cases ob2 with
        | box T2 a2 =>
          cases ob3 with
          | box T3 a3 => exact ⟨h2.1.trans h1.1, h2.2.trans h1.2⟩
          | _ => exact h2.elim
        | _ => exact h1.elim
      | row v m T xs =>
        cases ob2 with
        | box T2 a2 => exact h1.elim
        | row v2 m2 T2 xs2 =>
          cases ob3 with
          | box T3 a3 => exact h2.elim
          | row v3 m3 T3 xs3 => exact ⟨h2.1.trans h1.1, Nat.le_trans h1.2.1 h2.2.1, fun e => by
              have e1 : v = v2 := Nat.le_antisymm h1.2.1 (by have := h2.2.1; omega)
              exact (h2.2.2 (e1.symm.trans e)).trans (h1.2.2 e1)⟩
          | imm v3 m3 T3 xs3 => exact ⟨h2.1.trans h1.1, Nat.le_trans h1.2.1 h2.2.1, fun e => by
              have e1 : v = v2 := Nat.le_antisymm h1.2.1 (by have := h2.2.1; omega)
              exact (h2.2.2 (e1.symm.trans e)).trans (h1.2.2 e1)⟩
        | imm v2 m2 T2 xs2 =>
          cases ob3 with
          | box T3 a3 => exact h2.elim
          | row v3 m3 T3 xs3 => exact h2.elim
          | imm v3 m3 T3 xs3 => exact ⟨h2.1.trans h1.1, Nat.le_trans h1.2.1 h2.2.1, fun e => by
              have e1 : v = v2 := Nat.le_antisymm h1.2.1 (by have := h2.2.1; omega)
              exact (h2.2.2 (e1.symm.trans e)).trans (h1.2.2 e1)⟩
      | imm v m T xs =>
        cases ob2 with
        | box T2 a2 => exact h1.elim
        | row v2 m2 T2 xs2 => exact h1.elim
        | imm v2 m2 T2 xs2 =>
          cases ob3 with
          | box T3 a3 => exact h2.elim
          | row v3 m3 T3 xs3 => exact h2.elim
          | imm v3 m3 T3 xs3 => exact ⟨h2.1.trans h1.1, Nat.le_trans h1.2.1 h2.2.1, fun e => by
              have e1 : v = v2 := Nat.le_antisymm h1.2.1 (by have := h2.2.1; omega)
              exact (h2.2.2 (e1.symm.trans e)).trans (h1.2.2 e1)⟩

/-- Some orders were drawn: nothing else has turned. -/
theorem Fits.same {E : Fix} {X : Ctx} (F : Fits E X) {w' : World} (h1 : w'.os = X.w.os) (h2 : w'.tape = X.w.tape) (h3 : w'.output = X.w.output) (h4 : w'.heap = X.w.heap) :
    Fits E { X with w := w' } ∧ Evo X { X with w := w' } := by
  have hev : Evo X { X with w := w' } := by
    refine ⟨fun b _ => by show w'.heap[b]? = _; rw [h4], fun _ h => h, fun _ h => h, F.ij, fun o ob ho => ?_⟩
    show ObC _ _ ob (X.objs o)
    rw [ho]
    cases ob with
    | box T a => exact ⟨rfl, rfl⟩
    | row v m T xs => exact ⟨rfl, Nat.le_refl _, fun _ => rfl⟩
    | imm v m T xs => exact ⟨rfl, Nat.le_refl _, fun _ => rfl⟩
  refine ⟨⟨?_, fun o ob ho => ?_, F.dist, F.ownJ, fun o b h => ?_, F.ij, fun b hb => ?_, F.i0, F.iw, F.j0, F.jw⟩, hev⟩
  · refine ⟨h1.trans F.keep.os, h2.trans F.keep.tape, h3.trans F.keep.output, ?_, fun k hk hs => ?_⟩
    · show _ ≤ w'.heap.size; rw [h4]; exact F.keep.size
    · show w'.heap[k]? = _; rw [h4]; exact F.keep.block k hk hs
  · exact ObjR.evo hev (F.objs o ob ho) (fun _ => by show w'.heap[_]? = _; rw [h4])
  · have := F.ownw o b h
    refine ⟨?_, this.2⟩
    show b < w'.heap.size
    rw [h4]; exact this.1
  · show b < w'.heap.size
    rw [h4]; exact F.jlt b hb

/-! ### Loads and stores -/
theorem okCell_sl (l : Loc) : okCell l.sl := by unfold Loc.sl; split <;> trivial
theorem AVR.okc {X : Ctx} : ∀ {a : AV} {T : Ty} {c : Cs}, AVR X a c → a.fits T = true → a.cur X.objs = true → ∀ j, j < a.sz → ∃ v, c j = some v ∧ okCell v := by
  intro a
  induction a with
  | undef => intro T c r f; cases T <;> simp [AV.fits] at f
  | pv m T x => intro T' c r f _; exact Rep.cells r
  | nilv => intro T c r f _ j hj; obtain rfl : j = 0 := by simp [AV.sz] at hj; exact hj
            exact ⟨_, r, trivial⟩
  | row o v =>
    intro T c r f hc j hj
    obtain rfl : j = 0 := by simp [AV.sz] at hj; exact hj
    simp only [AVR] at r
    simp only [AV.cur] at hc
    cases ho : X.objs o with
    | none => simp [ho] at r
    | some ob =>
      rw [ho] at r hc
      cases ob with
      | box T a => exact r.elim
      | row v' m T xs => exact ⟨_, r.2 (Nat.eq_of_beq_eq_true hc), okCell_sl _⟩
      | imm v' m T xs => exact ⟨_, r.2 (Nat.eq_of_beq_eq_true hc), okCell_sl _⟩
  | bptr o p =>
    intro T c r f hc j hj
    obtain rfl : j = 0 := by simp [AV.sz] at hj; exact hj
    simp only [AVR] at r
    simp only [AV.cur] at hc
    cases ho : X.objs o with
    | none => simp [ho] at r
    | some ob =>
      rw [ho] at r hc
      cases ob with
      | box T a =>
        dsimp only at r hc
        cases hp : Ty.at p T with
        | none => simp [hp] at hc
        | some q => obtain ⟨off, T'⟩ := q; exact ⟨_, r.2 off T' hp, trivial⟩
      | row v' m T xs => exact r.elim
      | imm v' m T xs => exact r.elim
  | rptr o v i p =>
    intro T c r f hc j hj
    obtain rfl : j = 0 := by simp [AV.sz] at hj; exact hj
    simp only [AVR] at r
    simp only [AV.cur] at hc
    cases ho : X.objs o with
    | none => simp [ho] at r
    | some ob =>
      rw [ho] at r hc
      cases ob with
      | box T a => exact r.elim
      | row v' m T xs =>
        simp only [Bool.and_eq_true] at hc
        have e := Nat.eq_of_beq_eq_true hc.1
        subst e
        dsimp only at r
        cases hp : Ty.at p T with
        | none => simp [hp] at hc
        | some q => obtain ⟨off, T'⟩ := q; exact ⟨_, (r.2 rfl).2.2 off T' hp, trivial⟩
      | imm v' m T xs => simp at hc
  | pp m T x =>
    intro T' c r f _ j hj
    obtain rfl : j = 0 := by simp [AV.sz] at hj; exact hj
    obtain ⟨b, off, h, _⟩ := r
    exact ⟨_, h, trivial⟩
  | fn g os =>
    intro T c r f _ j hj
    obtain rfl : j = 0 := by simp [AV.sz] at hj; exact hj
    exact ⟨_, r.1, trivial⟩
  | unit => intro T c r f _ j hj; simp [AV.sz] at hj
  | pair a b iha ihb =>
    intro T c r f hc j hj
    cases T with
    | pair A B =>
      simp only [AV.fits, Bool.and_eq_true] at f
      simp only [AV.cur, Bool.and_eq_true] at hc
      by_cases h : j < a.sz
      · exact iha r.1 f.1 hc.1 j h
      · obtain ⟨v, hv, ok⟩ := ihb r.2 f.2 hc.2 (j - a.sz) (by simp only [AV.sz] at hj; omega)
        refine ⟨v, ?_, ok⟩
        have e : a.sz + (j - a.sz) = j := by omega
        rw [shift, e] at hv
        exact hv
    | _ => simp [AV.fits] at f
  | tnil => intro T c r f; cases T <;> simp [AV.fits] at f
  | tcons a b => intro T c r f; cases T <;> simp [AV.fits] at f
end Go.Proofs.Ytmggpiijahiaiaa.Ev
/- What the machine's loads, stores and new variables do to its world. -/
namespace Go.Proofs.Ytmggpiijahiaiaa.Ev
open Go
set_option linter.unusedVariables false
set_option linter.unusedSimpArgs false

theorem run_info {P : Program} {t : TypeId} {i : TypeInfo} (h : P.info? t = some i) (w : World) : (typeInfo t).run P w = .ok i w := by
  simp [typeInfo, h]
theorem run_under {P : Program} {t : TypeId} {d : TypeDesc} (h : P.underlying t = some d) (w : World) : (underlying t).run P w = .ok d w := by
  simp [underlying, h]
theorem run_agg {P : Program} {T : Ty} {t : TypeId} (h : (TB P T).1 t = true) (w : World) : (isAgg t).run P w = .ok T.isAgg w := by
  obtain ⟨d, hd, ha⟩ := TB_agg h
  unfold isAgg
  simp only [Sem.run_bind, run_under hd, Result.andThen_ok]
  cases d <;> simp [aggDesc] at ha <;> simp [ha]
theorem run_size {P : Program} {T : Ty} {t : TypeId} (h : (TB P T).1 t = true) (w : World) : (sizeOf t).run P w = .ok T.sz w := by
  obtain ⟨i, z, hi⟩ := TB_info h
  simp [sizeOf, run_info hi.info, hi.size]
theorem run_zero {P : Program} {t : TypeId} {i : TypeInfo} {z : Value} (h : P.info? t = some i) (hz : i.zero = some z) (w : World) : (zeroValue t).run P w = .ok z w := by
  simp [zeroValue, run_info h, hz]

theorem mem_cells {w : World} {b off : Nat} {cs : Array Value} {te : TypeId} {fr : Nat × Nat} (h : w.heap[b]? = some (.cells cs te fr)) (j : Nat) : mem w b off j = cs[off + j]? := by
  simp [mem, World.cell?, h]

theorem run_loadAt {P : Program} {w : World} {T : Ty} {t : TypeId} (ht : (TB P T).1 t = true) {b off : Nat} (hc : ∀ j, j < T.sz → ∃ v, mem w b off j = some v ∧ okCell v) :
    ∃ val, (Instr.loadAt t (.pointer (some ⟨b, off, none⟩))).run P w = .ok val w ∧ Value.isAgg val = T.isAgg ∧ val.cells.size = T.sz ∧ ∀ j, j < T.sz → cv val j = mem w b off j := by
  cases ha : T.isAgg with
  | true =>
    have hl := run_loadCells (P := P) w ⟨b, off, none⟩ T.sz (fun j => (mem w b off j).getD undef) (fun j hj => by
      obtain ⟨v, hv, _⟩ := hc j hj
      rw [hv, Addr.add_lit]
      exact hv)
    refine ⟨.agg ((List.range T.sz).map fun j => (mem w b off j).getD undef).toArray, ?_, rfl, by simp [Value.cells], fun j hj => ?_⟩
    · simp [Instr.loadAt, Instr.sureAddr, loadVar, run_agg ht, ha, run_size ht, hl]
    · obtain ⟨v, hv, _⟩ := hc j hj
      simp [cv, Value.cells, hj, hv]
  | false =>
    have hs : T.sz = 1 := by cases T <;> simp [Ty.isAgg] at ha <;> rfl
    obtain ⟨v, hv, hok⟩ := hc 0 (by omega)
    have hv' : w.cell? ⟨b, off, none⟩ = some v := hv
    refine ⟨v, by simp [Instr.loadAt, Instr.sureAddr, loadVar, run_agg ht, ha, hv'], ?_, ?_, fun j hj => ?_⟩
    · cases v <;> first | rfl | exact hok.elim
    · rw [hs]; cases v <;> first | rfl | exact hok.elim
    · obtain rfl : j = 0 := by omega
      rw [hv]
      cases v <;> first | rfl | exact hok.elim

theorem run_storeAt {P : Program} {w : World} {T : Ty} {t : TypeId} (ht : (TB P T).1 t = true) {b off : Nat} {val : Value} {cs : Array Value} {te : TypeId} (hb : w.heap[b]? = some (.cells cs te (0, 0)))
    (hs : val.cells.size = T.sz) (hr : off + T.sz ≤ cs.size) (hok : ∀ j, j < T.sz → ∃ v, cv val j = some v ∧ okCell v) :
    ∃ cs', (Instr.storeAt t (.pointer (some ⟨b, off, none⟩)) val).run P w = .ok () (w.setRow b cs') ∧ cs'.size = cs.size ∧ (∀ j, j < T.sz → cs'[off + j]? = cv val j) ∧ ∀ j, (j < off ∨ off + T.sz ≤ j) → cs'[j]? = cs[j]? := by
  have hst := run_storeCells_at P b off te val.cells.toList 0 cs w hb (by simp [hs]; omega) (fun v hv => by
    obtain ⟨j, hj, e⟩ := List.getElem_of_mem hv
    obtain ⟨u, hu, ok⟩ := hok j (by simp [hs] at hj; exact hj)
    have : cv val j = some v := by
      simp only [cv]
      rw [← Array.getElem?_toList, List.getElem?_eq_getElem hj, e]
    rw [this] at hu
    injection hu with hu
    exact oneCell_of_ok (hu ▸ ok))
  have hlen : val.cells.toList.length = T.sz := by simp [hs]
  simp only [Nat.add_zero] at hst
  rw [hlen] at hst
  refine ⟨(List.take off cs.toList ++ val.cells.toList ++ List.drop (off + T.sz) cs.toList).toArray, ?_, ?_, fun j hj => ?_, fun j hj => ?_⟩
  · simp [Instr.storeAt, Instr.sureAddr, storeVar, run_size ht, hs, hst]
  · simp only [List.size_toArray, List.length_append, List.length_take, List.length_drop, Array.length_toList, hs]
    omega
  · simp only [List.getElem?_toArray, List.getElem?_append, List.length_append, List.length_take, Array.length_toList, hs]
    rw [if_pos (by omega), if_neg (by omega)]
    simp only [cv, ← Array.getElem?_toList]
    congr 1
    omega
  · simp only [List.getElem?_toArray, List.getElem?_append, List.length_append, List.length_take, Array.length_toList, hs, List.getElem?_take, List.getElem?_drop]
    rcases hj with h | h
    · rw [if_pos (by omega), if_pos (by omega), if_pos h]
      simp
    · rw [if_neg (by omega), ← Array.getElem?_toList]
      congr 1
      omega

theorem heap_setRow_ne (w : World) (g : Nat) (cs : Array Value) {k : Nat} (h : k ≠ g) : (w.setRow g cs).heap[k]? = w.heap[k]? := by
  simp only [World.setRow, Array.getElem?_modify]
  rw [if_neg (by omega)]
theorem heap_setRow_size (w : World) (g : Nat) (cs : Array Value) : (w.setRow g cs).heap.size = w.heap.size := by simp [World.setRow]

theorem run_alloc {P : Program} {t : TypeId} {i : TypeInfo} {z : Value} (h : P.info? t = some i) (hz : i.zero = some z) (w : World) :
    (Instr.alloc t true (.tuple #[])).run P w = .ok (.pointer (some ⟨w.heap.size, 0, none⟩)) (w.alloc (.cells z.cells t)) := by
  simp [Instr.alloc, run_zero h hz, newVar, newRow]
theorem run_box {P : Program} (t : TypeId) (v : Value) (w : World) :
    (Instr.box t v).run P w = .ok (.pointer (some ⟨w.heap.size, 0, none⟩)) (w.alloc (.cells v.cells t)) := by
  simp [Instr.box, newVar, newRow]
theorem heap_alloc_at (w : World) (o : Obj) : (w.alloc o).heap[w.heap.size]? = some o := by
  show (w.heap.push o)[w.heap.size]? = _
  simp
theorem heap_alloc_lt (w : World) (o : Obj) {k : Nat} (h : k < w.heap.size) : (w.alloc o).heap[k]? = w.heap[k]? := by
  show (w.heap.push o)[k]? = _
  rw [Array.getElem?_push, if_neg (by omega)]
theorem Turns.alloc (X : Ctx) (o : Obj) : Turns X (X.w.alloc o) (fun _ => False) := ⟨rfl, rfl, rfl, by show _ ≤ (X.w.heap.push o).size; simp, fun k hk _ => heap_alloc_lt _ _ hk⟩
theorem Turns.drew {X : Ctx} {w : World} {m : Bs} (h : Turns X w m) : Turns X w.drew m := ⟨h.os, h.tape, h.output, h.size, h.block⟩
theorem Turns.setRow (X : Ctx) (g : Nat) (cs : Array Value) : Turns X (X.w.setRow g cs) (fun b => b = g) :=
  ⟨rfl, rfl, rfl, by rw [heap_setRow_size]; exact Nat.le_refl _, fun k _ hk => heap_setRow_ne _ _ _ hk⟩
end Go.Proofs.Ytmggpiijahiaiaa.Ev
/- The abstract operations that make no memory, each with a proof that the machine's operation comes to the same. -/
namespace Go.Proofs.Ytmggpiijahiaiaa.Ev
open Go
set_option linter.unusedVariables false
set_option linter.unusedSimpArgs false

/-- A run that may part its ways, call, or fail. -/
inductive Tr (α : Type) where
  | ret (a : α)
  | fail
  | ite (c : Bool) (t e : Tr α)
  | call (R : Ty) (o : Option R.D) (f : R.D → Tr α)
def Tr.bind {α β : Type} : Tr α → (α → Tr β) → Tr β
  | .ret a, f => f a
  | .fail, _ => .fail
  | .ite c t e, f => .ite c (t.bind f) (e.bind f)
  | .call R o g, f => .call R o fun x => (g x).bind f
def Tr.run {α : Type} : Tr α → Option α
  | .ret a => some a
  | .fail => none
  | .ite c t e => if c = true then t.run else e.run
  | .call _ o g => o.bind fun x => (g x).run
theorem Tr.run_bind {α β : Type} (t : Tr α) (f : α → Tr β) : (t.bind f).run = t.run.bind fun a => (f a).run := by
  induction t with
  | ret a => rfl
  | fail => rfl
  | ite c t e iht ihe => simp only [Tr.bind, Tr.run, iht, ihe]; split <;> rfl
  | call R o g ih => cases o <;> simp [Tr.bind, Tr.run, ih]
def Tr.grd {α : Type} (c : Bool) (t : Tr α) : Tr α := .ite c t .fail
theorem Tr.run_grd {α : Type} {c : Bool} {t : Tr α} {a : α} (h : (Tr.grd c t).run = some a) : c = true ∧ t.run = some a := by
  simp only [Tr.grd, Tr.run] at h
  split at h
  · exact ⟨‹_›, h⟩
  · exact absurd h (by simp)
/-- A test that is decided on the spot. -/
def Tr.chk {α : Type} (c : Bool) (t : Tr α) : Tr α := match c with
  | true => t
  | false => .fail
theorem Tr.run_chk {α : Type} {c : Bool} {t : Tr α} {a : α} (h : (Tr.chk c t).run = some a) : c = true ∧ t.run = some a := by
  cases c
  · exact absurd h (by simp [Tr.chk, Tr.run])
  · exact ⟨rfl, h⟩
def Tr.of {α β : Type} (o : Option α) (f : α → Tr β) : Tr β := match o with
  | some a => f a
  | none => .fail
theorem Tr.run_of {α β : Type} {o : Option α} {f : α → Tr β} {b : β} (h : (Tr.of o f).run = some b) : ∃ a, o = some a ∧ (f a).run = some b := by
  cases o
  · exact absurd h (by simp [Tr.of, Tr.run])
  · exact ⟨_, rfl, h⟩
theorem Tr.run_ret {α : Type} {a b : α} (h : (Tr.ret a).run = some b) : a = b := Option.some.inj h
theorem Tr.run_fail {α : Type} {b : α} (h : (Tr.fail : Tr α).run = some b) : False := by simp [Tr.run] at h

/-! ### What operands are -/
def constAV : Value → Option AV
  | .bool b => some (.pv false .bool b)
  | .int k n => some (.pv false (.int k) n)
  | .string s => some (.pv false .str s)
  | .slice none 0 0 => some .nilv
  | .pointer none => some .undef
  | _ => none
def valOf (ss : List AV) : Operand → Option AV
  | .tmp t => some (ss.getD t .undef)
  | .const v => constAV v
  | .func f => some (.fn f [])
  | .global _ => none
theorem constAV_ok {X : Ctx} {v : Value} {a : AV} (h : constAV v = some a) : SlotR X a v := by
  unfold constAV at h
  split at h <;> first | (simp only [Option.some.injEq] at h; subst h; exact ⟨rfl, rfl, rfl⟩) | (simp only [Option.some.injEq] at h; subst h; trivial) | exact absurd h (by simp)
theorem valOf_ok {X : Ctx} {ss : List AV} {a : Act} (hs : SlotsR X ss a.tmps) {x : Operand} {v : AV} (h : valOf ss x = some v) : SlotR X v (a.eval x) := by
  cases x with
  | tmp t => simp only [valOf, Option.some.injEq] at h; subst h; exact hs.2 t
  | const c => exact constAV_ok h
  | func f => simp only [valOf, Option.some.injEq] at h; subst h; exact ⟨rfl, rfl, rfl, fun o ho => absurd ho (by simp)⟩
  | global g => simp [valOf] at h

theorem one_cell {v : Value} (h1 : Value.isAgg v = false) (h2 : v.cells.size = 1) : cv v 0 = some v := by
  cases v <;> first | rfl | simp [Value.isAgg] at h1
theorem slot_int {X : Ctx} {m : Bool} {k : IntKind} {n : Int} {v : Value} (h : SlotR X (.pv m (.int k) n) v) : v = .int k n := by
  obtain ⟨h1, h2, h3⟩ := h
  have e := one_cell h1 h2
  have h3' : cv v 0 = some (.int k n) := h3
  rw [e] at h3'
  exact Option.some.inj h3'
theorem slot_bool {X : Ctx} {m : Bool} {b : Bool} {v : Value} (h : SlotR X (.pv m .bool b) v) : v = .bool b := by
  obtain ⟨h1, h2, h3⟩ := h
  have e := one_cell h1 h2
  have h3' : cv v 0 = some (.bool b) := h3
  rw [e] at h3'
  exact Option.some.inj h3'
theorem slot_str {X : Ctx} {m : Bool} {s : ByteArray} {v : Value} (h : SlotR X (.pv m .str s) v) : v = .string s := by
  obtain ⟨h1, h2, h3⟩ := h
  have e := one_cell h1 h2
  have h3' : cv v 0 = some (.string s) := h3
  rw [e] at h3'
  exact Option.some.inj h3'
theorem slot_nil {X : Ctx} {v : Value} (h : SlotR X .nilv v) : v = .slice none 0 0 := by
  obtain ⟨h1, h2, h3⟩ := h
  have e := one_cell h1 h2
  have h3' : cv v 0 = some (.slice none 0 0) := h3
  rw [e] at h3'
  exact Option.some.inj h3'
theorem slot_slice {X : Ctx} {m : Bool} {e : Ty} {xs : List e.D} {v : Value} (h : SlotR X (.pv m (.slice e) xs) v) : ∃ ad cap, v = .slice ad xs.length cap ∧ xs.length ≤ cap ∧
      (0 < xs.length → ∃ b off, ad = some ⟨b, off, none⟩ ∧ X.set m b ∧ ∀ i (h : i < xs.length), Rep X.w (X.set m) e xs[i] (mem X.w b (off + i * e.sz))) := by
  obtain ⟨h1, h2, h3⟩ := h
  have e1 := one_cell h1 h2
  obtain ⟨ad, cap, h4, h5, h6⟩ := h3
  rw [e1] at h4
  exact ⟨ad, cap, Option.some.inj h4, h5, h6⟩
theorem slot_row {X : Ctx} {o v : Nat} {val : Value} (h : SlotR X (.row o v) val) {m : Bool} {T : Ty} {xs : List T.D} (ho : X.objs o = some (.row v m T xs)) : val = (X.φ o).sl := by
  obtain ⟨h1, h2, h3⟩ := h
  have e := one_cell h1 h2
  simp only [AVR, ho] at h3
  have := h3.2 trivial
  rw [e] at this
  exact Option.some.inj this
theorem slot_imm {X : Ctx} {o v : Nat} {val : Value} (h : SlotR X (.row o v) val) {m : Bool} {T : Ty} {xs : List T.D} (ho : X.objs o = some (.imm v m T xs)) : val = (X.φ o).sl := by
  obtain ⟨h1, h2, h3⟩ := h
  have e := one_cell h1 h2
  simp only [AVR, ho] at h3
  have := h3.2 trivial
  rw [e] at this
  exact Option.some.inj this
theorem slot_bptr {X : Ctx} {o : Nat} {p : List Step} {val : Value} (h : SlotR X (.bptr o p) val) {T : Ty} {a : AV} (ho : X.objs o = some (.box T a)) : PathOk p T ∧ ∀ off T', Ty.at p T = some (off, T') → val = .pointer (some ⟨(X.φ o).blk, off, none⟩) := by
  obtain ⟨h1, h2, h3⟩ := h
  have e := one_cell h1 h2
  simp only [AVR, ho] at h3
  refine ⟨h3.1, fun off T' ht => ?_⟩
  have := h3.2 off T' ht
  rw [e] at this
  exact Option.some.inj this
theorem slot_rptr {X : Ctx} {o v i : Nat} {p : List Step} {val : Value} (h : SlotR X (.rptr o v i p) val) {m : Bool} {T : Ty} {xs : List T.D} (ho : X.objs o = some (.row v m T xs)) : i < (X.φ o).len ∧ PathOk p T ∧ ∀ off T', Ty.at p T = some (off, T') → val = .pointer (some ⟨(X.φ o).blk, i * T.sz + off, none⟩) := by
  obtain ⟨h1, h2, h3⟩ := h
  have e := one_cell h1 h2
  simp only [AVR, ho] at h3
  obtain ⟨h4, h5, h6⟩ := h3.2 trivial
  refine ⟨h4, h5, fun off T' ht => ?_⟩
  have := h6 off T' ht
  rw [e] at this
  exact Option.some.inj this
theorem slot_pp {X : Ctx} {m : Bool} {T : Ty} {x : T.D} {val : Value} (h : SlotR X (.pp m T x) val) : ∃ b off, val = .pointer (some ⟨b, off, none⟩) ∧ X.set m b ∧ Rep X.w (X.set m) T x (mem X.w b off) := by
  obtain ⟨h1, h2, b, off, h4, h5, h6⟩ := h
  have e := one_cell h1 h2
  rw [e] at h4
  exact ⟨b, off, Option.some.inj h4, h5, h6⟩
theorem slot_of_cell {X : Ctx} {a : AV} {v : Value} (hv : okCell v) (ha : a.isAgg = false) (hz : a.sz = 1) (hr : AVR X a (cv v)) (ht : ∀ x y, a ≠ .tcons x y) (hn : a ≠ .tnil) : SlotR X a v := by
  have h1 : Value.isAgg v = false := by cases v <;> first | rfl | exact hv.elim
  have h2 : v.cells.size = 1 := by cases v <;> first | rfl | exact hv.elim
  cases a with
  | undef => trivial
  | tnil => exact absurd rfl hn
  | tcons x y => exact absurd rfl (ht x y)
  | _ => exact ⟨h1.trans ha.symm, h2.trans hz.symm, hr⟩
theorem slot_mk_int {X : Ctx} (m : Bool) (k : IntKind) (n : Int) : SlotR X (.pv m (.int k) n) (.int k n) := ⟨rfl, rfl, rfl⟩
theorem slot_mk_bool {X : Ctx} (m : Bool) (b : Bool) : SlotR X (.pv m .bool b) (.bool b) := ⟨rfl, rfl, rfl⟩
theorem slot_mk_str {X : Ctx} (m : Bool) (s : ByteArray) : SlotR X (.pv m .str s) (.string s) := ⟨rfl, rfl, rfl⟩

/-! ### Arithmetic -/
def pvI (k : IntKind) (n : Int) : AV := .pv false (.int k) n
def pvB (b : Bool) : AV := .pv false .bool b
def binI (op : BinOp) (k k' : IntKind) (a b : Int) : Tr AV :=
  match op with
  | .shl => .ite (decide (b < 0)) .fail (.ret (pvI k (k.wrap (a * 2 ^ min b.toNat k.bits))))
  | .shr => .ite (decide (b < 0)) .fail (.ret (pvI k (a.fdiv (2 ^ min b.toNat k.bits))))
  | op => Tr.chk (decide (k = k')) <| match op with
    | .add => .ret (pvI k (k.wrap (a + b)))
    | .sub => .ret (pvI k (k.wrap (a - b)))
    | .mul => .ret (pvI k (k.wrap (a * b)))
    | .quo => .ite (decide (b = 0)) .fail (.ret (pvI k (k.wrap (a.tdiv b))))
    | .rem => .ite (decide (b = 0)) .fail (.ret (pvI k (a.tmod b)))
    | .and => .ret (pvI k (Go.bits .and k a b))
    | .or => .ret (pvI k (Go.bits .or k a b))
    | .xor => .ret (pvI k (Go.bits .xor k a b))
    | .andNot => .ret (pvI k (Go.bits .andNot k a b))
    | .eql => .ret (pvB (a == b))
    | .neq => .ret (pvB (a != b))
    | .lss => .ret (pvB (decide (a < b)))
    | .leq => .ret (pvB (decide (a ≤ b)))
    | .gtr => .ret (pvB (decide (a > b)))
    | .geq => .ret (pvB (decide (a ≥ b)))
    | _ => .fail
theorem binI_ok {P : Program} {X : Ctx} {op : BinOp} {k k' : IntKind} {a b : Int} {r : AV} (h : (binI op k k' a b).run = some r) (xt : TypeId) :
    ∃ v, (binOp op xt (.int k a) (.int k' b)).run P X.w = .ok v X.w ∧ SlotR X r v := by
  cases op <;> simp only [binI] at h
  case shl =>
    simp only [Tr.run] at h
    split at h
    · exact absurd h (by simp)
    · rename_i hb
      simp only [decide_eq_true_eq] at hb
      obtain rfl := Option.some.inj h
      exact ⟨_, by simp [binOp, Op.shift, hb], slot_mk_int _ _ _⟩
  case shr =>
    simp only [Tr.run] at h
    split at h
    · exact absurd h (by simp)
    · rename_i hb
      simp only [decide_eq_true_eq] at hb
      obtain rfl := Option.some.inj h
      exact ⟨_, by simp [binOp, Op.shift, hb], slot_mk_int _ _ _⟩
  case quo =>
    replace h := Tr.run_chk h
    obtain ⟨hk, h⟩ := h
    obtain rfl := of_decide_eq_true hk
    simp only [Tr.run] at h
    split at h
    · exact absurd h (by simp)
    · rename_i hb
      simp only [decide_eq_true_eq] at hb
      obtain rfl := Option.some.inj h
      exact ⟨_, by simp [binOp, Op.intDiv, hb], slot_mk_int _ _ _⟩
  case rem =>
    replace h := Tr.run_chk h
    obtain ⟨hk, h⟩ := h
    obtain rfl := of_decide_eq_true hk
    simp only [Tr.run] at h
    split at h
    · exact absurd h (by simp)
    · rename_i hb
      simp only [decide_eq_true_eq] at hb
      obtain rfl := Option.some.inj h
      exact ⟨_, by simp [binOp, Op.intDiv, hb], slot_mk_int _ _ _⟩
  all_goals
    replace h := Tr.run_chk h
    obtain ⟨hk, h⟩ := h
    obtain rfl := of_decide_eq_true hk
    first
      | exact (Tr.run_fail h).elim
      | (obtain rfl := Option.some.inj h
         first
           | (refine ⟨_, ?_, slot_mk_int _ _ _⟩; simp [binOp, Op.intArith]; done)
           | (refine ⟨_, ?_, slot_mk_int _ _ _⟩; simp [binOp, intBits_and, intBits_or, intBits_xor, intBits_andNot]; done)
           | (refine ⟨_, ?_, slot_mk_bool _ _⟩; simp [binOp, Op.intCmp]; done))
def isBoolT (tab : TTab) (t : TypeId) : Bool := match tab.find t with
  | some ⟨_, .bool, _⟩ => true
  | _ => false
def binV (tab : TTab) (op : BinOp) (xt : TypeId) : AV → AV → Tr AV
  | .pv _ (.int k) a, .pv _ (.int k') b => binI op k k' a b
  | .pv _ .bool a, .pv _ .bool b => Tr.chk (isBoolT tab xt) <| match op with
    | .eql => .ret (pvB (a == b))
    | .neq => .ret (pvB (!(a == b)))
    | _ => .fail
  | .pv _ .str a, .pv _ .str b => match op with
    | .eql => .ret (pvB (a.toList == b.toList))
    | .neq => .ret (pvB (!(a.toList == b.toList)))
    | .lss => .ret (pvB (Op.bytesLess a.toList b.toList))
    | .gtr => .ret (pvB (!(Op.bytesLess a.toList b.toList || a.toList == b.toList)))
    | .leq => .ret (pvB (Op.bytesLess a.toList b.toList || a.toList == b.toList))
    | .geq => .ret (pvB (!Op.bytesLess a.toList b.toList))
    | .add => .ite (decide (((a.size + b.size : Nat) : Int) > IntKind.i64.max)) .fail (.ret (.pv false .str (a ++ b)))
    | _ => .fail
  | _, _ => .fail
theorem TB_bool {P : Program} {t : TypeId} (h : (TB P .bool).1 t = true) : P.underlying t = some .bool := by
  simp only [TB, Bool.and_eq_true] at h
  obtain ⟨d, hd, hf⟩ := descB_ok h.2
  cases d <;> simp [isBoolD] at hf
  exact hd
theorem isBoolT_ok {P : Program} {tab : TTab} (hT : tab.ok P = true) {t : TypeId} (h : isBoolT tab t = true) : P.underlying t = some .bool := by
  unfold isBoolT at h
  split at h
  · rename_i a b hf
    exact TB_bool (TTab.find_ok hT hf).1
  · simp at h
/-- The guard ahead of '==' says nothing of plain values. -/
theorem eqGuard_plain {P : Program} (op : BinOp) (t : TypeId) (x y : Operand) {a b : Value} (ha : Value.isAgg a = false) (hb : a ≠ .nilIface) (w : World) : (eqGuard op t x y a b).run P w = .ok () w := by
  unfold eqGuard
  cases op <;> first | rfl | (cases a <;> first | rfl | exact absurd rfl hb | exact absurd ha (by simp [Value.isAgg]))
theorem binV_ok {P : Program} {X : Ctx} {tab : TTab} (hT : tab.ok P = true) {op : BinOp} {xt : TypeId} {a b r : AV} (h : (binV tab op xt a b).run = some r) {x y : Value} (ha : SlotR X a x) (hb : SlotR X b y) (ox oy : Operand) :
    ∃ v, ((do eqGuard op xt ox oy x y; binOp op xt x y) : Sem Value).run P X.w = .ok v X.w ∧ SlotR X r v := by
  unfold binV at h
  split at h
  · rename_i m k n m' k' n'
    obtain rfl := slot_int ha
    obtain rfl := slot_int hb
    obtain ⟨v, hv, hr⟩ := binI_ok (P := P) (X := X) h xt
    exact ⟨v, by rw [Sem.run_bind, eqGuard_plain op xt ox oy rfl (by simp)]; exact hv, hr⟩
  · obtain rfl := slot_bool ha
    obtain rfl := slot_bool hb
    replace h := Tr.run_chk h
    obtain ⟨hk, h⟩ := h
    have hu := isBoolT_ok hT hk
    split at h
    · obtain rfl := Option.some.inj h
      refine ⟨_, ?_, slot_mk_bool _ _⟩
      rw [Sem.run_bind, eqGuard_plain _ xt ox oy rfl (by simp)]
      simp [binOp, run_equal_bool _ _ _ _ hu]
    · obtain rfl := Option.some.inj h
      refine ⟨_, ?_, slot_mk_bool _ _⟩
      rw [Sem.run_bind, eqGuard_plain _ xt ox oy rfl (by simp)]
      simp [binOp, run_equal_bool _ _ _ _ hu]
    · exact (Tr.run_fail h).elim
  · obtain rfl := slot_str ha
    obtain rfl := slot_str hb
    rw [Sem.run_bind, eqGuard_plain op xt ox oy rfl (by simp)]
    split at h
    case h_7 =>
      simp only [Tr.run] at h
      split at h
      · exact absurd h (by simp)
      · rename_i hc
        simp only [decide_eq_true_eq] at hc
        obtain rfl := Option.some.inj h
        exact ⟨_, by simp only [Result.andThen_ok, binOp, Op.stringOp]; rw [if_neg hc]; rfl, slot_mk_str _ _⟩
    all_goals first
      | exact (Tr.run_fail h).elim
      | (obtain rfl := Option.some.inj h
         exact ⟨_, by simp [binOp, Op.stringOp], slot_mk_bool _ _⟩)
  · exact (Tr.run_fail h).elim
def unV (op : UnOp) : AV → Tr AV
  | .pv _ .bool b => match op with
    | .not => .ret (pvB (!b))
    | _ => .fail
  | .pv _ (.int k) n => match op with
    | .neg => .ret (pvI k (k.wrap (0 - n)))
    | _ => .fail
  | _ => .fail
theorem unV_ok {P : Program} {X : Ctx} {op : UnOp} {a r : AV} (h : (unV op a).run = some r) {x : Value} (ha : SlotR X a x) : ∃ v, (Op.unary op x).run P X.w = .ok v X.w ∧ SlotR X r v := by
  unfold unV at h
  split at h
  · obtain rfl := slot_bool ha
    split at h
    · obtain rfl := Option.some.inj h
      exact ⟨_, rfl, slot_mk_bool _ _⟩
    · exact (Tr.run_fail h).elim
  · obtain rfl := slot_int ha
    split at h
    · obtain rfl := Option.some.inj h
      exact ⟨_, by simp [Op.unary, Op.intArith], slot_mk_int _ _ _⟩
    · exact (Tr.run_fail h).elim
  · exact (Tr.run_fail h).elim
def convV (tab : TTab) (src dst : TypeId) : AV → Tr AV
  | .pv _ (.int _) n => match tab.find src, tab.find dst with
    | some _, some ⟨_, .int k, _⟩ => .ret (pvI k (k.wrap n))
    | _, _ => .fail
  | _ => .fail
theorem convV_ok {P : Program} {X : Ctx} {tab : TTab} (hT : tab.ok P = true) {src dst : TypeId} {a r : AV} (h : (convV tab src dst a).run = some r) {x : Value} (ha : SlotR X a x) : ∃ v, (convert src dst x).run P X.w = .ok v X.w ∧ SlotR X r v := by
  unfold convV at h
  split at h
  · obtain rfl := slot_int ha
    split at h
    · rename_i e t k b hs hd
      obtain rfl := Option.some.inj h
      obtain ⟨d, hd1, _⟩ := TB_agg (TTab.find_ok hT hs).1
      have hd2 := TB_int (TTab.find_ok hT hd).1
      refine ⟨_, ?_, slot_mk_int _ _ _⟩
      simp only [convert, Sem.run_bind, run_under hd1, run_under hd2, Result.andThen_ok]
      cases d <;> rfl
    · exact (Tr.run_fail h).elim
  · exact (Tr.run_fail h).elim
end Go.Proofs.Ytmggpiijahiaiaa.Ev
/- The abstract operations that read memory, or find a place in it. -/
namespace Go.Proofs.Ytmggpiijahiaiaa.Ev
open Go
set_option linter.unusedVariables false
set_option linter.unusedSimpArgs false

theorem Ty.at_append : ∀ {p q : List Step} {T T' T'' : Ty} {o o' : Nat}, Ty.at p T = some (o, T') → Ty.at q T' = some (o', T'') → Ty.at (p ++ q) T = some (o + o', T'') := by
  intro p
  induction p with
  | nil =>
    intro q T T' T'' o o' h g
    simp only [Ty.at, Option.some.injEq, Prod.mk.injEq] at h
    obtain ⟨rfl, rfl⟩ := h
    simpa using g
  | cons s p ih =>
    intro q T T' T'' o o' h g
    cases s with
    | fst =>
      cases T with
      | pair A B => simp only [Ty.at] at h; simp only [List.cons_append, Ty.at]; exact ih h g
      | _ => simp [Ty.at] at h
    | snd =>
      cases T with
      | pair A B =>
        simp only [Ty.at] at h
        cases hb : Ty.at p B with
        | none => simp [hb] at h
        | some r =>
          obtain ⟨o1, t1⟩ := r
          simp only [hb, Option.some.injEq, Prod.mk.injEq] at h
          obtain ⟨rfl, rfl⟩ := h
          simp only [List.cons_append, Ty.at, ih hb g, Nat.add_assoc]
      | _ => simp [Ty.at] at h
    | ix i =>
      cases T with
      | arr n e =>
        simp only [Ty.at] at h
        cases hb : Ty.at p e with
        | none => simp [hb] at h
        | some r =>
          obtain ⟨o1, t1⟩ := r
          simp only [hb, Option.some.injEq, Prod.mk.injEq] at h
          obtain ⟨rfl, rfl⟩ := h
          simp only [List.cons_append, Ty.at, ih hb g, Nat.add_assoc]
      | _ => simp [Ty.at] at h
theorem PathOk.append : ∀ {p q : List Step} {T T' : Ty} {o : Nat}, PathOk p T → Ty.at p T = some (o, T') → PathOk q T' → PathOk (p ++ q) T := by
  intro p
  induction p with
  | nil =>
    intro q T T' o _ h g
    simp only [Ty.at, Option.some.injEq, Prod.mk.injEq] at h
    obtain ⟨rfl, rfl⟩ := h
    simpa using g
  | cons s p ih =>
    intro q T T' o k h g
    cases s with
    | fst =>
      cases T with
      | pair A B => simp only [Ty.at] at h; exact ih (q := q) k h g
      | _ => simp [Ty.at] at h
    | snd =>
      cases T with
      | pair A B =>
        simp only [Ty.at] at h
        cases hb : Ty.at p B with
        | none => simp [hb] at h
        | some r =>
          simp only [hb, Option.some.injEq, Prod.mk.injEq] at h
          obtain ⟨rfl, rfl⟩ := h
          exact ih (q := q) k hb g
      | _ => simp [Ty.at] at h
    | ix i =>
      cases T with
      | arr n e =>
        simp only [Ty.at] at h
        cases hb : Ty.at p e with
        | none => simp [hb] at h
        | some r =>
          simp only [hb, Option.some.injEq, Prod.mk.injEq] at h
          obtain ⟨rfl, rfl⟩ := h
          exact ⟨k.1, ih (q := q) k.2 hb g⟩
      | _ => simp [Ty.at] at h
theorem fldPath_ok : ∀ {j : Nat} {T T' : Ty} {o : Nat}, Ty.at (fldPath j) T = some (o, T') → PathOk (fldPath j) T := by
  intro j
  induction j with
  | zero => intro T T' o h; cases T <;> simp [fldPath, Ty.at] at h; trivial
  | succ j ih =>
    intro T T' o h
    cases T with
    | pair A B =>
      simp only [fldPath, Ty.at] at h
      cases hb : Ty.at (fldPath j) B with
      | none => simp [hb] at h
      | some r => exact ih (T := B) (o := r.1) (T' := r.2) (by rw [hb])
    | _ => simp [fldPath, Ty.at] at h

section
variable {P : Program} {E : Fix} {X : Ctx} {tab : TTab}

theorem box_mem {o : Nat} {T : Ty} {a : AV} (F : Fits E X) (ho : X.objs o = some (.box T a)) : a.fits T = true ∧ AVR X a (mem X.w (X.φ o).blk 0) := ⟨(F.objs o _ ho).1, (F.objs o _ ho).2.2⟩
theorem box_cells {o : Nat} {T : Ty} {a : AV} (F : Fits E X) (ho : X.objs o = some (.box T a)) : ∃ cs te, X.w.heap[(X.φ o).blk]? = some (.cells cs te (0, 0)) ∧ cs.size = T.sz := (F.objs o _ ho).2.1
theorem row_mem {o v : Nat} {m : Bool} {T : Ty} {xs : List T.D} (F : Fits E X) (ho : X.objs o = some (.row v m T xs)) {i : Nat} (hi : i < xs.length) :
    Rep X.w (X.set m) T (xs.getD i T.zero) (mem X.w (X.φ o).blk (i * T.sz)) ∧ (X.φ o).nil = false := by
  obtain ⟨h1, h2, h3⟩ := F.objs o _ ho
  have hn : (X.φ o).nil = false := by
    cases hb : (X.φ o).nil with
    | false => rfl
    | true => have := h2 hb; subst this; simp at hi
  exact ⟨getD_rep (h3 hn).2.2 hi _, hn⟩

/-- What is loaded. -/
def aLoad (tab : TTab) (ob : Objs) (t : TypeId) : AV → Option AV
  | .bptr o p => match ob o, tab.find t with
    | some (.box T a), some e => match Ty.at p T with
      | some (_, T') => if T' = e.T then (match AV.get p a with
        | some r => if r.cur ob = true then some r else none
        | none => none) else none
      | none => none
    | _, _ => none
  | .rptr o v i p => match ob o, tab.find t with
    | some (.row v' m T xs), some e => match Ty.at p T with
      | some (_, T') => if T' = e.T ∧ Nat.beq v v' = true then AV.get p (.pv m T (xs.getD i T.zero)) else none
      | none => none
    | _, _ => none
  | .pp m T x => match tab.find t with
    | some e => if T = e.T then some (.pv m T x) else none
    | none => none
  | _ => none

theorem load_fin {t : TypeId} {T : Ty} (ht : (TB P T).1 t = true) {b off : Nat} {a : AV} (hr : AVR X a (mem X.w b off)) (hf : a.fits T = true) (hc : a.cur X.objs = true) :
    ∃ val, (Instr.loadAt t (.pointer (some ⟨b, off, none⟩))).run P X.w = .ok val X.w ∧ SlotR X a val := by
  have hz := AV.fits_sz hf
  obtain ⟨val, h1, h2, h3, h4⟩ := run_loadAt (P := P) (w := X.w) ht (b := b) (off := off) (fun j hj => AVR.okc hr hf hc j (by omega))
  refine ⟨val, h1, ?_⟩
  have : ValR X a val := ⟨h2.trans (AV.fits_agg hf).symm, h3.trans hz.symm, AVR.congr (fun j hj => h4 j (by omega)) hr⟩
  cases a with
  | undef => trivial
  | tnil => cases T <;> simp [AV.fits] at hf
  | tcons x y => cases T <;> simp [AV.fits] at hf
  | _ => exact this

theorem pure_cur (ob : Objs) (p : List Step) : ∀ {m : Bool} {T : Ty} {x : T.D} {r : AV}, AV.get p (.pv m T x) = some r → ∃ T' x', r = .pv m T' x' := by
  induction p with
  | nil => intro m T x r h; simp only [AV.get, Option.some.injEq] at h; exact ⟨T, x, h.symm⟩
  | cons s p ih =>
    intro m T x r h
    cases s <;> cases T <;> simp only [AV.get] at h <;> first | exact ih h | exact absurd h (by simp)

theorem aLoad_ok (F : Fits E X) (hT : tab.ok P = true) {t : TypeId} {p r : AV} {x : Value} (hp : SlotR X p x) (h : aLoad tab X.objs t p = some r) :
    ∃ val, (Instr.loadAt t x).run P X.w = .ok val X.w ∧ SlotR X r val := by
  unfold aLoad at h
  split at h
  · rename_i o p
    split at h
    · rename_i T a e ho he
      split at h
      · rename_i off T' hat
        split at h
        · rename_i hte
          split at h
          · rename_i r' hg
            split at h
            · rename_i hcur
              simp only [Option.some.injEq] at h
              subst h
              subst hte
              obtain ⟨hok, hx⟩ := slot_bptr hp ho
              rw [hx _ _ hat]
              obtain ⟨hf, hm⟩ := box_mem F ho
              obtain ⟨h1, h2⟩ := AV.get_ok hm hf hat hok hg
              rw [mem_shift, Nat.zero_add] at h1
              exact load_fin (TTab.find_ok hT he).1 h1 h2 hcur
            · exact absurd h (by simp)
          · exact absurd h (by simp)
        · exact absurd h (by simp)
      · exact absurd h (by simp)
    · exact absurd h (by simp)
  · rename_i o v i p
    split at h
    · rename_i v' m T xs e ho he
      split at h
      · rename_i off T' hat
        split at h
        · rename_i hte
          obtain ⟨hte, hv⟩ := hte
          obtain rfl := Nat.eq_of_beq_eq_true hv
          subst hte
          obtain ⟨hi, hok, hx⟩ := slot_rptr hp ho
          rw [hx _ _ hat]
          have hl : (X.φ o).len = xs.length := (F.objs o _ ho).1
          obtain ⟨hm, _⟩ := row_mem F ho (i := i) (by omega)
          obtain ⟨h1, h2⟩ := AV.get_ok (a := .pv m T (xs.getD i T.zero)) hm (by simp [AV.fits]) hat hok h
          rw [mem_shift] at h1
          obtain ⟨T2, x2, rfl⟩ := pure_cur X.objs p h
          exact load_fin (TTab.find_ok hT he).1 h1 h2 rfl
        · exact absurd h (by simp)
      · exact absurd h (by simp)
    · exact absurd h (by simp)
  · rename_i m T y
    split at h
    · rename_i e he
      split at h
      · rename_i hte
        simp only [Option.some.injEq] at h
        subst h
        obtain ⟨b, off, rfl, h1, h2⟩ := slot_pp hp
        exact load_fin (T := e.T) (TTab.find_ok hT he).1 h2 (by simp [AV.fits, hte]) rfl
      · exact absurd h (by simp)
    · exact absurd h (by simp)
  · exact absurd h (by simp)

/-- The place of a field. -/
def aFieldAddr (tab : TTab) (ob : Objs) (s : TypeId) (j : Nat) : AV → Option AV
  | .bptr o p => match ob o, tab.find s with
    | some (.box T _), some e => match Ty.at p T, Ty.at (fldPath j) e.T with
      | some (_, T'), some (_, Tj) => if T' = e.T ∧ Tj.sz ≠ 0 then some (.bptr o (p ++ fldPath j)) else none
      | _, _ => none
    | _, _ => none
  | .rptr o v i p => match ob o, tab.find s with
    | some (.row v' _ T _), some e => match Ty.at p T, Ty.at (fldPath j) e.T with
      | some (_, T'), some (_, Tj) => if T' = e.T ∧ Tj.sz ≠ 0 ∧ Nat.beq v v' = true then some (.rptr o v i (p ++ fldPath j)) else none
      | _, _ => none
    | _, _ => none
  | .pp m T x => match tab.find s with
    | some e => match Ty.at (fldPath j) e.T, AV.get (fldPath j) (.pv m T x) with
      | some (_, Tj), some (.pv m' T' x') => if T = e.T ∧ T' = Tj ∧ Tj.sz ≠ 0 then some (.pp m' T' x') else none
      | _, _ => none
    | none => none
  | _ => none

theorem run_fieldAt {s : TypeId} {T Tj : Ty} {off : Nat} {j : Nat} (hs : (TB P T).1 s = true) (hat : Ty.at (fldPath j) T = some (off, Tj)) (hz : Tj.sz ≠ 0) (b o : Nat) (w : World) :
    (Instr.fieldAt s (.pointer (some ⟨b, o, none⟩)) j).run P w = .ok (.pointer (some ⟨b, o + off, none⟩)) w := by
  obtain ⟨fs, hfs, f, hf, hoff, htb⟩ := TB_struct hs hat
  simp [Instr.fieldAt, run_under hfs, hf, Instr.sureAddr, fieldPlace, run_size htb, hz, hoff, Addr.add_lit]

theorem aFieldAddr_ok (F : Fits E X) (hT : tab.ok P = true) {s : TypeId} {j : Nat} {p r : AV} {x : Value} (hp : SlotR X p x) (h : aFieldAddr tab X.objs s j p = some r) :
    ∃ val, (Instr.fieldAt s x j).run P X.w = .ok val X.w ∧ SlotR X r val := by
  unfold aFieldAddr at h
  split at h
  · rename_i o p
    split at h
    · rename_i T a e ho he
      split at h
      · rename_i off T' oj Tj hat hatj
        split at h
        · rename_i hc
          obtain ⟨rfl, hz⟩ := hc
          simp only [Option.some.injEq] at h
          subst h
          obtain ⟨hok, hx⟩ := slot_bptr hp ho
          rw [hx _ _ hat]
          refine ⟨_, run_fieldAt (TTab.find_ok hT he).1 hatj hz _ _ _, rfl, rfl, ?_⟩
          simp only [AVR, ho]
          refine ⟨PathOk.append hok hat (fldPath_ok hatj), fun off' T'' h' => ?_⟩
          rw [Ty.at_append hat hatj] at h'
          simp only [Option.some.injEq, Prod.mk.injEq] at h'
          obtain ⟨rfl, rfl⟩ := h'
          rfl
        · exact absurd h (by simp)
      · exact absurd h (by simp)
    · exact absurd h (by simp)
  · rename_i o v i p
    split at h
    · rename_i v' m T xs e ho he
      split at h
      · rename_i off T' oj Tj hat hatj
        split at h
        · rename_i hc
          obtain ⟨rfl, hz, hv⟩ := hc
          obtain rfl := Nat.eq_of_beq_eq_true hv
          simp only [Option.some.injEq] at h
          subst h
          obtain ⟨hi, hok, hx⟩ := slot_rptr hp ho
          rw [hx _ _ hat]
          refine ⟨_, run_fieldAt (TTab.find_ok hT he).1 hatj hz _ _ _, rfl, rfl, ?_⟩
          simp only [AVR, ho]
          refine ⟨Nat.le_refl _, fun _ => ⟨hi, PathOk.append hok hat (fldPath_ok hatj), fun off' T'' h' => ?_⟩⟩
          rw [Ty.at_append hat hatj] at h'
          simp only [Option.some.injEq, Prod.mk.injEq] at h'
          obtain ⟨rfl, rfl⟩ := h'
          simp [cv, Value.cells, Nat.add_assoc]
        · exact absurd h (by simp)
      · exact absurd h (by simp)
    · exact absurd h (by simp)
  · rename_i m T y
    split at h
    · rename_i e he
      split at h
      · rename_i oj Tj m' T' x' hatj hg
        split at h
        · rename_i hc
          obtain ⟨rfl, rfl, hz⟩ := hc
          simp only [Option.some.injEq] at h
          subst h
          obtain ⟨b, off, rfl, h1, h2⟩ := slot_pp hp
          obtain ⟨h3, h4⟩ := AV.get_ok (a := .pv m e.T y) h2 (by simp [AV.fits]) hatj (fldPath_ok hatj) hg
          obtain ⟨T2, x2, e2⟩ := pure_cur X.objs _ hg
          injection e2 with e3 e4 e5
          subst e3
          rw [mem_shift] at h3
          exact ⟨_, run_fieldAt (TTab.find_ok hT he).1 hatj hz _ _ _, rfl, rfl, b, off + oj, rfl, h1, h3⟩
        · exact absurd h (by simp)
      · exact absurd h (by simp)
    · exact absurd h (by simp)
  · exact absurd h (by simp)

/-- The place of an element, once the index is known to lie within; and how many there are. -/
def aElem (tab : TTab) (ob : Objs) (t : TypeId) : AV → Option (Int × (Nat → AV))
  | .pv m (.slice e) xs => match tab.find t with
    | some ⟨_, .slice e', _⟩ => if e = e' then some ((xs.length : Int), fun i => .pp m e (xs.getD i e.zero)) else none
    | _ => none
  | .row o v => match ob o, tab.find t with
    | some (.row v' _ T xs), some ⟨_, .slice e', _⟩ => if T = e' ∧ Nat.beq v v' = true then some ((xs.length : Int), fun i => .rptr o v i []) else none
    | some (.imm v' m T xs), some ⟨_, .slice e', _⟩ => if T = e' ∧ Nat.beq v v' = true then some ((xs.length : Int), fun i => .pp m T (xs.getD i T.zero)) else none
    | _, _ => none
  | .bptr o p => match ob o, tab.find t with
    | some (.box T _), some ⟨_, .arr n e, _⟩ => match Ty.at p T with
      | some (_, T') => if T' = .arr n e then some ((n : Int), fun i => .bptr o (p ++ [.ix i])) else none
      | none => none
    | _, _ => none
  | .pp m (.arr n e) xs => match tab.find t with
    | some ⟨_, T', _⟩ => if T' = .arr n e then some ((n : Int), fun i => .pp m e (xs.getD i e.zero)) else none
    | none => none
  | _ => none

theorem run_indexAt_slice {t te : TypeId} {e : Ty} (hu : P.underlying t = some (.slice te)) (he : (TB P e).1 te = true) (b off len cap : Nat) (k : IntKind) (i : Int) (h0 : 0 ≤ i) (h1 : i < len) (w : World) :
    (Instr.indexAt t (.slice (some ⟨b, off, none⟩) len cap) (.int k i)).run P w = .ok (.pointer (some ⟨b, off + i.toNat * e.sz, none⟩)) w := by
  simp [Instr.indexAt, asIntOf, run_under hu, run_size he, h0, h1, Addr.add_lit]
theorem run_indexAt_arr {t te : TypeId} {e : Ty} {n : Nat} (hu : P.underlying t = some (.array n te)) (he : (TB P e).1 te = true) (b off : Nat) (k : IntKind) (i : Int) (h0 : 0 ≤ i) (h1 : i < n) (w : World) :
    (Instr.indexAt t (.pointer (some ⟨b, off, none⟩)) (.int k i)).run P w = .ok (.pointer (some ⟨b, off + i.toNat * e.sz, none⟩)) w := by
  simp [Instr.indexAt, asIntOf, run_under hu, run_size he, h0, h1, Addr.add_lit, Instr.sureAddr]

theorem aElem_ok (F : Fits E X) (hT : tab.ok P = true) {t : TypeId} {p : AV} {x : Value} (hp : SlotR X p x) {n : Int} {f : Nat → AV} (h : aElem tab X.objs t p = some (n, f)) {k : IntKind} {i : Int} (h0 : 0 ≤ i) (h1 : i < n) :
    ∃ val, (Instr.indexAt t x (.int k i)).run P X.w = .ok val X.w ∧ SlotR X (f i.toNat) val := by
  unfold aElem at h
  split at h
  · rename_i m e xs
    split at h
    · rename_i _ e' _ ht
      split at h
      · rename_i hee
        subst hee
        simp only [Option.some.injEq, Prod.mk.injEq] at h
        obtain ⟨rfl, rfl⟩ := h
        obtain ⟨te, hu, hte⟩ := TB_slice (TTab.find_ok hT ht).1
        obtain ⟨ad, cap, rfl, hcap, hr⟩ := slot_slice hp
        obtain ⟨b, off, rfl, hb, hr⟩ := hr (by omega)
        exact ⟨_, run_indexAt_slice hu hte b off _ cap k i h0 h1 _, rfl, rfl, b, _, rfl, hb, getD_rep hr (i := i.toNat) (by omega) _⟩
      · exact absurd h (by simp)
    · exact absurd h (by simp)
  · rename_i o v
    split at h
    · rename_i v' m T xs _ e' _ ho ht
      split at h
      · rename_i hc
        obtain ⟨rfl, hv⟩ := hc
        obtain rfl := Nat.eq_of_beq_eq_true hv
        simp only [Option.some.injEq, Prod.mk.injEq] at h
        obtain ⟨rfl, rfl⟩ := h
        obtain ⟨te, hu, hte⟩ := TB_slice (TTab.find_ok hT ht).1
        have hx := slot_row hp ho
        have hl : (X.φ o).len = xs.length := (F.objs o _ ho).1
        obtain ⟨_, hn⟩ := row_mem F ho (i := i.toNat) (by omega)
        rw [hx, Loc.sl, hn]
        refine ⟨_, run_indexAt_slice hu hte _ 0 _ _ k i h0 (by omega) _, rfl, rfl, ?_⟩
        simp only [AVR, ho]
        refine ⟨Nat.le_refl _, fun _ => ⟨by omega, trivial, fun off T' h' => ?_⟩⟩
        simp only [Ty.at, Option.some.injEq, Prod.mk.injEq] at h'
        obtain ⟨rfl, rfl⟩ := h'
        simp [cv, Value.cells]
      · exact absurd h (by simp)
    · rename_i v' m T xs _ e' _ ho ht
      split at h
      · rename_i hc
        obtain ⟨rfl, hv⟩ := hc
        obtain rfl := Nat.eq_of_beq_eq_true hv
        simp only [Option.some.injEq, Prod.mk.injEq] at h
        obtain ⟨rfl, rfl⟩ := h
        obtain ⟨te, hu, hte⟩ := TB_slice (TTab.find_ok hT ht).1
        have hx := slot_imm hp ho
        obtain ⟨hl, ad, cap, hsl, hcap, hr⟩ := F.objs o _ ho
        simp only [Option.some.injEq] at hsl
        obtain ⟨b, off, rfl, hb, hr⟩ := hr (by omega)
        rw [hx, hsl]
        exact ⟨_, run_indexAt_slice hu hte b off _ cap k i h0 h1 _, rfl, rfl, b, _, rfl, hb, getD_rep hr (i := i.toNat) (by omega) _⟩
      · exact absurd h (by simp)
    · exact absurd h (by simp)
  · rename_i o p
    split at h
    · rename_i T a _ n' e _ ho ht
      split at h
      · rename_i off T' hat
        split at h
        · rename_i hc
          subst hc
          simp only [Option.some.injEq, Prod.mk.injEq] at h
          obtain ⟨rfl, rfl⟩ := h
          obtain ⟨te, hu, hte⟩ := TB_arr (TTab.find_ok hT ht).1
          obtain ⟨hok, hx⟩ := slot_bptr hp ho
          rw [hx _ _ hat]
          refine ⟨_, run_indexAt_arr hu hte _ off k i h0 h1 _, rfl, rfl, ?_⟩
          have hix : Ty.at [.ix i.toNat] (.arr n' e) = some (i.toNat * e.sz, e) := by simp [Ty.at]
          simp only [AVR, ho]
          refine ⟨PathOk.append hok hat ⟨by omega, trivial⟩, fun off' T'' h' => ?_⟩
          rw [Ty.at_append hat hix] at h'
          simp only [Option.some.injEq, Prod.mk.injEq] at h'
          obtain ⟨rfl, rfl⟩ := h'
          rfl
        · exact absurd h (by simp)
      · exact absurd h (by simp)
    · exact absurd h (by simp)
  · rename_i m n' e xs
    split at h
    · rename_i _ T' _ ht
      split at h
      · rename_i hc
        subst hc
        simp only [Option.some.injEq, Prod.mk.injEq] at h
        obtain ⟨rfl, rfl⟩ := h
        obtain ⟨te, hu, hte⟩ := TB_arr (TTab.find_ok hT ht).1
        obtain ⟨b, off, rfl, hb, hl, hr⟩ := slot_pp hp
        refine ⟨_, run_indexAt_arr hu hte _ off k i h0 h1 _, rfl, rfl, b, _, rfl, hb, ?_⟩
        have := getD_rep hr (i := i.toNat) (by omega) e.zero
        rw [mem_shift] at this
        exact this
      · exact absurd h (by simp)
    · exact absurd h (by simp)
  · exact absurd h (by simp)
end
end Go.Proofs.Ytmggpiijahiaiaa.Ev
/- The abstract operations that write memory, or make it. -/
namespace Go.Proofs.Ytmggpiijahiaiaa.Ev
open Go
set_option linter.unusedVariables false
set_option linter.unusedSimpArgs false

section
variable {P : Program} {E : Fix} {X : Ctx} {tab : TTab}

/-- It may be put into memory asv a value of that type. -/
def AV.okFor (ob : Objs) (T : Ty) (a : AV) : Bool := a.fits T && a.cur ob
theorem slot_val {T : Ty} {a : AV} {v : Value} (h : SlotR X a v) (hf : a.fits T = true) : ValR X a v := by
  cases a with
  | undef => cases T <;> simp [AV.fits] at hf
  | tnil => cases T <;> simp [AV.fits] at hf
  | tcons x y => cases T <;> simp [AV.fits] at hf
  | _ => exact h
theorem val_cells {T : Ty} {a : AV} {v : Value} (h : ValR X a v) (hf : a.fits T = true) (hc : a.cur X.objs = true) : v.cells.size = T.sz ∧ ∀ j, j < T.sz → ∃ u, cv v j = some u ∧ okCell u := by
  have hz := AV.fits_sz hf
  exact ⟨h.2.1.trans hz, fun j hj => AVR.okc h.2.2 hf hc j (by omega)⟩

theorem rep_mem_of_eq {w : World} {I : Bs} {T : Ty} {x : T.D} {c c' : Cs} (h : ∀ j, j < T.sz → c' j = c j) (r : Rep w I T x c) : Rep w I T x c' := Rep.congr h r

/-- What memory is told to be behind a store. -/
def aStore (tab : TTab) (ob : Objs) (t : TypeId) (p v : AV) : Option Objs :=
  match tab.find t with
  | none => none
  | some e =>
    if v.okFor ob e.T = true then
      match p with
      | .bptr o p => match ob o with
        | some (.box T a) => match Ty.at p T with
          | some (_, T') => if T' = e.T then (match AV.upd p a v with
            | some a' => some (ob.put o (.box T a'))
            | none => none) else none
          | none => none
        | _ => none
      | .rptr o v0 i p => match ob o with
        | some (.row v' m T xs) => match Ty.at p T with
          | some (_, T') => if T' = e.T ∧ Nat.beq v0 v' = true then (match AV.upd p (.pv m T (xs.getD i T.zero)) v with
            | some a' => match a'.pureAs T with
              | some q => some (ob.put o (.row v' (m || q.1) T (xs.set i q.2)))
              | none => none
            | none => none) else none
          | none => none
        | _ => none
      | _ => none
    else none

theorem aStore_ok (F : Fits E X) (hT : tab.ok P = true) {t : TypeId} {p v : AV} {x y : Value} (hp : SlotR X p x) (hv : SlotR X v y) {ob' : Objs} (h : aStore tab X.objs t p v = some ob') :
    ∃ X', (Instr.storeAt t x y).run P X.w = .ok () X'.w ∧ Fits E X' ∧ X'.objs = ob' ∧ Evo X X' := by
  unfold aStore at h
  split at h
  · exact absurd h (by simp)
  · rename_i e he
    split at h
    · rename_i hok
      unfold AV.okFor at hok
      simp only [Bool.and_eq_true] at hok
      obtain ⟨hfit, hcur⟩ := hok
      have hval := slot_val hv hfit
      obtain ⟨hsz, hcells⟩ := val_cells hval hfit hcur
      split at h
      · rename_i o p
        split at h
        · rename_i T a ho
          split at h
          · rename_i off T' hat
            split at h
            · rename_i hte
              subst hte
              split at h
              · rename_i a' hu
                simp only [Option.some.injEq] at h
                subst h
                obtain ⟨hpo, hx⟩ := slot_bptr hp ho
                rw [hx _ _ hat]
                obtain ⟨hf, hm⟩ := box_mem F ho
                obtain ⟨cs, te, hb, hcs⟩ := box_cells F ho
                have hle := Ty.at_le hat hpo
                obtain ⟨cs', hst, hs1, hs2, hs3⟩ := run_storeAt (P := P) (off := off) (TTab.find_ok hT he).1 hb hsz (by omega) hcells
                refine ⟨X.put (X.w.setRow (X.φ o).blk cs') o (.box T a') (X.φ o), hst, ?_⟩
                have hown : Own X.objs X.φ o (X.φ o).blk := by unfold Own; rw [ho]
                obtain ⟨h1, h2⟩ := Fits.put F (o := o) (ob := .box T a') (l := X.φ o) (Turns.setRow X _ cs') (fun b hb => hb ▸ hown) (fun ob0 h0 => by
                    rw [ho] at h0; obtain rfl := Option.some.inj h0; exact ⟨rfl, rfl⟩)
                  (fun b hb => .inl (by have : b = (X.φ o).blk := hb; rw [this]; exact hown)) (fun hev => by
                    have hrow : (X.w.setRow (X.φ o).blk cs').heap[(X.φ o).blk]? = some (.cells cs' te (0, 0)) := setRow_heap _ _ _ _ _ _ hb
                    have hm0 : ∀ j, mem X.w (X.φ o).blk 0 j = cs[j]? := fun j => by rw [mem_cells hb, Nat.zero_add]
                    have hm1 : ∀ j, mem (X.w.setRow (X.φ o).blk cs') (X.φ o).blk 0 j = cs'[j]? := fun j => by rw [mem_cells hrow, Nat.zero_add]
                    obtain ⟨r1, r2⟩ := AV.upd_ok F.ij (c' := fun j => cs'[j]?) hm hf hat hpo hfit (AVR.congr (fun j hj => by
                        simp only [shift]; exact hs2 j (by rw [AV.fits_sz hfit] at hj; exact hj)) hval.2.2) (fun j hj hout => by
                        rw [hm0]; exact hs3 j hout) hu
                    refine ⟨r2, ⟨cs', te, hrow, hs1.trans hcs⟩, ?_⟩
                    exact AVR.congr (fun j _ => hm1 j) (r1.evo hev))
                exact ⟨h1, rfl, h2⟩
              · exact absurd h (by simp)
            · exact absurd h (by simp)
          · exact absurd h (by simp)
        · exact absurd h (by simp)
      · rename_i o v0 i p
        split at h
        · rename_i v' m T xs ho
          split at h
          · rename_i off T' hat
            split at h
            · rename_i hte
              obtain ⟨hte, hver⟩ := hte
              subst hte
              obtain rfl := Nat.eq_of_beq_eq_true hver
              split at h
              · rename_i a' hu
                split at h
                · rename_i q hq
                  simp only [Option.some.injEq] at h
                  subst h
                  obtain ⟨hi, hpo, hx⟩ := slot_rptr hp ho
                  rw [hx _ _ hat]
                  obtain ⟨hl, hnil, hr⟩ := F.objs o _ ho
                  have hi' : i < xs.length := by omega
                  obtain ⟨hm, hn⟩ := row_mem F ho hi'
                  obtain ⟨⟨cs, te, hb, hcs⟩, hcap, hr⟩ := hr hn
                  have hle := Ty.at_le hat hpo
                  have hi2 : (i + 1) * T.sz ≤ (X.φ o).cap * T.sz := Nat.mul_le_mul_right _ (by omega)
                  rw [Nat.succ_mul] at hi2
                  obtain ⟨cs', hst, hs1, hs2, hs3⟩ := run_storeAt (P := P) (b := (X.φ o).blk) (off := i * T.sz + off) (TTab.find_ok hT he).1 hb hsz (by omega) hcells
                  refine ⟨X.put (X.w.setRow (X.φ o).blk cs') o (.row v0 (m || q.1) T (xs.set i q.2)) (X.φ o), hst, ?_⟩
                  have hown : Own X.objs X.φ o (X.φ o).blk := by unfold Own; rw [ho]; exact ⟨hn, rfl⟩
                  obtain ⟨h1, h2⟩ := Fits.put F (o := o) (ob := .row v0 (m || q.1) T (xs.set i q.2)) (l := X.φ o) (Turns.setRow X _ cs') (fun b hb => hb ▸ hown) (fun ob0 h0 => by
                      rw [ho] at h0; obtain rfl := Option.some.inj h0; exact ⟨rfl, Nat.le_refl _, fun _ => rfl⟩)
                    (fun b hb => .inl (by have : b = (X.φ o).blk := hb.2; rw [this]; exact hown)) (fun hev => by
                      have hrow : (X.w.setRow (X.φ o).blk cs').heap[(X.φ o).blk]? = some (.cells cs' te (0, 0)) := setRow_heap _ _ _ _ _ _ hb
                      have hm1 : ∀ k j, mem (X.w.setRow (X.φ o).blk cs') (X.φ o).blk k j = cs'[k + j]? := fun k j => mem_cells hrow j
                      have hm0 : ∀ k j, mem X.w (X.φ o).blk k j = cs[k + j]? := fun k j => mem_cells hb j
                      obtain ⟨r1, r2⟩ := AV.upd_ok F.ij (a := .pv m T (xs.getD i T.zero)) (c' := fun j => cs'[i * T.sz + j]?) hm (by simp [AV.fits]) hat hpo hfit (AVR.congr (fun j hj => by
                          simp only [shift]
                          rw [← Nat.add_assoc]
                          exact hs2 j (by rw [AV.fits_sz hfit] at hj; exact hj)) hval.2.2) (fun j hj hout => by
                          rw [hm0]; exact hs3 _ (by omega)) hu
                      obtain ⟨rq, _⟩ := AV.pureAs_ok F.ij r1 hq
                      refine ⟨by simp [hl], fun hnn => absurd hnn (by rw [hn]; simp), fun _ => ⟨⟨cs', te, hrow, by omega⟩, by simpa using hcap, fun k hk => ?_⟩⟩
                      simp only [List.length_set] at hk
                      show Rep (X.put _ o _ _).w ((X.put (X.w.setRow (X.φ o).blk cs') o (.row v0 (m || q.1) T (xs.set i q.2)) (X.φ o)).set (m || q.1)) T _ _
                      by_cases hki : k = i
                      · subst hki
                        rw [List.getElem_set_self]
                        have h3 : Rep X.w (X.set (m || q.1)) T q.2 (fun j => cs'[k * T.sz + j]?) := Rep.weaken' F.ij _ rq
                        exact Rep.congr (fun j _ => hm1 _ j) (Rep.evo hev h3)
                      · rw [List.getElem_set_ne (Ne.symm hki)]
                        have h3 : Rep X.w (X.set (m || q.1)) T xs[k] (mem X.w (X.φ o).blk (k * T.sz)) := Rep.weaken F.ij _ (hr k hk)
                        refine Rep.congr (fun j hj => ?_) (Rep.evo hev h3)
                        show mem (X.w.setRow (X.φ o).blk cs') (X.φ o).blk (k * T.sz) j = mem X.w (X.φ o).blk (k * T.sz) j
                        rw [hm1, hm0]
                        refine hs3 _ ?_
                        rcases Nat.lt_or_gt_of_ne hki with h6 | h6
                        · have h7 : (k + 1) * T.sz ≤ i * T.sz := Nat.mul_le_mul_right _ h6
                          rw [Nat.succ_mul] at h7
                          left; omega
                        · have h7 : (i + 1) * T.sz ≤ k * T.sz := Nat.mul_le_mul_right _ h6
                          rw [Nat.succ_mul] at h7
                          right; omega)
                  exact ⟨h1, rfl, h2⟩
                · exact absurd h (by simp)
              · exact absurd h (by simp)
            · exact absurd h (by simp)
          · exact absurd h (by simp)
        · exact absurd h (by simp)
      · exact absurd h (by simp)
    · exact absurd h (by simp)

/-- A new variable: the pointer to it, and the memory then. -/
def aNew (ob : Objs) (id : Nat) (T : Ty) (v : AV) : Option (AV × Objs) :=
  match ob id with
  | none => if v.okFor ob T = true then some (.bptr id [], ob.put id (.box T v)) else none
  | some _ => none
theorem aNew_ok (F : Fits E X) {id : Nat} {T : Ty} {v r : AV} {ob' : Objs} (h : aNew X.objs id T v = some (r, ob')) {y : Value} (hv : ValR X v y) (te : TypeId) :
    ∃ X', X'.w = X.w.alloc (.cells y.cells te) ∧ SlotR X' r (.pointer (some ⟨X.w.heap.size, 0, none⟩)) ∧ Fits E X' ∧ X'.objs = ob' ∧ Evo X X' := by
  unfold aNew at h
  split at h
  · rename_i hid
    split at h
    · rename_i hok
      unfold AV.okFor at hok
      simp only [Bool.and_eq_true] at hok
      obtain ⟨hfit, hcur⟩ := hok
      simp only [Option.some.injEq, Prod.mk.injEq] at h
      obtain ⟨rfl, rfl⟩ := h
      obtain ⟨hsz, hcells⟩ := val_cells hv hfit hcur
      have hnew : (X.w.alloc (.cells y.cells te)).heap[X.w.heap.size]? = some (.cells y.cells te (0, 0)) := heap_alloc_at _ _
      obtain ⟨h1, h2⟩ := Fits.put F (o := id) (ob := .box T v) (l := ⟨X.w.heap.size, 0, 0, false⟩) (Turns.alloc X (.cells y.cells te)) (fun b hb => hb.elim) (fun ob0 h0 => by rw [hid] at h0; exact absurd h0 (by simp))
        (fun b hb => .inr (by
          have : b = X.w.heap.size := hb
          subst this
          refine F.fresh ⟨Nat.le_refl _, ?_⟩
          show _ < (X.w.heap.push _).size
          simp)) (fun hev => by
          refine ⟨hfit, ⟨y.cells, te, hnew, hsz⟩, ?_⟩
          refine AVR.congr (fun j _ => ?_) (hv.2.2.evo hev)
          show mem (X.w.alloc (.cells y.cells te)) X.w.heap.size 0 j = cv y j
          rw [mem_cells hnew, Nat.zero_add]; rfl)
      refine ⟨_, rfl, ?_, h1, rfl, h2⟩
      refine ⟨rfl, rfl, ?_⟩
      have e : (X.put (X.w.alloc (.cells y.cells te)) id (.box T v) ⟨X.w.heap.size, 0, 0, false⟩).objs id = some (.box T v) := Objs.put_same _ _ _
      simp only [AVR, e, Ctx.put_φ_same]
      refine ⟨trivial, fun off T' h' => ?_⟩
      simp only [Ty.at, Option.some.injEq, Prod.mk.injEq] at h'
      obtain ⟨rfl, rfl⟩ := h'
      rfl
    · exact absurd h (by simp)
  · exact absurd h (by simp)
def aAlloc (tab : TTab) (ob : Objs) (id : Nat) (t : TypeId) : Option (AV × Objs) :=
  match tab.find t with
  | some e => aNew ob id e.T (zeroAV e.T)
  | none => none
theorem aAlloc_ok (F : Fits E X) (hT : tab.ok P = true) {id : Nat} {t : TypeId} {r : AV} {ob' : Objs} (h : aAlloc tab X.objs id t = some (r, ob')) :
    ∃ X' val, (Instr.alloc t true (.tuple #[])).run P X.w = .ok val X'.w ∧ SlotR X' r val ∧ Fits E X' ∧ X'.objs = ob' ∧ Evo X X' := by
  unfold aAlloc at h
  split at h
  · rename_i e he
    obtain ⟨i, z, hi⟩ := TB_info (TTab.find_ok hT he).1
    obtain ⟨X', h1, h2, h3⟩ := aNew_ok F h (y := z) ⟨hi.zagg.trans (AV.fits_agg (zeroAV_fits e.T)).symm, hi.zsize.trans (AV.fits_sz (zeroAV_fits e.T)).symm, hi.zav _⟩ t
    exact ⟨X', _, by rw [run_alloc hi.info hi.zero, h1], h2, h3⟩
  · exact absurd h (by simp)
def aBox (tab : TTab) (ob : Objs) (id : Nat) (t : TypeId) (v : AV) : Option (AV × Objs) :=
  match tab.find t with
  | some e => aNew ob id e.T v
  | none => none
theorem aNew_fits {ob : Objs} {id : Nat} {T : Ty} {v r : AV} {ob' : Objs} (h : aNew ob id T v = some (r, ob')) : v.fits T = true := by
  unfold aNew at h
  split at h
  · split at h
    · rename_i hok
      unfold AV.okFor at hok
      simp only [Bool.and_eq_true] at hok
      exact hok.1
    · exact absurd h (by simp)
  · exact absurd h (by simp)
theorem aBox_ok (F : Fits E X) {id : Nat} {t : TypeId} {v r : AV} {ob' : Objs} (h : aBox tab X.objs id t v = some (r, ob')) {y : Value} (hv : SlotR X v y) :
    ∃ X' val, (Instr.box t y).run P X.w = .ok val X'.w ∧ SlotR X' r val ∧ Fits E X' ∧ X'.objs = ob' ∧ Evo X X' := by
  unfold aBox at h
  split at h
  · rename_i e he
    obtain ⟨X', h1, h2, h3⟩ := aNew_ok F h (slot_val hv (aNew_fits h)) t
    exact ⟨X', _, by rw [run_box, h1], h2, h3⟩
  · exact absurd h (by simp)
end
end Go.Proofs.Ytmggpiijahiaiaa.Ev
/- Rows: slices that are made, filled and appended to. -/
namespace Go.Proofs.Ytmggpiijahiaiaa.Ev
open Go
set_option linter.unusedVariables false
set_option linter.unusedSimpArgs false

theorem fold_get (off : Nat) : ∀ (vs : List Value) (k0 : Nat) (cells : Array Value), ((vs.zipIdx k0).foldl (fun cs (x : Value × Nat) => cs.setIfInBounds (off + x.2) x.1) cells).size = cells.size ∧
    ∀ i, i < cells.size → ((vs.zipIdx k0).foldl (fun cs (x : Value × Nat) => cs.setIfInBounds (off + x.2) x.1) cells)[i]? = if off + k0 ≤ i ∧ i < off + k0 + vs.length then vs[i - (off + k0)]? else cells[i]? := by
  intro vs
  induction vs with
  | nil => intro k0 cells; refine ⟨rfl, fun i hi => ?_⟩; rw [if_neg (by simp only [List.length_nil]; omega)]; rfl
  | cons v vs ih =>
    intro k0 cells
    obtain ⟨h1, h2⟩ := ih (k0 + 1) (cells.setIfInBounds (off + k0) v)
    simp only [List.zipIdx_cons, List.foldl_cons]
    refine ⟨by rw [h1]; simp, fun i hi => ?_⟩
    rw [h2 i (by simpa using hi)]
    by_cases e : i = off + k0
    · subst e
      rw [if_neg (by omega), if_pos (by simp)]
      simp [hi]
    · by_cases e2 : off + (k0 + 1) ≤ i ∧ i < off + (k0 + 1) + vs.length
      · rw [if_pos e2, if_pos (by simp; omega)]
        have : i - (off + k0) = (i - (off + (k0 + 1))) + 1 := by omega
        rw [this]
        simp
      · rw [if_neg e2, if_neg (by simp; omega)]
        rw [Array.getElem?_setIfInBounds_ne (by omega)]

section
variable {P : Program} {E : Fix} {X : Ctx} {tab : TTab}

/-- A slice's elements, asv they can be read. -/
def srcOf (ob : Objs) (e : Ty) : AV → Option (Bool × List e.D)
  | .row o v => match ob o with
    | some (.row v' m T xs) => if h : T = e then (if Nat.beq v v' = true then some (m, h ▸ xs) else none) else none
    | some (.imm v' m T xs) => if h : T = e then (if Nat.beq v v' = true then some (m, h ▸ xs) else none) else none
    | _ => none
  | .nilv => some (false, [])
  | .pv m T x => AV.pureAs (.slice e) (.pv m T x)
  | _ => none
/-- Where they lie. -/
def SrcR (X : Ctx) (e : Ty) (m : Bool) (ys : List e.D) (v : Value) : Prop :=
  ∃ ad cap, v = .slice ad ys.length cap ∧ ys.length ≤ cap ∧ (0 < ys.length → ∃ b off, ad = some ⟨b, off, none⟩ ∧ ∀ i (h : i < ys.length), Rep X.w (X.set m) e ys[i] (mem X.w b (off + i * e.sz)))
theorem sl_src {l : Loc} {e : Ty} {m : Bool} {ys : List e.D} (h1 : l.len = ys.length) (h2 : l.nil = true → ys = []) (h3 : l.nil = false → ys.length ≤ l.cap ∧ ∀ i (h : i < ys.length), Rep X.w (X.set m) e ys[i] (mem X.w l.blk (i * e.sz))) : SrcR X e m ys l.sl := by
  cases hn : l.nil with
  | true =>
    obtain rfl := h2 hn
    exact ⟨none, 0, by simp [Loc.sl, hn], Nat.le_refl _, fun hp => absurd hp (by simp)⟩
  | false =>
    obtain ⟨h4, h5⟩ := h3 hn
    refine ⟨some ⟨l.blk, 0, none⟩, l.cap, by simp [Loc.sl, hn, h1], h4, fun _ => ⟨l.blk, 0, rfl, fun i hi => ?_⟩⟩
    rw [Nat.zero_add]; exact h5 i hi
theorem srcOf_ok (F : Fits E X) {e : Ty} {a : AV} {v : Value} (hs : SlotR X a v) {p : Bool × List e.D} (h : srcOf X.objs e a = some p) : SrcR X e p.1 p.2 v := by
  unfold srcOf at h
  split at h
  · rename_i o w
    split at h
    · rename_i v' m T xs ho
      split at h
      · rename_i hT
        subst hT
        split at h
        · rename_i hv
          obtain rfl := Nat.eq_of_beq_eq_true hv
          simp only [Option.some.injEq] at h
          subst h
          rw [slot_row hs ho]
          obtain ⟨h1, h2, h3⟩ := F.objs o _ ho
          exact sl_src h1 h2 (fun hn => ⟨(h3 hn).2.1, (h3 hn).2.2⟩)
        · exact absurd h (by simp)
      · exact absurd h (by simp)
    · rename_i v' m T xs ho
      split at h
      · rename_i hT
        subst hT
        split at h
        · rename_i hv
          obtain rfl := Nat.eq_of_beq_eq_true hv
          simp only [Option.some.injEq] at h
          subst h
          rw [slot_imm hs ho]
          obtain ⟨h1, ad, cap, h2, h3, h4⟩ := F.objs o _ ho
          simp only [Option.some.injEq] at h2
          refine ⟨ad, cap, h2, h3, fun hp => ?_⟩
          obtain ⟨b, off, e1, _, e2⟩ := h4 hp
          exact ⟨b, off, e1, e2⟩
        · exact absurd h (by simp)
      · exact absurd h (by simp)
    · exact absurd h (by simp)
  · simp only [Option.some.injEq] at h
    subst h
    obtain rfl := slot_nil hs
    exact ⟨none, 0, rfl, Nat.le_refl _, fun hp => absurd hp (by simp)⟩
  · rename_i m T x
    rw [AV.pureAs_pv] at h
    split at h
    · rename_i hT
      subst hT
      simp only [Option.some.injEq] at h
      subst h
      obtain ⟨ad, cap, e1, e2, e3⟩ := slot_slice hs
      refine ⟨ad, cap, e1, e2, fun hp => ?_⟩
      obtain ⟨b, off, f1, _, f2⟩ := e3 hp
      exact ⟨b, off, f1, by simpa [Ty.flat] using f2⟩
    · exact absurd h (by simp)
  · exact absurd h (by simp)

/-- How long a slice, a text or an array is. -/
def aLen (tab : TTab) (ob : Objs) (t : TypeId) (a : AV) : Option Int :=
  match tab.find t with
  | some ⟨_, .slice e, _⟩ => match srcOf ob e a with
    | some p => some (p.2.length : Int)
    | none => none
  | some ⟨_, .str, _⟩ => match a with
    | .pv _ .str s => some (s.size : Int)
    | _ => none
  | some ⟨_, .arr n _, _⟩ => some (n : Int)
  | _ => none
theorem aLen_ok (F : Fits E X) (hT : tab.ok P = true) {t ty : TypeId} {a : AV} {v : Value} (hs : SlotR X a v) {n : Int} (h : aLen tab X.objs t a = some n) : (Builtin.len_ #[t] ty #[v]).run P X.w = .ok (.int .i64 n) X.w := by
  unfold aLen at h
  split at h
  · rename_i _ e _ ht
    split at h
    · rename_i p hp
      simp only [Option.some.injEq] at h
      subst h
      obtain ⟨te, hu, _⟩ := TB_slice (TTab.find_ok hT ht).1
      obtain ⟨ad, cap, rfl, _⟩ := srcOf_ok F hs hp
      simp [Builtin.len_, run_under hu, goInt]
    · exact absurd h (by simp)
  · rename_i _ _ ht
    split at h
    · simp only [Option.some.injEq] at h
      subst h
      have hu := TB_str (TTab.find_ok hT ht).1
      obtain rfl := slot_str hs
      simp [Builtin.len_, run_under hu, goInt]
    · exact absurd h (by simp)
  · rename_i _ n' e _ ht
    simp only [Option.some.injEq] at h
    subst h
    obtain ⟨te, hu, _⟩ := TB_arr (TTab.find_ok hT ht).1
    simp [Builtin.len_, run_under hu, goInt]
  · exact absurd h (by simp)

/-- A row is put: a new one, or one that turns. -/
theorem putRow_ok (F : Fits E X) {o : Nat} {w' : World} {mine : Bs} {l : Loc} {ver : Nat} {m : Bool} {T : Ty} {xs : List T.D} {cs : Array Value} {te : TypeId}
    (hw : Turns X w' mine) (hm : ∀ b, mine b → Own X.objs X.φ o b) (hc : ∀ ob0, X.objs o = some ob0 → ObC (X.φ o) l ob0 (some (.row ver m T xs)))
    (hl : l.len = xs.length) (hn : l.nil = false) (hown : Own X.objs X.φ o l.blk ∨ Fresh E X w' l.blk)
    (hb : w'.heap[l.blk]? = some (.cells cs te (0, 0))) (hcap : xs.length ≤ l.cap) (hsz : l.cap * T.sz ≤ cs.size)
    (hr : ∀ i (h : i < xs.length), Rep X.w (X.set m) T xs[i] (fun j => cs[i * T.sz + j]?)) :
    SlotR (X.put w' o (.row ver m T xs) l) (.row o ver) l.sl ∧ Fits E (X.put w' o (.row ver m T xs) l) ∧ Evo X (X.put w' o (.row ver m T xs) l) := by
  obtain ⟨h1, h2⟩ := Fits.put F (o := o) (ob := .row ver m T xs) (l := l) hw hm hc (fun b hb' => by
      have : b = l.blk := hb'.2
      subst this
      exact hown) (fun hev => by
      refine ⟨hl, fun h => absurd h (by rw [hn]; simp), fun _ => ⟨⟨cs, te, hb, hsz⟩, hcap, fun i hi => ?_⟩⟩
      refine Rep.congr (fun j _ => ?_) (Rep.evo hev (hr i hi))
      show mem w' l.blk (i * T.sz) j = _
      rw [mem_cells hb])
  refine ⟨⟨?_, ?_, ?_⟩, h1, h2⟩
  · unfold Loc.sl; split <;> rfl
  · unfold Loc.sl; split <;> rfl
  · have e : (X.put w' o (.row ver m T xs) l).objs o = some (.row ver m T xs) := Objs.put_same _ _ _
    simp only [AVR, e, Ctx.put_φ_same]
    refine ⟨Nat.le_refl _, fun _ => ?_⟩
    unfold Loc.sl; split <;> rfl

theorem zero_row {T : Ty} {z : Value} (hz : z.cells.size = T.sz) (hr : ∀ w I, Rep w I T T.zero (cv z)) (n : Nat) (w : World) (I : Bs) {i : Nat} (hi : i < n) :
    Rep w I T T.zero (fun j => (madeCells z.cells (n * T.sz))[i * T.sz + j]?) := by
  refine Rep.congr (fun j hj => ?_) (hr w I)
  have h1 : (i + 1) * T.sz ≤ n * T.sz := Nat.mul_le_mul_right _ hi
  rw [Nat.succ_mul] at h1
  have h2 : i * T.sz + j < n * T.sz := by omega
  have h3 : (i * T.sz + j) % T.sz = j := by rw [Nat.add_comm, Nat.add_mul_mod_self_right, Nat.mod_eq_of_lt hj]
  simp only [madeCells, Array.getElem?_map, cv]
  rw [Array.getElem?_eq_getElem (by simpa using h2)]
  simp only [Array.getElem_range, Option.map_some, hz, h3]
  rw [Array.getElem?_eq_getElem (by omega), getElem!_pos _ _ (by omega)]

/-- make. -/
def aMake (tab : TTab) (ob : Objs) (id : Nat) (t : TypeId) (l c : Int) : Tr (AV × Objs) :=
  match tab.find t, ob id with
  | some ⟨_, .slice e, by_⟩, none => Tr.grd (decide (0 ≤ l)) <| Tr.grd (decide (l ≤ c)) <| Tr.grd (decide ((by_ : Int) * c ≤ 281474976710656)) <| Tr.grd (decide (c ≤ 9223372036854775807)) <|
      .ret (.row id 0, ob.put id (.row 0 false e (List.replicate l.toNat e.zero)))
  | _, _ => .fail
theorem aMake_ok (F : Fits E X) (hT : tab.ok P = true) {id : Nat} {t : TypeId} {kl kc : IntKind} {l c : Int} {r : AV} {ob' : Objs} (h : (aMake tab X.objs id t l c).run = some (r, ob')) :
    ∃ X' val, (Instr.makeSlice t (.int kl l) (.int kc c)).run P X.w = .ok val X'.w ∧ SlotR X' r val ∧ Fits E X' ∧ X'.objs = ob' ∧ Evo X X' := by
  unfold aMake at h
  split at h
  · rename_i _ e by_ ht hid
    obtain ⟨h0, h⟩ := Tr.run_grd h
    obtain ⟨h1, h⟩ := Tr.run_grd h
    obtain ⟨h2, h⟩ := Tr.run_grd h
    obtain ⟨h3, h⟩ := Tr.run_grd h
    have h0 := of_decide_eq_true h0
    have h1 := of_decide_eq_true h1
    have h2 := of_decide_eq_true h2
    have h3 := of_decide_eq_true h3
    have h := Tr.run_ret h
    simp only [Prod.mk.injEq] at h
    obtain ⟨rfl, rfl⟩ := h
    obtain ⟨te, hu, hte⟩ := TB_slice (TTab.find_ok hT ht).1
    obtain ⟨i, z, hi⟩ := TB_info hte
    have hby : i.bytes = by_ := bytesB_ok (TTab.find_ok hT ht).2 hu hi.info
    have hb : (i.bytes : Int) * c ≤ 281474976710656 := by rw [hby]; exact h2
    have hrun := run_make (P := P) X.w t te i z hu hi.info hi.zero kl kc l c h0 h1 hb h3
    rw [hi.size] at hrun
    have hnew : (X.w.alloc (.cells (madeCells z.cells (c.toNat * e.sz)) te)).heap[X.w.heap.size]? = some (.cells (madeCells z.cells (c.toNat * e.sz)) te (0, 0)) := heap_alloc_at _ _
    obtain ⟨g1, g2, g3⟩ := putRow_ok F (o := id) (ver := 0) (m := false) (T := e) (xs := List.replicate l.toNat e.zero) (l := ⟨X.w.heap.size, l.toNat, c.toNat, false⟩) (Turns.alloc X _) (fun b hb => hb.elim) (fun ob0 h0 => by rw [hid] at h0; exact absurd h0 (by simp))
      (by simp) rfl (.inr (F.fresh ⟨Nat.le_refl _, by show _ < (X.w.heap.push _).size; simp⟩)) hnew (by simp; omega) (by simp [size_madeCells]) (fun k hk => by
        simp only [List.length_replicate] at hk
        simp only [List.getElem_replicate]
        exact zero_row hi.zsize hi.zrep _ _ _ (by omega))
    exact ⟨_, _, hrun, g1, g2, rfl, g3⟩
  · exact (Tr.run_fail h).elim

theorem src_cells {w : World} {I : Bs} {e : Ty} {ys : List e.D} {b off : Nat} (h : ∀ i (h : i < ys.length), Rep w I e ys[i] (mem w b (off + i * e.sz))) :
    ∃ news : List Value, news.length = ys.length * e.sz ∧ (∀ k v, news[k]? = some v → w.cell? ((⟨b, off, none⟩ : Addr).add k) = some v) ∧ (∀ v ∈ news, v.oneCell' = true) ∧ ∀ i j, i < ys.length → j < e.sz → news[i * e.sz + j]? = mem w b (off + i * e.sz) j := by
  have hc : ∀ k, k < ys.length * e.sz → ∃ v, mem w b off k = some v ∧ okCell v := by
    intro k hk
    have he : 0 < e.sz := by
      rcases Nat.eq_zero_or_pos e.sz with h | h
      · rw [h] at hk; simp at hk
      · exact h
    have hi : k / e.sz < ys.length := (Nat.div_lt_iff_lt_mul he).2 hk
    obtain ⟨v, hv, ok⟩ := Rep.cells (h (k / e.sz) hi) (k % e.sz) (Nat.mod_lt _ he)
    refine ⟨v, ?_, ok⟩
    have : k / e.sz * e.sz + k % e.sz = k := by rw [Nat.mul_comm]; exact Nat.div_add_mod k e.sz
    rw [← mem_shift] at hv
    simp only [shift, this] at hv
    exact hv
  refine ⟨(List.range (ys.length * e.sz)).map fun k => (mem w b off k).getD undef, by simp, fun k v hk => ?_, fun v hv => ?_, fun i j hi hj => ?_⟩
  · rw [List.getElem?_map] at hk
    by_cases hlt : k < ys.length * e.sz
    · obtain ⟨u, hu, _⟩ := hc k hlt
      rw [List.getElem?_range hlt] at hk
      simp only [Option.map_some, hu, Option.getD_some, Option.some.injEq] at hk
      rw [Addr.add_lit, ← hk]; exact hu
    · rw [List.getElem?_eq_none (by simp; omega)] at hk
      simp at hk
  · obtain ⟨k, hk, rfl⟩ := List.mem_map.1 hv
    obtain ⟨u, hu, ok⟩ := hc k (List.mem_range.1 hk)
    rw [hu]; exact oneCell_of_ok ok
  · have h1 : (i + 1) * e.sz ≤ ys.length * e.sz := Nat.mul_le_mul_right _ hi
    rw [Nat.succ_mul] at h1
    obtain ⟨u, hu, _⟩ := hc (i * e.sz + j) (by omega)
    rw [List.getElem?_map, List.getElem?_range (by omega)]
    have : mem w b (off + i * e.sz) j = mem w b off (i * e.sz + j) := by simp [mem, Nat.add_assoc]
    rw [this, hu]; simp [hu]

theorem run_append_none {t ty te : TypeId} {i : TypeInfo} (hu : P.underlying t = some (.slice te)) (hi : P.info? te = some i) (base ad : Option Addr) (n cap c : Nat) (hle : n ≤ cap) (w : World) :
    (Builtin.append_ #[t, t] ty #[.slice base n cap, .slice ad 0 c]).run P w = .ok (.slice base n cap) w := by
  have hf : (Builtin.firstCells i.size 0 (.slice ad 0 c)).run P w = .ok #[] w := by
    cases ad <;> simp [Builtin.firstCells, loadCells, loadCellsFrom]
  cases base <;> simp [Builtin.append_, run_under hu, sizeOf, typeInfo, hi, Builtin.lenOf, hle, hf, storeCells]

/-- append(s, x...): the row then. A nil slice begins a row of its own. -/
def aAppend (tab : TTab) (ob : Objs) (id : Nat) (t : TypeId) (s x : AV) : Tr (AV × Objs) :=
  match tab.find t with
  | some ⟨_, .slice e, by_⟩ => match srcOf ob e x with
    | some q => match s with
      | .row o v => match ob o with
        | some (.row v' m T xs) => if h : T = e then (if Nat.beq v v' = true then
            Tr.grd (decide ((xs.length + q.2.length) * by_ ≤ 140737488355328)) <| Tr.grd (decide (xs.length + q.2.length ≤ 9223372036854775807)) <|
              .ret (.row o (v + 1), ob.put o (.row (v + 1) (m || q.1) T (xs ++ (h ▸ q.2 : List T.D)))) else .fail) else .fail
        | _ => .fail
      | .nilv => match ob id with
        | none => Tr.grd (decide (q.2.length * by_ ≤ 140737488355328)) <| Tr.grd (decide (q.2.length ≤ 9223372036854775807)) <|
            .ret (.row id 0, ob.put id (.row 0 q.1 e q.2))
        | some _ => .fail
      | _ => .fail
    | none => .fail
  | _ => .fail

theorem aAppend_ok (F : Fits E X) (hT : tab.ok P = true) {id : Nat} {t ty : TypeId} {s x : AV} {vs vx : Value} (hs : SlotR X s vs) (hx : SlotR X x vx) {r : AV} {ob' : Objs} (h : (aAppend tab X.objs id t s x).run = some (r, ob')) :
    ∃ X' val, (Builtin.append_ #[t, t] ty #[vs, vx]).run P X.w = .ok val X'.w ∧ SlotR X' r val ∧ Fits E X' ∧ X'.objs = ob' ∧ Evo X X' := by
  unfold aAppend at h
  split at h
  case h_2 => exact (Tr.run_fail h).elim
  rename_i _ e by_ ht
  split at h
  case h_2 => exact (Tr.run_fail h).elim
  rename_i q hq
  obtain ⟨te, hu, hte⟩ := TB_slice (TTab.find_ok hT ht).1
  obtain ⟨i, z, hi⟩ := TB_info hte
  have hby : i.bytes = by_ := bytesB_ok (TTab.find_ok hT ht).2 hu hi.info
  obtain ⟨ad, c, rfl, hc, hsrc⟩ := srcOf_ok F hx hq
  split at h
  · rename_i o v
    split at h
    case h_2 => exact (Tr.run_fail h).elim
    rename_i v' m T xs ho
    split at h
    case isFalse => exact (Tr.run_fail h).elim
    rename_i hTe
    subst hTe
    split at h
    case isFalse => exact (Tr.run_fail h).elim
    rename_i hv
    obtain rfl := Nat.eq_of_beq_eq_true hv
    obtain ⟨h1, h⟩ := Tr.run_grd h
    obtain ⟨h2, h⟩ := Tr.run_grd h
    have h1 := of_decide_eq_true h1
    have h2 := of_decide_eq_true h2
    have h := Tr.run_ret h
    simp only [Prod.mk.injEq] at h
    obtain ⟨rfl, rfl⟩ := h
    rw [slot_row hs ho]
    obtain ⟨hl, hnil, hrow⟩ := F.objs o _ ho
    have hcx : ∀ l' xs' m', ∀ ob0, X.objs o = some ob0 → ObC (X.φ o) l' ob0 (some (.row (v + 1) m' T xs')) := fun l' xs' m' ob0 h0 => by
      rw [ho] at h0; obtain rfl := Option.some.inj h0; exact ⟨rfl, by omega, fun e => absurd e (by omega)⟩
    cases hn : (X.φ o).nil with
    | true =>
      obtain rfl := hnil hn
      have hlen : (X.φ o).len = 0 := by simpa using hl
      have hsl : (X.φ o).sl = .slice none 0 0 := by simp [Loc.sl, hn]
      rw [hsl]
      rcases Nat.eq_zero_or_pos q.2.length with hz | hp
      · have hq0 : q.2 = [] := List.eq_nil_of_length_eq_zero hz
        rw [hq0] at h1 h2 ⊢
        simp only [List.length_nil]
        obtain ⟨g1, g2⟩ := Fits.put F (w' := X.w) (o := o) (ob := .row (v + 1) (m || q.1) T ([] ++ [])) (l := X.φ o) (mine := fun _ => False) ⟨rfl, rfl, rfl, Nat.le_refl _, fun _ _ _ => rfl⟩ (fun b hb => hb.elim) (hcx _ _ _)
          (fun b hb => absurd hb.1 (by rw [hn]; simp)) (fun hev => ⟨by simpa using hlen, fun _ => rfl, fun hh => absurd hh (by rw [hn]; simp)⟩)
        refine ⟨X.put X.w o (.row (v + 1) (m || q.1) T ([] ++ [])) (X.φ o), _, run_append_none hu hi.info none ad 0 0 c (Nat.le_refl _) X.w, ⟨rfl, rfl, ?_⟩, g1, rfl, g2⟩
        have e0 : (X.put X.w o (.row (v + 1) (m || q.1) T ([] ++ [])) (X.φ o)).objs o = some (.row (v + 1) (m || q.1) T ([] ++ [])) := Objs.put_same _ _ _
        simp only [AVR, e0, Ctx.put_φ_same]
        exact ⟨Nat.le_refl _, fun _ => by rw [hsl]; rfl⟩
      · obtain ⟨b, off, rfl, hr⟩ := hsrc hp
        obtain ⟨news, n1, n2, n3, n4⟩ := src_cells hr
        have hrun := run_append_nil (P := P) X.w t ty te i z hu hi.info hi.zero ⟨b, off, none⟩ q.2.length c news (by rw [hi.size]; exact n1) n2 hp (by simp at h2; omega) (by rw [hby]; simp at h1; omega)
        have hnew : (X.w.drew.alloc (.cells (news.toArray ++ Builtin.zeroCells z.cells (grownCap X.w q.2.length 0 te - q.2.length)) te)).heap[X.w.heap.size]? = some (.cells (news.toArray ++ Builtin.zeroCells z.cells (grownCap X.w q.2.length 0 te - q.2.length)) te (0, 0)) := heap_alloc_at X.w.drew _
        have hge : q.2.length ≤ grownCap X.w q.2.length 0 te := by simp only [grownCap, Question.cut]; omega
        obtain ⟨g1, g2, g3⟩ := putRow_ok F (o := o) (ver := v + 1) (m := m || q.1) (T := T) (xs := [] ++ q.2) (l := ⟨X.w.heap.size, q.2.length, grownCap X.w q.2.length 0 te, false⟩) (Turns.alloc X (.cells (news.toArray ++ Builtin.zeroCells z.cells (grownCap X.w q.2.length 0 te - q.2.length)) te)).drew (fun b hb => hb.elim) (hcx _ _ _)
          (by simp) rfl (.inr (F.fresh ⟨Nat.le_refl _, by show _ < (X.w.heap.push _).size; simp⟩)) hnew (by simpa using hge) (by
            simp only [Array.size_append, List.size_toArray, n1, size_zeroCells, hi.zsize, Nat.sub_mul]
            have := Nat.mul_le_mul_right T.sz hge
            omega) (fun k hk => by
            simp only [List.nil_append] at hk ⊢
            refine Rep.weaken' F.ij _ (Rep.congr (fun j hj => ?_) (hr k hk))
            have h5 : (k + 1) * T.sz ≤ q.2.length * T.sz := Nat.mul_le_mul_right _ hk
            rw [Nat.succ_mul] at h5
            rw [Array.getElem?_append_left (by simp [n1]; omega)]
            simpa using n4 k j hk hj)
        exact ⟨_, _, hrun, g1, g2, rfl, g3⟩
    | false =>
      obtain ⟨⟨cs, te', hb, hcs⟩, hcap, hr0⟩ := hrow hn
      have hsl : (X.φ o).sl = .slice (some ⟨(X.φ o).blk, 0, none⟩) xs.length (X.φ o).cap := by simp [Loc.sl, hn, hl]
      have hown : Own X.objs X.φ o (X.φ o).blk := by unfold Own; rw [ho]; exact ⟨hn, rfl⟩
      rw [hsl]
      rcases Nat.eq_zero_or_pos q.2.length with hz | hp
      · have hq0 : q.2 = [] := List.eq_nil_of_length_eq_zero hz
        rw [hq0] at h1 h2 ⊢
        simp only [List.length_nil]
        obtain ⟨g1, g2, g3⟩ := putRow_ok F (w' := X.w) (o := o) (ver := v + 1) (m := m || q.1) (T := T) (xs := xs ++ []) (l := X.φ o) (mine := fun _ => False) ⟨rfl, rfl, rfl, Nat.le_refl _, fun _ _ _ => rfl⟩ (fun b hb => hb.elim) (hcx _ _ _)
          (by simpa using hl) hn (.inl hown) hb (by simpa using hcap) hcs (fun k hk => by
            simp only [List.append_nil] at hk ⊢
            exact Rep.weaken F.ij _ (Rep.congr (fun j _ => by rw [mem_cells hb]) (hr0 k hk)))
        rw [hsl] at g1
        exact ⟨X.put X.w o (.row (v + 1) (m || q.1) T (xs ++ [])) (X.φ o), _, run_append_none hu hi.info _ ad _ _ c hcap X.w, g1, g2, rfl, g3⟩
      · obtain ⟨b, off, rfl, hr⟩ := hsrc hp
        obtain ⟨news, n1, n2, n3, n4⟩ := src_cells hr
        by_cases hroom : xs.length + q.2.length ≤ (X.φ o).cap
        · have hsz1 : (xs.length + q.2.length) * T.sz ≤ (X.φ o).cap * T.sz := Nat.mul_le_mul_right _ hroom
          rw [Nat.add_mul] at hsz1
          have hf := run_firstCells_some (P := P) X.w i.size q.2.length ⟨b, off, none⟩ q.2.length c news (by rw [hi.size]; exact n1) n2
          rw [hi.size] at hf
          have hst := run_storeCells_at P (X.φ o).blk (xs.length * T.sz) te' news 0 cs X.w hb (by omega) n3
          simp only [Nat.add_zero, List.append_assoc] at hst
          have hrun : (Builtin.append_ #[t, t] ty #[.slice (some ⟨(X.φ o).blk, 0, none⟩) xs.length (X.φ o).cap, .slice (some ⟨b, off, none⟩) q.2.length c]).run P X.w =
              .ok (.slice (some ⟨(X.φ o).blk, 0, none⟩) (xs.length + q.2.length) (X.φ o).cap) (X.w.setRow (X.φ o).blk (cs.toList.take (xs.length * T.sz) ++ news ++ cs.toList.drop (xs.length * T.sz + news.length)).toArray) := by
            simp [Builtin.append_, run_under hu, sizeOf, typeInfo, hi.info, Builtin.lenOf, hroom, hf, Addr.add_lit, hi.size, hst]
          have hget : ∀ k, (cs.toList.take (xs.length * T.sz) ++ news ++ cs.toList.drop (xs.length * T.sz + news.length)).toArray[k]? = if k < xs.length * T.sz then cs[k]? else if k < xs.length * T.sz + q.2.length * T.sz then news[k - xs.length * T.sz]? else cs[k]? := by
            intro k
            simp only [List.getElem?_toArray, List.getElem?_append, List.length_append, List.length_take, Array.length_toList, n1]
            have e1 : min (xs.length * T.sz) cs.size = xs.length * T.sz := by omega
            rw [e1]
            by_cases a1 : k < xs.length * T.sz
            · rw [if_pos (by omega), if_pos a1, if_pos a1, List.getElem?_take, if_pos a1]; simp
            · by_cases a2 : k < xs.length * T.sz + q.2.length * T.sz
              · rw [if_pos a2, if_neg a1, if_neg a1, if_pos a2]
              · rw [if_neg a2, if_neg a1, if_neg a2, List.getElem?_drop, ← Array.getElem?_toList]
                congr 1; omega
          have hrow' : (X.w.setRow (X.φ o).blk (cs.toList.take (xs.length * T.sz) ++ news ++ cs.toList.drop (xs.length * T.sz + news.length)).toArray).heap[(X.φ o).blk]? = some (.cells (cs.toList.take (xs.length * T.sz) ++ news ++ cs.toList.drop (xs.length * T.sz + news.length)).toArray te' (0, 0)) := setRow_heap _ _ _ _ _ _ hb
          obtain ⟨g1, g2, g3⟩ := putRow_ok F (o := o) (ver := v + 1) (m := m || q.1) (T := T) (xs := xs ++ q.2) (l := ⟨(X.φ o).blk, xs.length + q.2.length, (X.φ o).cap, false⟩) (Turns.setRow X (X.φ o).blk _) (fun b hb => by rw [show b = (X.φ o).blk from hb]; exact hown) (hcx _ _ _)
            (by simp) rfl (.inl hown) hrow' (by simpa using hroom) (by
              simp only [List.size_toArray, List.length_append, List.length_take, List.length_drop, Array.length_toList, n1]
              show (X.φ o).cap * T.sz ≤ _
              omega) (fun k hk => by
              simp only [List.length_append] at hk
              by_cases hk1 : k < xs.length
              · rw [List.getElem_append_left hk1]
                refine Rep.weaken F.ij _ (Rep.congr (fun j hj => ?_) (hr0 k hk1))
                have h5 : (k + 1) * T.sz ≤ xs.length * T.sz := Nat.mul_le_mul_right _ hk1
                rw [Nat.succ_mul] at h5
                rw [hget, if_pos (by omega), mem_cells hb]
              · rw [List.getElem_append_right (by omega)]
                refine Rep.weaken' F.ij _ (Rep.congr (fun j hj => ?_) (hr (k - xs.length) (by omega)))
                have e2 : k * T.sz = xs.length * T.sz + (k - xs.length) * T.sz := by rw [← Nat.add_mul]; congr 1; omega
                have h6 : (k - xs.length + 1) * T.sz ≤ q.2.length * T.sz := Nat.mul_le_mul_right _ (by omega)
                rw [Nat.succ_mul] at h6
                rw [hget, if_neg (by omega), if_pos (by omega), ← n4 (k - xs.length) j (by omega) hj]
                congr 1; omega)
          have hsl2 : (⟨(X.φ o).blk, xs.length + q.2.length, (X.φ o).cap, false⟩ : Loc).sl = .slice (some ⟨(X.φ o).blk, 0, none⟩) (xs.length + q.2.length) (X.φ o).cap := rfl
          rw [hsl2] at g1
          exact ⟨_, _, hrun, g1, g2, rfl, g3⟩
        · obtain ⟨olds, o1, o2, o3, o4⟩ := src_cells (w := X.w) (I := X.set m) (e := T) (ys := xs) (b := (X.φ o).blk) (off := 0) (fun i hi => by rw [Nat.zero_add]; exact hr0 i hi)
          have hrun := run_append_grow (P := P) X.w t ty te i z hu hi.info hi.zero ⟨(X.φ o).blk, 0, none⟩ xs.length (X.φ o).cap olds (by rw [hi.size]; exact o1) o2 ⟨b, off, none⟩ q.2.length c news (by rw [hi.size]; exact n1) n2 (by omega) (by omega)
            (growslice_fits (by omega) (by rw [hby]; exact h1))
          have hge : xs.length + q.2.length ≤ grownCap X.w (xs.length + q.2.length) (X.φ o).cap te := by simp only [grownCap, Question.cut]; omega
          have hnew : (X.w.drew.alloc (.cells (olds.toArray ++ news.toArray ++ Builtin.zeroCells z.cells (grownCap X.w (xs.length + q.2.length) (X.φ o).cap te - (xs.length + q.2.length))) te)).heap[X.w.heap.size]? = some (.cells (olds.toArray ++ news.toArray ++ Builtin.zeroCells z.cells (grownCap X.w (xs.length + q.2.length) (X.φ o).cap te - (xs.length + q.2.length))) te (0, 0)) := heap_alloc_at X.w.drew _
          obtain ⟨g1, g2, g3⟩ := putRow_ok F (o := o) (ver := v + 1) (m := m || q.1) (T := T) (xs := xs ++ q.2) (l := ⟨X.w.heap.size, xs.length + q.2.length, grownCap X.w (xs.length + q.2.length) (X.φ o).cap te, false⟩) (Turns.alloc X _).drew (fun b hb => hb.elim) (hcx _ _ _)
            (by simp) rfl (.inr (F.fresh ⟨Nat.le_refl _, by show _ < (X.w.heap.push _).size; simp⟩)) hnew (by simpa using hge) (by
              simp only [Array.size_append, List.size_toArray, n1, o1, size_zeroCells, hi.zsize, Nat.sub_mul, Nat.add_mul]
              have := Nat.mul_le_mul_right T.sz hge
              rw [Nat.add_mul] at this
              omega) (fun k hk => by
              simp only [List.length_append] at hk
              have h7 : (k + 1) * T.sz ≤ (xs.length + q.2.length) * T.sz := Nat.mul_le_mul_right _ hk
              rw [Nat.succ_mul, Nat.add_mul] at h7
              by_cases hk1 : k < xs.length
              · rw [List.getElem_append_left hk1]
                refine Rep.weaken F.ij _ (Rep.congr (fun j hj => ?_) (hr0 k hk1))
                have h5 : (k + 1) * T.sz ≤ xs.length * T.sz := Nat.mul_le_mul_right _ hk1
                rw [Nat.succ_mul] at h5
                rw [Array.getElem?_append_left (by simp [n1, o1]; omega), Array.getElem?_append_left (by simp [o1]; omega)]
                have := o4 k j hk1 hj
                rw [Nat.zero_add] at this
                simpa using this
              · rw [List.getElem_append_right (by omega)]
                refine Rep.weaken' F.ij _ (Rep.congr (fun j hj => ?_) (hr (k - xs.length) (by omega)))
                have e2 : k * T.sz = xs.length * T.sz + (k - xs.length) * T.sz := by rw [← Nat.add_mul]; congr 1; omega
                rw [Array.getElem?_append_left (by simp [n1, o1]; omega), Array.getElem?_append_right (by simp [o1]; omega)]
                rw [← n4 (k - xs.length) j (by omega) hj]
                simp only [List.size_toArray, o1, List.getElem?_toArray]
                congr 1; omega)
          exact ⟨_, _, hrun, g1, g2, rfl, g3⟩
  · split at h
    case h_2 => exact (Tr.run_fail h).elim
    rename_i hid
    obtain ⟨h1, h⟩ := Tr.run_grd h
    obtain ⟨h2, h⟩ := Tr.run_grd h
    have h1 := of_decide_eq_true h1
    have h2 := of_decide_eq_true h2
    have h := Tr.run_ret h
    simp only [Prod.mk.injEq] at h
    obtain ⟨rfl, rfl⟩ := h
    obtain rfl := slot_nil hs
    have hcx : ∀ l' ob1, ∀ ob0, X.objs id = some ob0 → ObC (X.φ id) l' ob0 ob1 := fun l' ob1 ob0 h0 => by rw [hid] at h0; exact absurd h0 (by simp)
    rcases Nat.eq_zero_or_pos q.2.length with hz | hp
    · have hq0 : q.2 = [] := List.eq_nil_of_length_eq_zero hz
      rw [hq0] at h1 h2 ⊢
      simp only [List.length_nil]
      obtain ⟨g1, g2⟩ := Fits.put F (w' := X.w) (o := id) (ob := .row 0 q.1 e []) (l := ⟨0, 0, 0, true⟩) (mine := fun _ => False) ⟨rfl, rfl, rfl, Nat.le_refl _, fun _ _ _ => rfl⟩ (fun b hb => hb.elim) (hcx _ _)
        (fun b hb => absurd hb.1 (by simp)) (fun hev => ⟨rfl, fun _ => rfl, fun hh => absurd hh (by simp)⟩)
      refine ⟨X.put X.w id (.row 0 q.1 e []) ⟨0, 0, 0, true⟩, _, run_append_none hu hi.info none ad 0 0 c (Nat.le_refl _) X.w, ⟨rfl, rfl, ?_⟩, g1, rfl, g2⟩
      have e0 : (X.put X.w id (.row 0 q.1 e []) ⟨0, 0, 0, true⟩).objs id = some (.row 0 q.1 e []) := Objs.put_same _ _ _
      simp only [AVR, e0, Ctx.put_φ_same]
      exact ⟨Nat.le_refl _, fun _ => rfl⟩
    · obtain ⟨b, off, rfl, hr⟩ := hsrc hp
      obtain ⟨news, n1, n2, n3, n4⟩ := src_cells hr
      have hrun := run_append_nil (P := P) X.w t ty te i z hu hi.info hi.zero ⟨b, off, none⟩ q.2.length c news (by rw [hi.size]; exact n1) n2 hp (by omega) (by rw [hby]; omega)
      have hnew : (X.w.drew.alloc (.cells (news.toArray ++ Builtin.zeroCells z.cells (grownCap X.w q.2.length 0 te - q.2.length)) te)).heap[X.w.heap.size]? = some (.cells (news.toArray ++ Builtin.zeroCells z.cells (grownCap X.w q.2.length 0 te - q.2.length)) te (0, 0)) := heap_alloc_at X.w.drew _
      have hge : q.2.length ≤ grownCap X.w q.2.length 0 te := by simp only [grownCap, Question.cut]; omega
      obtain ⟨g1, g2, g3⟩ := putRow_ok F (o := id) (ver := 0) (m := q.1) (T := e) (xs := q.2) (l := ⟨X.w.heap.size, q.2.length, grownCap X.w q.2.length 0 te, false⟩) (Turns.alloc X (.cells (news.toArray ++ Builtin.zeroCells z.cells (grownCap X.w q.2.length 0 te - q.2.length)) te)).drew (fun b hb => hb.elim) (hcx _ _)
        rfl rfl (.inr (F.fresh ⟨Nat.le_refl _, by show _ < (X.w.heap.push _).size; simp⟩)) hnew hge (by
          simp only [Array.size_append, List.size_toArray, n1, size_zeroCells, hi.zsize, Nat.sub_mul]
          have := Nat.mul_le_mul_right e.sz hge
          omega) (fun k hk => by
          refine Rep.congr (fun j hj => ?_) (hr k hk)
          have h5 : (k + 1) * e.sz ≤ q.2.length * e.sz := Nat.mul_le_mul_right _ hk
          rw [Nat.succ_mul] at h5
          rw [Array.getElem?_append_left (by simp [n1]; omega)]
          simpa using n4 k j hk hj)
      exact ⟨_, _, hrun, g1, g2, rfl, g3⟩
  · exact (Tr.run_fail h).elim
end
end Go.Proofs.Ytmggpiijahiaiaa.Ev
/- Structs and rows that are written out; slices of slices; a row that is told to last; small operations. -/
namespace Go.Proofs.Ytmggpiijahiaiaa.Ev
open Go
set_option linter.unusedVariables false
set_option linter.unusedSimpArgs false

theorem fold_cells (v : Value) (off : Nat) (cells : Array Value) : (v.cells.zipIdx.foldl (fun cs (c, j) => cs.setIfInBounds (off + j) c) cells).size = cells.size ∧
    ∀ i, i < cells.size → (v.cells.zipIdx.foldl (fun cs (c, j) => cs.setIfInBounds (off + j) c) cells)[i]? = if off ≤ i ∧ i < off + v.cells.size then cv v (i - off) else cells[i]? := by
  have h := fold_get off v.cells.toList 0 cells
  have e : v.cells.zipIdx.foldl (fun cs (c, j) => cs.setIfInBounds (off + j) c) cells = (v.cells.toList.zipIdx 0).foldl (fun cs (x : Value × Nat) => cs.setIfInBounds (off + x.2) x.1) cells := by
    rw [← Array.foldl_toList, Array.toList_zipIdx]
  rw [e]
  refine ⟨h.1, fun i hi => ?_⟩
  rw [h.2 i hi]
  simp only [Nat.add_zero, Array.length_toList, cv, Array.getElem?_toList]

section
variable {P : Program} {E : Fix} {X : Ctx} {tab : TTab}

def PartsR (X : Ctx) : List (Nat × AV) → List (Nat × Value) → Prop
  | [], vs => vs = []
  | (i, a) :: r, vs => ∃ v s, vs = (i, v) :: s ∧ SlotR X a v ∧ PartsR X r s
def valParts (ss : List AV) : List (Nat × Operand) → Option (List (Nat × AV))
  | [] => some []
  | (i, x) :: r => match valOf ss x, valParts ss r with
    | some a, some l => some ((i, a) :: l)
    | _, _ => none
theorem valParts_ok {ss : List AV} {a : Act} (hs : SlotsR X ss a.tmps) : ∀ {l : List (Nat × Operand)} {ps : List (Nat × AV)}, valParts ss l = some ps → PartsR X ps (l.map fun (i, x) => (i, a.eval x)) := by
  intro l
  induction l with
  | nil => intro ps h; simp only [valParts, Option.some.injEq] at h; subst h; rfl
  | cons p l ih =>
    obtain ⟨i, x⟩ := p
    intro ps h
    simp only [valParts] at h
    split at h
    · rename_i b r hb hr
      simp only [Option.some.injEq] at h
      subst h
      exact ⟨_, _, rfl, valOf_ok hs hb, ih hr⟩
    · exact absurd h (by simp)

/-- A struct's fields, written one by one. -/
def buildAV (ob : Objs) (T : Ty) (a : AV) : List (Nat × AV) → Option AV
  | [] => some a
  | (j, v) :: r => match Ty.at (fldPath j) T with
    | some (_, Tj) => if v.fits Tj = true then (match AV.upd (fldPath j) a v with
      | some a' => buildAV ob T a' r
      | none => none) else none
    | none => none
theorem places_ok : ∀ {T : Ty} {off0 : Nat} {fs : List Field}, (TB P T).2 off0 fs = true → ∃ places, fs.mapM (fun f => (P.info? f.type).map fun i => (f.offset, i.size)) = some places ∧
    ∀ j off Tj, Ty.at (fldPath j) T = some (off, Tj) → places[j]? = some (off0 + off, Tj.sz) := by
  intro T
  induction T with
  | pair a b iha ihb =>
    intro off0 fs h
    cases fs with
    | nil => simp [TB] at h
    | cons f r =>
      simp only [TB, Bool.and_eq_true, decide_eq_true_eq] at h
      obtain ⟨⟨h1, h2⟩, h3⟩ := h
      obtain ⟨i, z, hi⟩ := TB_info h2
      obtain ⟨pl, e1, e2⟩ := ihb h3
      refine ⟨(f.offset, i.size) :: pl, by simp [hi.info, e1], fun j off Tj hj => ?_⟩
      cases j with
      | zero =>
        simp only [fldPath, Ty.at, Option.some.injEq, Prod.mk.injEq] at hj
        obtain ⟨rfl, rfl⟩ := hj
        simp [h1, hi.size]
      | succ j =>
        simp only [fldPath, Ty.at] at hj
        cases hb : Ty.at (fldPath j) b with
        | none => simp [hb] at hj
        | some q =>
          obtain ⟨o1, t1⟩ := q
          simp only [hb, Option.some.injEq, Prod.mk.injEq] at hj
          obtain ⟨rfl, rfl⟩ := hj
          have := e2 j o1 t1 hb
          simp only [List.getElem?_cons_succ, this, Nat.add_assoc]
  | unit =>
    intro off0 fs h
    simp only [TB, List.isEmpty_iff] at h
    subst h
    refine ⟨[], rfl, fun j off Tj hj => ?_⟩
    cases j <;> simp [fldPath, Ty.at] at hj
  | _ => intro off0 fs h; simp [TB] at h
theorem buildAV_ok (hij : ∀ b, X.I b → X.J b) {T : Ty} {places : List (Nat × Nat)} (hpl : ∀ j off Tj, Ty.at (fldPath j) T = some (off, Tj) → places[j]? = some (off, Tj.sz)) :
    ∀ {ps : List (Nat × AV)} {vs : List (Nat × Value)} {cells : Array Value} {a a' : AV}, PartsR X ps vs → cells.size = T.sz → AVR X a (fun j => cells[j]?) → a.fits T = true → buildAV X.objs T a ps = some a' →
    ∃ cells', Instr.fill (places.toArray[·]?) cells vs = some cells' ∧ cells'.size = T.sz ∧ AVR X a' (fun j => cells'[j]?) ∧ a'.fits T = true := by
  intro ps
  induction ps with
  | nil =>
    intro vs cells a a' hp hs hr hf h
    obtain rfl : vs = [] := hp
    simp only [buildAV, Option.some.injEq] at h
    subst h
    exact ⟨cells, rfl, hs, hr, hf⟩
  | cons p ps ih =>
    obtain ⟨j, v⟩ := p
    intro vs cells a a' hp hs hr hf h
    obtain ⟨w, r, rfl, hv, hp⟩ := hp
    simp only [buildAV] at h
    split at h
    · rename_i off Tj hat
      split at h
      · rename_i hfit
        split at h
        · rename_i a1 hu
          have hval := slot_val hv hfit
          have hsz : w.cells.size = Tj.sz := hval.2.1.trans (AV.fits_sz hfit)
          have hle := Ty.at_le hat (fldPath_ok hat)
          obtain ⟨f1, f2⟩ := fold_cells w off cells
          obtain ⟨r1, r2⟩ := AV.upd_ok hij (c' := fun k => (w.cells.zipIdx.foldl (fun cs (c, j) => cs.setIfInBounds (off + j) c) cells)[k]?) hr hf hat (fldPath_ok hat) hfit (AVR.congr (fun k hk => by
              rw [AV.fits_sz hfit] at hk
              simp only [shift]
              rw [f2 _ (by omega), if_pos (by omega)]
              congr 1; omega) hval.2.2) (fun k hk hout => by
              show (w.cells.zipIdx.foldl (fun cs (c, j) => cs.setIfInBounds (off + j) c) cells)[k]? = cells[k]?
              rw [f2 _ (by omega), if_neg (by omega)]) hu
          obtain ⟨cells', g1, g2⟩ := ih hp (f1.trans hs) r1 r2 h
          refine ⟨cells', ?_, g2⟩
          have hp' := hpl j off Tj hat
          have e1 : places.toArray[j]? = some (off, Tj.sz) := by simpa using hp'
          unfold Instr.fill
          rw [e1]
          dsimp only
          rw [if_neg (by simp [hsz]; omega)]
          exact g1
        · exact absurd h (by simp)
      · exact absurd h (by simp)
    · exact absurd h (by simp)
def aBuild (tab : TTab) (ob : Objs) (t : TypeId) (ps : List (Nat × AV)) : Option AV :=
  match tab.find t with
  | some ⟨_, .arr n e, _⟩ => match ps with
    | [] => some (.pv false (.arr n e) (Ty.zero (.arr n e)))
    | _ => none
  | some ⟨_, .pair a b, _⟩ => buildAV ob (.pair a b) (zeroAV (.pair a b)) ps
  | some ⟨_, .unit, _⟩ => buildAV ob .unit .unit ps
  | _ => none
theorem slot_agg {a : AV} {cells : Array Value} {T : Ty} (hf : a.fits T = true) (ha : T.isAgg = true) (hs : cells.size = T.sz) (hr : AVR X a (fun j => cells[j]?)) : SlotR X a (.agg cells) := by
  have : ValR X a (.agg cells) := ⟨(AV.fits_agg hf).symm ▸ ha.symm, hs.trans (AV.fits_sz hf).symm, hr⟩
  cases a with
  | undef => trivial
  | tnil => cases T <;> simp [AV.fits] at hf
  | tcons x y => cases T <;> simp [AV.fits] at hf
  | _ => exact this
theorem aBuild_ok (F : Fits E X) (hT : tab.ok P = true) {t : TypeId} {ps : List (Nat × AV)} {parts : Array (Nat × Value)} (hp : PartsR X ps parts.toList) {r : AV} (h : aBuild tab X.objs t ps = some r) :
    ∃ val, (Instr.build t parts).run P X.w = .ok val X.w ∧ SlotR X r val := by
  unfold aBuild at h
  split at h
  · rename_i _ n e _ ht
    split at h
    · simp only [Option.some.injEq] at h
      subst h
      have htb := (TTab.find_ok hT ht).1
      obtain ⟨i, z, hi⟩ := TB_info htb
      obtain ⟨te, hu, hte⟩ := TB_arr htb
      obtain ⟨ie, ze, hie⟩ := TB_info hte
      have hb : P.built t parts.toList = some z.cells := by
        rw [show parts.toList = [] from hp]
        simp only [Program.built, hi.info, hu, hi.zero, hie.info, Instr.fill]
      refine ⟨_, run_build X.w t parts _ hb, ?_⟩
      exact slot_agg (T := .arr n e) (by simp [AV.fits]) rfl hi.zsize (hi.zrep _ _)
    · exact absurd h (by simp)
  · rename_i _ a b _ ht
    have htb := (TTab.find_ok hT ht).1
    obtain ⟨i, z, hi⟩ := TB_info htb
    have htb' := htb
    simp only [TB, Bool.and_eq_true] at htb'
    obtain ⟨d, hd, hf⟩ := descB_ok htb'.2
    cases d with
    | struct fs =>
      have hf' : (TB P (.pair a b)).2 0 fs.toList = true := hf
      obtain ⟨places, e1, e2⟩ := places_ok hf'
      obtain ⟨cells', g1, g2, g3, g4⟩ := buildAV_ok F.ij (fun j off Tj hj => by have := e2 j off Tj hj; rwa [Nat.zero_add] at this) hp hi.zsize (hi.zav X) (zeroAV_fits _) h
      have hb : P.built t parts.toList = some cells' := by
        simp only [Program.built, hi.info, hd, hi.zero, e1]
        exact g1
      exact ⟨_, run_build X.w t parts _ hb, slot_agg g4 rfl g2 g3⟩
    | _ => simp at hf
  · rename_i _ _ ht
    have htb := (TTab.find_ok hT ht).1
    obtain ⟨i, z, hi⟩ := TB_info htb
    cases ps with
    | nil =>
      simp only [buildAV, Option.some.injEq] at h
      subst h
      have htb' := htb
      simp only [TB, Bool.and_eq_true] at htb'
      obtain ⟨d, hd, hf⟩ := descB_ok htb'.2
      cases d with
      | struct fs =>
        have hfs : fs.toList = [] := by simpa using hf
        have hb : P.built t parts.toList = some z.cells := by
          rw [show parts.toList = [] from hp]
          simp [Program.built, hi.info, hd, hi.zero, hfs, Instr.fill]
        exact ⟨_, run_build X.w t parts _ hb, slot_agg (T := .unit) rfl rfl hi.zsize trivial⟩
      | _ => simp at hf
    | cons p r => obtain ⟨j, v⟩ := p; cases j <;> simp [buildAV, fldPath, Ty.at] at h
  · exact absurd h (by simp)

/-- A row's elements, written one by one. -/
def setParts (ob : Objs) (e : Ty) (n : Nat) (m : Bool) (xs : List e.D) : List (Nat × AV) → Option (Bool × List e.D)
  | [] => some (m, xs)
  | (i, a) :: r => if Nat.ble (i + 1) n = true then (match a.pureAs e with
    | some q => setParts ob e n (m || q.1) (xs.set i q.2) r
    | none => none) else none
theorem setParts_ok (hij : ∀ b, X.I b → X.J b) {e : Ty} {n : Nat} : ∀ {ps : List (Nat × AV)} {vs : List (Nat × Value)} {cells : Array Value} {m : Bool} {xs : List e.D} {r : Bool × List e.D}, PartsR X ps vs → cells.size = n * e.sz → xs.length = n →
    (∀ i (h : i < xs.length), Rep X.w (X.set m) e xs[i] (fun j => cells[i * e.sz + j]?)) → setParts X.objs e n m xs ps = some r →
    ∃ cells', Instr.fill (fun i => some (i * e.sz, e.sz)) cells vs = some cells' ∧ cells'.size = n * e.sz ∧ r.2.length = n ∧ ∀ i (h : i < r.2.length), Rep X.w (X.set r.1) e r.2[i] (fun j => cells'[i * e.sz + j]?) := by
  intro ps
  induction ps with
  | nil =>
    intro vs cells m xs r hp hs hl hr h
    obtain rfl : vs = [] := hp
    simp only [setParts, Option.some.injEq] at h
    subst h
    exact ⟨cells, rfl, hs, hl, hr⟩
  | cons p ps ih =>
    obtain ⟨i, v⟩ := p
    intro vs cells m xs r hp hs hl hr h
    obtain ⟨w, s, rfl, hv, hp⟩ := hp
    simp only [setParts] at h
    split at h
    · rename_i hi
      have hi : i + 1 ≤ n := Nat.le_of_ble_eq_true hi
      split at h
      · rename_i q hq
        have hfit : v.fits e = true := by
          cases v with
          | undef => cases e <;> simp [AV.pureAs] at hq
          | tnil => cases e <;> simp [AV.pureAs] at hq
          | tcons x y => cases e <;> simp [AV.pureAs] at hq
          | _ => exact (AV.pureAs_ok hij hv.2.2 hq).2
        have hval := slot_val hv hfit
        obtain ⟨rq, _⟩ := AV.pureAs_ok hij hval.2.2 hq
        have hsz : w.cells.size = e.sz := hval.2.1.trans (AV.fits_sz hfit)
        have h1 : (i + 1) * e.sz ≤ n * e.sz := Nat.mul_le_mul_right _ hi
        rw [Nat.succ_mul] at h1
        obtain ⟨f1, f2⟩ := fold_cells w (i * e.sz) cells
        obtain ⟨cells', g1, g2, g3⟩ := ih (cells := w.cells.zipIdx.foldl (fun cs (c, j) => cs.setIfInBounds (i * e.sz + j) c) cells) (m := m || q.1) (xs := xs.set i q.2) hp (f1.trans hs) (by simpa using hl) (fun k hk => by
          simp only [List.length_set] at hk
          have hk1 : (k + 1) * e.sz ≤ n * e.sz := Nat.mul_le_mul_right _ (by omega)
          rw [Nat.succ_mul] at hk1
          by_cases hki : k = i
          · subst hki
            rw [List.getElem_set_self]
            refine Rep.weaken' hij _ (Rep.congr (fun j hj => ?_) rq)
            rw [f2 _ (by omega), if_pos (by omega)]
            congr 1; omega
          · rw [List.getElem_set_ne (Ne.symm hki)]
            refine Rep.weaken hij _ (Rep.congr (fun j hj => ?_) (hr k hk))
            rw [f2 _ (by omega), if_neg ?_]
            rcases Nat.lt_or_gt_of_ne hki with h6 | h6
            · have h7 : (k + 1) * e.sz ≤ i * e.sz := Nat.mul_le_mul_right _ h6
              rw [Nat.succ_mul] at h7
              omega
            · have h7 : (i + 1) * e.sz ≤ k * e.sz := Nat.mul_le_mul_right _ h6
              rw [Nat.succ_mul] at h7
              omega) h
        refine ⟨cells', ?_, g2, g3⟩
        unfold Instr.fill
        dsimp only
        rw [if_neg (by simp [hsz]; omega)]
        exact g1
      · exact absurd h (by simp)
    · exact absurd h (by simp)
def aBuildSlice (tab : TTab) (ob : Objs) (id : Nat) (t : TypeId) (n : Nat) (ps : List (Nat × AV)) : Option (AV × Objs) :=
  match tab.find t, ob id with
  | some ⟨_, .slice e, _⟩, none => if Nat.ble (n * e.sz) 16777216 = true then (match setParts ob e n false (List.replicate n e.zero) ps with
    | some q => some (.row id 0, ob.put id (.row 0 q.1 e q.2))
    | none => none) else none
  | _, _ => none
theorem aBuildSlice_ok (F : Fits E X) (hT : tab.ok P = true) {id : Nat} {t : TypeId} {n : Nat} {ps : List (Nat × AV)} {parts : Array (Nat × Value)} (hp : PartsR X ps parts.toList) {r : AV} {ob' : Objs} (h : aBuildSlice tab X.objs id t n ps = some (r, ob')) :
    ∃ X' val, (Instr.buildSlice t n parts).run P X.w = .ok val X'.w ∧ SlotR X' r val ∧ Fits E X' ∧ X'.objs = ob' ∧ Evo X X' := by
  unfold aBuildSlice at h
  split at h
  · rename_i _ e _ ht hid
    split at h
    · rename_i hsm
      have hsm : n * e.sz ≤ 16777216 := Nat.le_of_ble_eq_true hsm
      split at h
      · rename_i q hq
        simp only [Option.some.injEq, Prod.mk.injEq] at h
        obtain ⟨rfl, rfl⟩ := h
        obtain ⟨te, hu, hte⟩ := TB_slice (TTab.find_ok hT ht).1
        obtain ⟨i, z, hi⟩ := TB_info hte
        obtain ⟨cells', g1, g2, g3, g4⟩ := setParts_ok F.ij (cells := madeCells z.cells (n * e.sz)) hp (size_madeCells _ _) (by simp) (fun k hk => by
          simp only [List.length_replicate] at hk
          simp only [List.getElem_replicate]
          exact zero_row hi.zsize hi.zrep _ _ _ hk) hq
        have hrun : (Instr.buildSlice t n parts).run P X.w = .ok (.slice (some ⟨X.w.heap.size, 0, none⟩) n n) (X.w.alloc (.cells cells' te)) := by
          by_cases h0 : n * e.sz = 0
          · have e0 : madeCells z.cells (n * e.sz) = #[] := by rw [h0]; simp [madeCells]
            rw [e0] at g1
            have hle : ¬ (2 ^ 24 < n * e.sz) := by omega
            have e1 : Array.range (n * e.sz) = #[] := by rw [h0]; rfl
            simp only [Instr.buildSlice, Sem.run_bind, run_under hu, Result.andThen_ok, run_size hte, gt_iff_lt, if_neg hle, if_pos h0, e1, Array.map_empty, Sem.run_pure]
            simp [g1, newRow]
          · refine run_buildSlice X.w t te n parts cells' i z hu hi.info hi.zero (by rw [hi.size]; omega) (by rw [hi.size]; exact h0) ?_
            rw [hi.size]; exact g1
        have hnew : (X.w.alloc (.cells cells' te)).heap[X.w.heap.size]? = some (.cells cells' te (0, 0)) := heap_alloc_at _ _
        obtain ⟨k1, k2, k3⟩ := putRow_ok F (o := id) (ver := 0) (m := q.1) (T := e) (xs := q.2) (l := ⟨X.w.heap.size, n, n, false⟩) (Turns.alloc X _) (fun b hb => hb.elim) (fun ob0 h0 => by rw [hid] at h0; exact absurd h0 (by simp))
          g3.symm rfl (.inr (F.fresh ⟨Nat.le_refl _, by show _ < (X.w.heap.push _).size; simp⟩)) hnew (by rw [g3]; exact Nat.le_refl _) (by rw [g2]; exact Nat.le_refl _) g4
        exact ⟨_, _, hrun, k1, k2, rfl, k3⟩
      · exact absurd h (by simp)
    · exact absurd h (by simp)
  · exact absurd h (by simp)

/-- One of several results. -/
def aExtract : AV → Nat → Option AV
  | .tcons a _, 0 => some a
  | .tcons _ b, n + 1 => aExtract b n
  | _, _ => none
theorem tup_get : ∀ {n : Nat} {a r : AV} {vs : List Value}, TupR X a vs → aExtract a n = some r → ∃ v, vs[n]? = some v ∧ ValR X r v := by
  intro n
  induction n with
  | zero =>
    intro a r vs h g
    cases a with
    | tcons a b =>
      simp only [aExtract, Option.some.injEq] at g
      subst g
      obtain ⟨v, s, rfl, hv, _⟩ := h
      exact ⟨v, rfl, hv⟩
    | _ => simp [aExtract] at g
  | succ n ih =>
    intro a r vs h g
    cases a with
    | tcons a b =>
      simp only [aExtract] at g
      obtain ⟨v, s, rfl, _, hs⟩ := h
      obtain ⟨u, hu, hr⟩ := ih hs g
      exact ⟨u, by simpa using hu, hr⟩
    | _ => simp [aExtract] at g
theorem slot_of_val {a : AV} {v : Value} (h : ValR X a v) : SlotR X a v := by
  cases a with
  | undef => trivial
  | tnil => exact h.2.2.elim
  | tcons x y => exact h.2.2.elim
  | _ => exact h
theorem aExtract_ok {n : Nat} {a r : AV} {v : Value} (h : SlotR X a v) (g : aExtract a n = some r) : ∃ val, (Instr.extract v n).run P X.w = .ok val X.w ∧ SlotR X r val := by
  cases a with
  | tcons a b =>
    obtain ⟨vs, rfl, ht⟩ := h
    obtain ⟨u, hu, hr⟩ := tup_get ht g
    have e : vs[n]? = some u := by simpa using hu
    exact ⟨u, by simp [Instr.extract, e], slot_of_val hr⟩
  | _ => cases n <;> simp [aExtract] at g

/-- A field of a struct at hand. -/
def aField (tab : TTab) (ob : Objs) (s : TypeId) (j : Nat) (a : AV) : Option AV :=
  match tab.find s with
  | some e => if a.fits e.T = true then (match Ty.at (fldPath j) e.T with
    | some (_, Tj) => match AV.get (fldPath j) a with
      | some r => if r.cur ob = true then some r else none
      | none => none
    | none => none) else none
  | none => none
theorem aField_ok (hT : tab.ok P = true) {s : TypeId} {j : Nat} {a r : AV} {v : Value} (h : SlotR X a v) (g : aField tab X.objs s j a = some r) : ∃ val, (Instr.field s v j).run P X.w = .ok val X.w ∧ SlotR X r val := by
  unfold aField at g
  split at g
  · rename_i e he
    split at g
    · rename_i hf
      split at g
      · rename_i off Tj hat
        split at g
        · rename_i r' hg
          split at g
          · rename_i hcur
            simp only [Option.some.injEq] at g
            subst g
            have hval := slot_val h hf
            obtain ⟨fs, hfs, f, hff, hoff, htb⟩ := TB_struct (TTab.find_ok hT he).1 hat
            obtain ⟨r1, r2⟩ := AV.get_ok hval.2.2 hf hat (fldPath_ok hat) hg
            have hle := Ty.at_le hat (fldPath_ok hat)
            have hsz : v.cells.size = e.T.sz := hval.2.1.trans (AV.fits_sz hf)
            have hag : e.T.isAgg = true := by
              cases hT' : e.T with
              | pair a b => rfl
              | _ => rw [hT'] at hat; cases j <;> simp [fldPath, Ty.at] at hat
            have hva : Value.isAgg v = true := hval.1.trans ((AV.fits_agg hf).trans hag)
            cases v with
            | agg cs =>
              have hcs : cs.size = e.T.sz := hsz
              have hok := AVR.okc r1 r2 hcur
              have hz := AV.fits_sz r2
              cases ha : Tj.isAgg with
              | true =>
                refine ⟨.agg (cs.extract off (off + Tj.sz)), by simp [Instr.field, run_under hfs, hff, asAgg, part, run_agg htb, ha, run_size htb, hoff], ?_⟩
                refine slot_agg r2 ha (by simp; omega) (AVR.congr (fun k hk => ?_) r1)
                rw [hz] at hk
                simp only [shift, cv, Value.cells]
                rw [Array.getElem?_extract]
                rw [if_pos (by omega)]
              | false =>
                have h1 : Tj.sz = 1 := by cases Tj <;> simp [Ty.isAgg] at ha <;> rfl
                obtain ⟨u, hu, hok⟩ := hok 0 (by omega)
                have hu' : cs[off]? = some u := hu
                refine ⟨u, by simp [Instr.field, run_under hfs, hff, asAgg, part, run_agg htb, ha, hoff, hu'], ?_⟩
                refine slot_of_val ⟨?_, ?_, AVR.congr (fun k hk => ?_) r1⟩
                · rw [AV.fits_agg r2, ha]; cases u <;> first | rfl | exact hok.elim
                · rw [hz, h1]; cases u <;> first | rfl | exact hok.elim
                · obtain rfl : k = 0 := by omega
                  rw [hu]; cases u <;> first | rfl | exact hok.elim
            | _ => simp [Value.isAgg] at hva
          · exact absurd g (by simp)
        · exact absurd g (by simp)
      · exact absurd g (by simp)
    · exact absurd g (by simp)
  · exact absurd g (by simp)

/-- The byte at a place of a text. -/
def strAt (s : ByteArray) (i : Int) : Int := match s[i.toNat]? with
  | some b => (b.toNat : Int)
  | none => 0
theorem run_index_str {t : TypeId} (hu : P.underlying t = some .string) {s : ByteArray} {k : IntKind} {i : Int} (h0 : 0 ≤ i) (h1 : i < (s.size : Int)) (w : World) : (Instr.index t (.string s) (.int k i)).run P w = .ok (.int .u8 (strAt s i)) w := by
  have hi : i.toNat < s.size := by omega
  have e : s[i.toNat]? = some s[i.toNat] := by rw [getElem?_pos]
  simp [Instr.index, asIntOf, run_under hu, h0, strAt, e]

/-- min and max of two whole numbers. -/
def aMinMax (isMax : Bool) : AV → AV → Option AV
  | .pv _ (.int k) a, .pv _ (.int k') b => if k = k' then some (pvI k (if isMax then (if b > a then b else a) else (if b < a then b else a))) else none
  | _, _ => none
end
end Go.Proofs.Ytmggpiijahiaiaa.Ev
/- A row of one's own that is told to last; pieces of slices and texts. -/
namespace Go.Proofs.Ytmggpiijahiaiaa.Ev
open Go
set_option linter.unusedVariables false
set_option linter.unusedSimpArgs false

section
variable {P : Program} {E : Fix} {X : Ctx} {tab : TTab}

/-- A step that turns no row's place, but for rows that are told to last. -/
structure Tame (X X' : Ctx) : Prop where
  w : X'.w = X.w
  φ : X'.φ = X.φ
  evo : Evo X X'
  row : ∀ o v m T xs, X.objs o = some (.row v m T xs) → X'.objs o = some (.row v m T xs) ∨ (X'.objs o = some (.imm v m T xs) ∧ ((X.φ o).nil = false → X'.J (X.φ o).blk))
  box : ∀ o T a, X.objs o = some (.box T a) → X'.objs o = some (.box T a)
  imm : ∀ o v m T xs, X.objs o = some (.imm v m T xs) → X'.objs o = some (.imm v m T xs)
  own : ∀ o b, Own X'.objs X'.φ o b → Own X.objs X.φ o b
  jn : ∀ b, X'.J b → X.J b ∨ ∃ o, Own X.objs X.φ o b
theorem Tame.refl {X : Ctx} (hij : ∀ b, X.I b → X.J b) : Tame X X := ⟨rfl, rfl, Evo.refl hij, fun _ _ _ _ _ h => .inl h, fun _ _ _ h => h, fun _ _ _ _ _ h => h, fun _ _ h => h, fun _ h => .inl h⟩
theorem Tame.trans {X Y Z : Ctx} (h : Tame X Y) (k : Tame Y Z) : Tame X Z := by
  refine ⟨k.w.trans h.w, k.φ.trans h.φ, h.evo.trans k.evo, fun o v m T xs ho => ?_, fun o T a ho => k.box o T a (h.box o T a ho), fun o v m T xs ho => k.imm o v m T xs (h.imm o v m T xs ho), fun o b hb => h.own o b (k.own o b hb), fun b hb => (k.jn b hb).elim (fun hj => h.jn b hj) (fun ⟨o, ho⟩ => .inr ⟨o, h.own o b ho⟩)⟩
  rcases h.row o v m T xs ho with h1 | ⟨h1, h2⟩
  · rcases k.row o v m T xs h1 with h2 | ⟨h2, h3⟩
    · exact .inl h2
    · rw [h.φ] at h3; exact .inr ⟨h2, h3⟩
  · exact .inr ⟨k.imm o v m T xs h1, fun hn => k.evo.j _ (h2 hn)⟩
theorem Fits.freeze (F : Fits E X) {o v : Nat} {m : Bool} {T : Ty} {xs : List T.D} (ho : X.objs o = some (.row v m T xs)) :
    ∃ X', X'.objs = X.objs.put o (.imm v m T xs) ∧ Fits E X' ∧ Tame X X' ∧ Rep X'.w (X'.set m) (.slice T) xs (fun _ => some (X.φ o).sl) := by
  obtain ⟨hl, hnil, hrow⟩ := F.objs o _ ho
  let B : Bs := fun b => (X.φ o).nil = false ∧ b = (X.φ o).blk
  have hB : ∀ b, B b → Own X.objs X.φ o b := fun b hb => by unfold Own; rw [ho]; exact hb
  let X' : Ctx := { w := X.w, I := fun b => X.I b ∨ (m = false ∧ B b), J := fun b => X.J b ∨ B b, objs := X.objs.put o (.imm v m T xs), φ := X.φ }
  have hij' : ∀ b, X'.I b → X'.J b := fun b hb => hb.elim (fun h => .inl (F.ij b h)) (fun h => .inr h.2)
  have hev : Evo X X' := by
    refine ⟨Agree.refl _ _, fun b h => .inl h, fun b h => .inl h, F.ij, fun o' ob' ho' => ?_⟩
    by_cases e : o' = o
    · subst e
      rw [ho] at ho'
      obtain rfl := Option.some.inj ho'
      show ObC _ _ _ (X.objs.put o' _ o')
      rw [Objs.put_same]
      exact ⟨rfl, Nat.le_refl _, fun _ => rfl⟩
    · show ObC _ _ _ (X.objs.put o _ o')
      rw [Objs.put_ne _ _ _ e, ho']
      cases ob' with
      | box T a => exact ⟨rfl, rfl⟩
      | row v m T xs => exact ⟨rfl, Nat.le_refl _, fun _ => rfl⟩
      | imm v m T xs => exact ⟨rfl, Nat.le_refl _, fun _ => rfl⟩
  have hset : ∀ b, B b → X'.set m b := fun b hb => by
    cases m
    · exact .inr ⟨rfl, hb⟩
    · exact .inr hb
  have hrep : Rep X'.w (X'.set m) (.slice T) xs (fun _ => some (X.φ o).sl) := by
    cases hn : (X.φ o).nil with
    | true =>
      obtain rfl := hnil hn
      exact ⟨none, 0, by simp [Loc.sl, hn], Nat.le_refl _, fun hp => absurd hp (by simp)⟩
    | false =>
      obtain ⟨_, hcap, hr⟩ := hrow hn
      refine ⟨some ⟨(X.φ o).blk, 0, none⟩, (X.φ o).cap, by simp [Loc.sl, hn, hl], hcap, fun _ => ⟨(X.φ o).blk, 0, rfl, hset _ ⟨hn, rfl⟩, fun i hi => ?_⟩⟩
      rw [Nat.zero_add]
      exact Rep.evo hev (hr i hi)
  have hown' : ∀ o1 b, Own X'.objs X'.φ o1 b → Own X.objs X.φ o1 b ∧ o1 ≠ o := by
    intro o1 b h
    by_cases e : o1 = o
    · subst e
      unfold Own at h
      have e1 : X'.objs o1 = some (.imm v m T xs) := Objs.put_same _ _ _
      rw [e1] at h
      exact h.elim
    · refine ⟨?_, e⟩
      unfold Own at h ⊢
      have e1 : X'.objs o1 = X.objs o1 := Objs.put_ne _ _ _ e
      rw [e1] at h
      exact h
  have htame : Tame X X' := by
    refine ⟨rfl, rfl, hev, fun o' v' m' T' xs' ho' => ?_, fun o' T' a' ho' => ?_, fun o' v' m' T' xs' ho' => ?_, fun o' b' hb' => (hown' o' b' hb').1, fun b' hb' => hb'.elim .inl (fun h => .inr ⟨o, hB b' h⟩)⟩
    · by_cases e : o' = o
      · subst e
        rw [ho] at ho'
        right
        refine ⟨?_, fun hn => .inr ⟨hn, rfl⟩⟩
        show X.objs.put o' _ o' = _
        rw [Objs.put_same]
        injection ho' with ho'
        injection ho' with e1 e2 e3 e4
        subst e1 e2 e3
        rw [eq_of_heq e4]
      · left
        show X.objs.put o _ o' = _
        rw [Objs.put_ne _ _ _ e]; exact ho'
    · by_cases e : o' = o
      · subst e; rw [ho] at ho'; cases ho'
      · show X.objs.put o _ o' = _
        rw [Objs.put_ne _ _ _ e]; exact ho'
    · by_cases e : o' = o
      · subst e; rw [ho] at ho'; cases ho'
      · show X.objs.put o _ o' = _
        rw [Objs.put_ne _ _ _ e]; exact ho'
  refine ⟨X', rfl, ⟨F.keep, fun o1 ob1 h1 => ?_, fun o1 o2 b h1 h2 => F.dist _ _ _ (hown' _ _ h1).1 (hown' _ _ h2).1, fun o1 b h1 hj => ?_, fun o1 b h1 => F.ownw _ _ (hown' _ _ h1).1, hij',
    fun b hb => ?_, fun b hb => .inl (F.i0 b hb), fun b hb => ?_, fun b hb => .inl (F.j0 b hb), fun b hb => ?_⟩, htame, hrep⟩
  · by_cases e : o1 = o
    · subst e
      have e1 : X'.objs o1 = some (.imm v m T xs) := Objs.put_same _ _ _
      rw [e1] at h1
      obtain rfl := Option.some.inj h1
      exact ⟨hl, hrep⟩
    · have e1 : X'.objs o1 = X.objs o1 := Objs.put_ne _ _ _ e
      rw [e1] at h1
      exact ObjR.evo hev (F.objs o1 ob1 h1) (fun _ => rfl)
  · obtain ⟨h2, hne⟩ := hown' _ _ h1
    rcases hj with hj | hj
    · exact F.ownJ _ _ h2 hj
    · exact hne (F.dist _ _ _ h2 (hB b hj))
  · rcases hb with hb | hb
    · exact F.jlt b hb
    · exact (F.ownw o b (hB b hb)).1
  · rcases hb with hb | hb
    · exact F.iw b hb
    · exact .inr (F.ownw o b (hB b hb.2)).2
  · rcases hb with hb | hb
    · exact F.jw b hb
    · exact .inr (F.ownw o b (hB b hb)).2

/-- A value told whole; rows of one's own in it are told to last. -/
def purify : (T : Ty) → Objs → AV → Option ((Bool × T.D) × Objs)
  | .pair A B, ob, .pair a b => match purify A ob a with
    | some (p, ob1) => match purify B ob1 b with
      | some (q, ob2) => some ((p.1 || q.1, (p.2, q.2)), ob2)
      | none => none
    | none => none
  | .slice e, ob, .row o v => match ob o with
    | some (.row v' m T xs) => if h : T = e then (if Nat.beq v v' = true then some ((m, h ▸ xs), ob.put o (.imm v' m T xs)) else none) else none
    | some (.imm v' m T xs) => if h : T = e then (if Nat.beq v v' = true then some ((m, h ▸ xs), ob) else none) else none
    | _ => none
  | T, ob, a => match a.pureAs T with
    | some p => some (p, ob)
    | none => none
theorem purify_ok : ∀ {T : Ty} {X : Ctx} {a : AV} {c : Cs} {p : Bool × T.D} {ob' : Objs}, Fits E X → AVR X a c → purify T X.objs a = some (p, ob') →
    ∃ X', X'.objs = ob' ∧ Fits E X' ∧ Tame X X' ∧ Rep X'.w (X'.set p.1) T p.2 c ∧ a.sz = T.sz ∧ a.isAgg = T.isAgg := by
  intro T
  have base : ∀ {T : Ty} {X : Ctx} {a : AV} {c : Cs} {p : Bool × T.D} {ob' : Objs}, Fits E X → AVR X a c → (match a.pureAs T with | some p => some (p, X.objs) | none => none) = some (p, ob') →
      ∃ X', X'.objs = ob' ∧ Fits E X' ∧ Tame X X' ∧ Rep X'.w (X'.set p.1) T p.2 c ∧ a.sz = T.sz ∧ a.isAgg = T.isAgg := by
    intro T X a c p ob' F r h
    split at h
    · rename_i q hq
      simp only [Option.some.injEq, Prod.mk.injEq] at h
      obtain ⟨rfl, rfl⟩ := h
      obtain ⟨h1, h2⟩ := AV.pureAs_ok F.ij r hq
      exact ⟨X, rfl, F, Tame.refl F.ij, h1, AV.fits_sz h2, AV.fits_agg h2⟩
    · exact absurd h (by simp)
  induction T with
  | pair A B iha ihb =>
    intro X a c p ob' F r h
    cases a with
    | pair a b =>
      simp only [purify] at h
      split at h
      · rename_i pa ob1 ha
        split at h
        · rename_i pb ob2 hb
          simp only [Option.some.injEq, Prod.mk.injEq] at h
          obtain ⟨rfl, rfl⟩ := h
          obtain ⟨X1, o1, F1, e1, r1, s1, _⟩ := iha F r.1 ha
          obtain ⟨X2, o2, F2, e2, r2, s2, _⟩ := ihb F1 (r.2.evo e1.evo) (o1.symm ▸ hb)
          refine ⟨X2, o2, F2, e1.trans e2, ⟨Rep.weaken F2.ij _ (Rep.evo e2.evo r1), ?_⟩, by simp [AV.sz, Ty.sz, s1, s2], rfl⟩
          rw [s1] at r2
          exact Rep.weaken' F2.ij _ r2
        · exact absurd h (by simp)
      · exact absurd h (by simp)
    | _ => exact base F r h
  | slice e ih =>
    intro X a c p ob' F r h
    cases a with
    | row o v =>
      simp only [purify] at h
      split at h
      · rename_i v' m T xs ho
        split at h
        · rename_i hT
          subst hT
          split at h
          · rename_i hv
            obtain rfl := Nat.eq_of_beq_eq_true hv
            simp only [Option.some.injEq, Prod.mk.injEq] at h
            obtain ⟨rfl, rfl⟩ := h
            obtain ⟨X', o1, F1, e1, r1⟩ := F.freeze ho
            simp only [AVR, ho] at r
            refine ⟨X', o1, F1, e1, Rep.congr (fun j hj => ?_) r1, rfl, rfl⟩
            obtain rfl : j = 0 := by simp [Ty.sz] at hj; exact hj
            exact r.2 trivial
          · exact absurd h (by simp)
        · exact absurd h (by simp)
      · rename_i v' m T xs ho
        split at h
        · rename_i hT
          subst hT
          split at h
          · rename_i hv
            obtain rfl := Nat.eq_of_beq_eq_true hv
            simp only [Option.some.injEq, Prod.mk.injEq] at h
            obtain ⟨rfl, rfl⟩ := h
            simp only [AVR, ho] at r
            refine ⟨X, rfl, F, Tame.refl F.ij, Rep.congr (fun j hj => ?_) (F.objs o _ ho).2, rfl, rfl⟩
            obtain rfl : j = 0 := by simp [Ty.sz] at hj; exact hj
            exact r.2 trivial
          · exact absurd h (by simp)
        · exact absurd h (by simp)
      · exact absurd h (by simp)
    | _ => exact base F r h
  | _ => intro X a c p ob' F r h; exact base F r h

/-- A piece of a slice that lasts, or of a text. -/
def aSlice (tab : TTab) (t : TypeId) (lo hi : Option Int) : AV → Tr AV
  | .pv m (.slice e) xs => match tab.find t with
    | some ⟨_, .slice e', _⟩ =>
      let l := lo.getD 0
      let h := hi.getD (xs.length : Int)
      Tr.chk (decide (e = e')) <| Tr.grd (decide (0 ≤ l)) <| Tr.grd (decide (l ≤ h)) <| Tr.grd (decide (h ≤ (xs.length : Int))) <| .ret (.pv m (.slice e) ((xs.take h.toNat).drop l.toNat))
    | _ => .fail
  | .pv _ .str s => match tab.find t with
    | some ⟨_, .str, _⟩ =>
      let l := lo.getD 0
      let h := hi.getD (s.size : Int)
      Tr.grd (decide (0 ≤ l)) <| Tr.grd (decide (l ≤ h)) <| Tr.grd (decide (h ≤ (s.size : Int))) <| .ret (.pv false .str (s.extract l.toNat h.toNat))
    | _ => .fail
  | _ => .fail
def optV (k : IntKind) : Option Int → Option Value
  | some n => some (.int k n)
  | none => none
def snd2 (x : IntKind × Int) : Int := x.2
def toV (x : IntKind × Int) : Value := .int x.1 x.2
theorem run_bounds {isS : Bool} {len cap : Nat} {lo hi : Option (IntKind × Int)} (hlc : len ≤ cap) (h0 : 0 ≤ (lo.map snd2).getD 0) (h1 : (lo.map snd2).getD 0 ≤ (hi.map snd2).getD (len : Int)) (h2 : (hi.map snd2).getD (len : Int) ≤ (len : Int)) (w : World) :
    (Instr.sliceBounds isS len cap (lo.map toV) (hi.map toV) none).run P w = .ok (((lo.map snd2).getD 0).toNat, ((hi.map snd2).getD (len : Int)).toNat, cap) w := by
  cases lo with
  | none =>
    cases hi with
    | none => simp [Instr.sliceBounds]
    | some h =>
      simp only [Option.map_some, Option.map_none, Option.getD_some, Option.getD_none, snd2] at h0 h1 h2
      have a1 : 0 ≤ h.2 ∧ h.2 ≤ (cap : Int) := ⟨h1, by omega⟩
      simp [Instr.sliceBounds, Instr.sliceBound, asIntOf, a1, toV, snd2]
  | some l =>
    cases hi with
    | none =>
      simp only [Option.map_some, Option.map_none, Option.getD_some, Option.getD_none, snd2] at h0 h1 h2
      have a1 : 0 ≤ l.2 ∧ l.2 ≤ (len : Int) := ⟨h0, by omega⟩
      simp [Instr.sliceBounds, Instr.sliceBound, asIntOf, a1, toV, snd2]
    | some h =>
      simp only [Option.map_some, Option.getD_some, snd2] at h0 h1 h2
      have a1 : 0 ≤ h.2 ∧ h.2 ≤ (cap : Int) := ⟨by omega, by omega⟩
      have a2 : 0 ≤ l.2 ∧ l.2 ≤ ((h.2.toNat : Nat) : Int) := ⟨h0, by omega⟩
      have a3 : l.2 ≤ h.2 ∨ h.2 < 0 := .inl h1
      simp only [Instr.sliceBounds, Instr.sliceBound, asIntOf, Option.map_some, toV, snd2, Sem.run_bind, Sem.run_pure, Result.andThen_ok, if_pos a1, if_pos a2]
      rfl
theorem aSlice_ok (hT : tab.ok P = true) {t : TypeId} {lo hi : Option (IntKind × Int)} {a r : AV} {v : Value} (hv : SlotR X a v) (h : (aSlice tab t (lo.map snd2) (hi.map snd2) a).run = some r) :
    ∃ val, (Instr.sliceAt t v (lo.map toV) (hi.map toV) none).run P X.w = .ok val X.w ∧ SlotR X r val := by
  unfold aSlice at h
  split at h
  · rename_i m e xs
    split at h
    · rename_i _ e' _ ht
      replace h := Tr.run_chk h
      obtain ⟨he, h⟩ := h
      have he := of_decide_eq_true he
      subst he
      obtain ⟨h0, h⟩ := Tr.run_grd h
      obtain ⟨h1, h⟩ := Tr.run_grd h
      obtain ⟨h2, h⟩ := Tr.run_grd h
      have h0 := of_decide_eq_true h0
      have h1 := of_decide_eq_true h1
      have h2 := of_decide_eq_true h2
      obtain rfl := Tr.run_ret h
      obtain ⟨te, hu, hte⟩ := TB_slice (TTab.find_ok hT ht).1
      obtain ⟨ad, cap, rfl, hcap, hr⟩ := slot_slice hv
      have hb := run_bounds (P := P) (isS := true) hcap h0 h1 h2 X.w
      generalize hl : ((lo.map snd2).getD 0).toNat = l at hb ⊢
      generalize hh : ((hi.map snd2).getD (xs.length : Int)).toNat = g at hb ⊢
      have hle : l ≤ g := by omega
      have hge : g ≤ xs.length := by omega
      have hlen : ((xs.take g).drop l).length = g - l := by simp; omega
      refine ⟨.slice (if cap = l then ad else ad.map (·.add (l * e.sz))) (g - l) (cap - l), ?_, rfl, rfl, ?_⟩
      · simp [Instr.sliceAt, run_under hu, Instr.slice, hb, run_size hte]
      · refine ⟨_, _, by rw [hlen]; rfl, by rw [hlen]; omega, fun hp => ?_⟩
        rw [hlen] at hp
        obtain ⟨b, off, rfl, hI, hr⟩ := hr (by omega)
        refine ⟨b, off + l * e.sz, by rw [if_neg (by omega)]; simp [Addr.add_lit], hI, fun i hi => ?_⟩
        rw [hlen] at hi
        have e1 : ((xs.take g).drop l)[i]'(by rw [hlen]; exact hi) = xs[l + i]'(by omega) := by simp
        rw [e1, Nat.add_assoc, ← Nat.add_mul]
        exact hr (l + i) (by omega)
    · exact (Tr.run_fail h).elim
  · rename_i m s
    split at h
    · rename_i _ _ ht
      obtain ⟨h0, h⟩ := Tr.run_grd h
      obtain ⟨h1, h⟩ := Tr.run_grd h
      obtain ⟨h2, h⟩ := Tr.run_grd h
      have h0 := of_decide_eq_true h0
      have h1 := of_decide_eq_true h1
      have h2 := of_decide_eq_true h2
      obtain rfl := Tr.run_ret h
      have hu := TB_str (TTab.find_ok hT ht).1
      obtain rfl := slot_str hv
      have hb := run_bounds (P := P) (isS := false) (Nat.le_refl s.size) h0 h1 h2 X.w
      refine ⟨_, ?_, slot_mk_str _ _⟩
      simp [Instr.sliceAt, run_under hu, Instr.slice, hb]
    · exact (Tr.run_fail h).elim
  · exact (Tr.run_fail h).elim
end
end Go.Proofs.Ytmggpiijahiaiaa.Ev
/- One operation of the machine that is no call of a Go function, told abstractly. -/
namespace Go.Proofs.Ytmggpiijahiaiaa.Ev
open Go
set_option linter.unusedVariables false
set_option linter.unusedSimpArgs false

def asInt? : AV → Option (IntKind × Int)
  | .pv _ (.int k) n => some (k, n)
  | _ => none
def optInt (ss : List AV) : Option Operand → Option (Option Int)
  | none => some none
  | some x => match valOf ss x with
    | some (.pv _ (.int _) n) => some (some n)
    | _ => none
def capsOf (ss : List AV) : List Operand → Option (List Nat)
  | [] => some []
  | x :: r => match valOf ss x, capsOf ss r with
    | some (.bptr o []), some l => some (o :: l)
    | _, _ => none
/-- A row of one's own is told to last before a piece of it is taken. -/
def sliceSrc (ob : Objs) : AV → Option (AV × Objs)
  | .row o v => match ob o with
    | some (.row v' m T xs) => if Nat.beq v v' = true then some (.pv m (.slice T) xs, ob.put o (.imm v' m T xs)) else none
    | some (.imm v' m T xs) => if Nat.beq v v' = true then some (.pv m (.slice T) xs, ob) else none
    | _ => none
  | a => some (a, ob)
def aBuiltin (tab : TTab) (id : Nat) (ss : List AV) (ob : Objs) (b : Builtin) (args : Array Operand) (tys : Array TypeId) : Tr (AV × Objs) :=
  match b, args.toList, tys.toList with
  | .len, [x], [t] => Tr.of (valOf ss x) fun a => Tr.of (aLen tab ob t a) fun n => .ret (pvI .i64 n, ob)
  | .append, [x, y], [t, u] => Tr.chk (Nat.beq t u) <| Tr.of (valOf ss x) fun a => Tr.of (valOf ss y) fun b => aAppend tab ob id t a b
  | .min, [x, y], _ => Tr.of (valOf ss x) fun a => Tr.of (valOf ss y) fun b => Tr.of (aMinMax false a b) fun r => .ret (r, ob)
  | .max, [x, y], _ => Tr.of (valOf ss x) fun a => Tr.of (valOf ss y) fun b => Tr.of (aMinMax true a b) fun r => .ret (r, ob)
  | _, _, _ => .fail
def aOp (tab : TTab) (id : Nat) (o : Op) (ss : List AV) (ob : Objs) : Tr (AV × Objs) :=
  match o with
  | .move x | .assign x => Tr.of (valOf ss x) fun a => .ret (a, ob)
  | .pick c x y => Tr.of (valOf ss c) fun
    | .pv _ .bool b => .ite b (Tr.of (valOf ss x) fun a => .ret (a, ob)) (Tr.of (valOf ss y) fun a => .ret (a, ob))
    | _ => .fail
  | .alloc t => Tr.of (aAlloc tab ob id t) .ret
  | .box t x => Tr.of (valOf ss x) fun a => Tr.of (aBox tab ob id t a) .ret
  | .build t ps => Tr.of (valParts ss ps.toList) fun l => Tr.of (aBuild tab ob t l) fun a => .ret (a, ob)
  | .buildSlice t n ps => Tr.of (valParts ss ps.toList) fun l => Tr.of (aBuildSlice tab ob id t n l) .ret
  | .load t x => Tr.of (valOf ss x) fun a => Tr.of (aLoad tab ob t a) fun r => .ret (r, ob)
  | .store t x y => Tr.of (valOf ss x) fun a => Tr.of (valOf ss y) fun b => Tr.of (aStore tab ob t a b) fun ob' => .ret (.undef, ob')
  | .nilCheck x => Tr.of (valOf ss x) fun
    | .bptr o p => Tr.chk ((AV.bptr o p).cur ob) (.ret (.bptr o p, ob))
    | .pp m T y => .ret (.pp m T y, ob)
    | .rptr o v i p => Tr.chk ((AV.rptr o v i p).cur ob) (.ret (.rptr o v i p, ob))
    | _ => .fail
  | .binOp op xt x y _ => Tr.of (valOf ss x) fun a => Tr.of (valOf ss y) fun b => (binV tab op xt a b).bind fun r => .ret (r, ob)
  | .unOp op _ x => Tr.of (valOf ss x) fun a => (unV op a).bind fun r => .ret (r, ob)
  | .convert s d x => Tr.of (valOf ss x) fun a => (convV tab s d a).bind fun r => .ret (r, ob)
  | .makeFunc (.func f) first caps => Tr.chk first.toList.isEmpty <| Tr.of (capsOf ss caps.toList) fun os => .ret (.fn f os, ob)
  | .makeSlice t l c => Tr.of ((valOf ss l).bind asInt?) fun a => Tr.of ((valOf ss c).bind asInt?) fun b => aMake tab ob id t a.2 b.2
  | .slice t x lo hi none => Tr.of (valOf ss x) fun a => Tr.of (optInt ss lo) fun l => Tr.of (optInt ss hi) fun h => Tr.of (sliceSrc ob a) fun p => (aSlice tab t l h p.1).bind fun r => .ret (r, p.2)
  | .fieldAddr s x j => Tr.of (valOf ss x) fun a => Tr.of (aFieldAddr tab ob s j a) fun r => .ret (r, ob)
  | .field s x j => Tr.of (valOf ss x) fun a => Tr.of (aField tab ob s j a) fun r => .ret (r, ob)
  | .indexAddr t x i => Tr.of (valOf ss x) fun a => Tr.of ((valOf ss i).bind asInt?) fun n => Tr.of (aElem tab ob t a) fun p => Tr.grd (decide (0 ≤ n.2)) <| Tr.grd (decide (n.2 < p.1)) <| .ret (p.2 n.2.toNat, ob)
  | .index t x i => Tr.of (valOf ss x) fun
    | .pv _ .str s => Tr.of ((valOf ss i).bind asInt?) fun n => Tr.of (tab.find t) fun
      | ⟨_, .str, _⟩ => Tr.grd (decide (0 ≤ n.2)) <| Tr.grd (decide (n.2 < (s.size : Int))) <| .ret (pvI .u8 (strAt s n.2), ob)
      | _ => .fail
    | _ => .fail
  | .extract x n => Tr.of (valOf ss x) fun a => Tr.of (aExtract a n) fun r => .ret (r, ob)
  | .call c => match c.callee with
    | .builtin b => aBuiltin tab id ss ob b c.args c.argTypes
    | _ => .fail
  | _ => .fail

section
variable {P : Program} {E : Fix} {X : Ctx} {tab : TTab}

/-- The operation runs through, and what is known then fits the world then. -/
def Comes1 (P : Program) (E : Fix) (X : Ctx) (s : Sem Next) (r : AV) (ob' : Objs) : Prop :=
  ∃ X' nx val, s.run P X.w = .ok nx X'.w ∧ (nx = .value val ∨ (nx = .skip ∧ val = undef)) ∧ SlotR X' r val ∧ Fits E X' ∧ X'.objs = ob' ∧ Evo X X'
theorem comes_same (F : Fits E X) {s : Sem Value} {r : AV} (h : ∃ val, s.run P X.w = .ok val X.w ∧ SlotR X r val) : Comes1 P E X (do pure (.value (← s))) r X.objs := by
  obtain ⟨val, h1, h2⟩ := h
  exact ⟨X, .value val, val, by simp [h1], .inl rfl, h2, F, rfl, Evo.refl F.ij⟩
theorem comes_new {s : Sem Value} {r : AV} {ob' : Objs} (h : ∃ X' val, s.run P X.w = .ok val X'.w ∧ SlotR X' r val ∧ Fits E X' ∧ X'.objs = ob' ∧ Evo X X') : Comes1 P E X (do pure (.value (← s))) r ob' := by
  obtain ⟨X', val, h1, h2, h3, h4, h5⟩ := h
  exact ⟨X', .value val, val, by simp [h1], .inl rfl, h2, h3, h4, h5⟩

theorem asInt_ok {a : AV} {p : IntKind × Int} (h : asInt? a = some p) {v : Value} (hv : SlotR X a v) : v = .int p.1 p.2 := by
  unfold asInt? at h
  split at h
  · simp only [Option.some.injEq] at h
    subst h
    exact slot_int hv
  · exact absurd h (by simp)
theorem capsOf_ok {ss : List AV} {a : Act} (hs : SlotsR X ss a.tmps) : ∀ {l : List Operand} {os : List Nat}, capsOf ss l = some os → l.map a.eval = os.map (fun o => Value.pointer (some ⟨(X.φ o).blk, 0, none⟩)) ∧ ∀ o, o ∈ os → ∃ T b, X.objs o = some (.box T b) := by
  intro l
  induction l with
  | nil => intro os h; simp only [capsOf, Option.some.injEq] at h; subst h; exact ⟨rfl, fun o ho => absurd ho (by simp)⟩
  | cons x l ih =>
    intro os h
    simp only [capsOf] at h
    split at h
    · rename_i o r hx hr
      simp only [Option.some.injEq] at h
      subst h
      obtain ⟨h1, h2⟩ := ih hr
      have hv := valOf_ok hs hx
      cases ho : X.objs o with
      | none =>
        obtain ⟨_, _, h3⟩ := hv
        simp only [AVR, ho] at h3
      | some obj =>
        cases obj with
        | box T b =>
          obtain ⟨_, hp⟩ := slot_bptr hv ho
          refine ⟨?_, fun o' ho' => ?_⟩
          · simp only [List.map_cons, hp 0 T rfl, h1]
          · rcases List.mem_cons.1 ho' with e | e
            · subst e; exact ⟨T, b, ho⟩
            · exact h2 o' e
        | row v m T xs => obtain ⟨_, _, h3⟩ := hv; simp only [AVR, ho] at h3
        | imm v m T xs => obtain ⟨_, _, h3⟩ := hv; simp only [AVR, ho] at h3
    · exact absurd h (by simp)

theorem sliceSrc_ok (F : Fits E X) {a a' : AV} {ob' : Objs} {v : Value} (hv : SlotR X a v) (h : sliceSrc X.objs a = some (a', ob')) : ∃ X', X'.w = X.w ∧ X'.objs = ob' ∧ Fits E X' ∧ Evo X X' ∧ SlotR X' a' v := by
  unfold sliceSrc at h
  split at h
  · rename_i o w
    split at h
    · rename_i v' m T xs ho
      split at h
      · rename_i hb
        obtain rfl := Nat.eq_of_beq_eq_true hb
        simp only [Option.some.injEq, Prod.mk.injEq] at h
        obtain ⟨rfl, rfl⟩ := h
        obtain ⟨X', h2, h3, h4, h5⟩ := F.freeze ho
        refine ⟨X', h4.w, h2, h3, h4.evo, ?_⟩
        rw [slot_row hv ho]
        refine ⟨?_, ?_, Rep.congr (fun j hj => ?_) h5⟩
        · unfold Loc.sl; split <;> rfl
        · unfold Loc.sl; split <;> rfl
        · obtain rfl : j = 0 := by simp [Ty.sz] at hj; exact hj
          unfold Loc.sl; split <;> rfl
      · exact absurd h (by simp)
    · rename_i v' m T xs ho
      split at h
      · rename_i hb
        obtain rfl := Nat.eq_of_beq_eq_true hb
        simp only [Option.some.injEq, Prod.mk.injEq] at h
        obtain ⟨rfl, rfl⟩ := h
        refine ⟨X, rfl, rfl, F, Evo.refl F.ij, ?_⟩
        rw [slot_imm hv ho]
        refine ⟨?_, ?_, Rep.congr (fun j hj => ?_) (F.objs o _ ho).2⟩
        · unfold Loc.sl; split <;> rfl
        · unfold Loc.sl; split <;> rfl
        · obtain rfl : j = 0 := by simp [Ty.sz] at hj; exact hj
          unfold Loc.sl; split <;> rfl
      · exact absurd h (by simp)
    · exact absurd h (by simp)
  · simp only [Option.some.injEq, Prod.mk.injEq] at h
    obtain ⟨rfl, rfl⟩ := h
    exact ⟨X, rfl, rfl, F, Evo.refl F.ij, hv⟩

theorem optInt_ok {ss : List AV} {a : Act} (hs : SlotsR X ss a.tmps) {x : Option Operand} {r : Option Int} (h : optInt ss x = some r) : ∃ y : Option (IntKind × Int), x.map a.eval = y.map toV ∧ r = y.map snd2 := by
  cases x with
  | none => simp only [optInt, Option.some.injEq] at h; subst h; exact ⟨none, rfl, rfl⟩
  | some x =>
    simp only [optInt] at h
    split at h
    · rename_i m k n hx
      simp only [Option.some.injEq] at h
      subst h
      have := slot_int (valOf_ok hs hx)
      exact ⟨some (k, n), by simp [this, toV], rfl⟩
    · exact absurd h (by simp)

theorem aBuiltin_ok (F : Fits E X) (hT : tab.ok P = true) {id : Nat} {ss : List AV} {a : Act} (hs : SlotsR X ss a.tmps) {b : Builtin} {args : Array Operand} {tys : Array TypeId} {r : AV} {ob' : Objs} (ty : TypeId) (cs : Array Bool)
    (h : (aBuiltin tab id ss X.objs b args tys).run = some (r, ob')) : Comes1 P E X (builtin b tys ty cs (args.map a.eval)) r ob' := by
  unfold aBuiltin at h
  split at h
  · rename_i x t ha ht
    obtain ⟨v, h1, h⟩ := Tr.run_of h
    obtain ⟨n, h2, h⟩ := Tr.run_of h
    have h := Tr.run_ret h
    simp only [Prod.mk.injEq] at h
    obtain ⟨rfl, rfl⟩ := h
    have e1 : args.map a.eval = #[a.eval x] := by rw [← Array.toList_inj]; simp [ha]
    have e2 : tys = #[t] := by rw [← Array.toList_inj]; simp [ht]
    rw [e1, e2]
    exact comes_same F ⟨_, aLen_ok F hT (valOf_ok hs h1) h2, slot_mk_int _ _ _⟩
  · rename_i x y t u ha ht
    replace h := Tr.run_chk h
    obtain ⟨h0, h⟩ := h
    obtain rfl := Nat.eq_of_beq_eq_true h0
    obtain ⟨v, h1, h⟩ := Tr.run_of h
    obtain ⟨w, h2, h⟩ := Tr.run_of h
    have e1 : args.map a.eval = #[a.eval x, a.eval y] := by rw [← Array.toList_inj]; simp [ha]
    have e2 : tys = #[t, t] := by rw [← Array.toList_inj]; simp [ht]
    rw [e1, e2]
    exact comes_new (aAppend_ok F hT (valOf_ok hs h1) (valOf_ok hs h2) h)
  · rename_i x y ha
    obtain ⟨v, h1, h⟩ := Tr.run_of h
    obtain ⟨w, h2, h⟩ := Tr.run_of h
    obtain ⟨q, h3, h⟩ := Tr.run_of h
    have h := Tr.run_ret h
    simp only [Prod.mk.injEq] at h
    obtain ⟨rfl, rfl⟩ := h
    have e1 : args.map a.eval = #[a.eval x, a.eval y] := by rw [← Array.toList_inj]; simp [ha]
    rw [e1]
    unfold aMinMax at h3
    split at h3
    · split at h3
      · rename_i hk
        subst hk
        simp only [Option.some.injEq] at h3
        subst h3
        rw [slot_int (valOf_ok hs h1), slot_int (valOf_ok hs h2)]
        refine comes_same F ⟨_, ?_, slot_mk_int _ _ _⟩
        simp [Builtin.min_, Builtin.min2]
      · exact absurd h3 (by simp)
    · exact absurd h3 (by simp)
  · rename_i x y ha
    obtain ⟨v, h1, h⟩ := Tr.run_of h
    obtain ⟨w, h2, h⟩ := Tr.run_of h
    obtain ⟨q, h3, h⟩ := Tr.run_of h
    have h := Tr.run_ret h
    simp only [Prod.mk.injEq] at h
    obtain ⟨rfl, rfl⟩ := h
    have e1 : args.map a.eval = #[a.eval x, a.eval y] := by rw [← Array.toList_inj]; simp [ha]
    rw [e1]
    unfold aMinMax at h3
    split at h3
    · split at h3
      · rename_i hk
        subst hk
        simp only [Option.some.injEq] at h3
        subst h3
        rw [slot_int (valOf_ok hs h1), slot_int (valOf_ok hs h2)]
        refine comes_same F ⟨_, ?_, slot_mk_int _ _ _⟩
        simp [Builtin.max_, Builtin.max2]
      · exact absurd h3 (by simp)
    · exact absurd h3 (by simp)
  · exact (Tr.run_fail h).elim

theorem aOp_ok (F : Fits E X) (hT : tab.ok P = true) {id : Nat} {o : Oper} {ss : List AV} {a : Act} (hs : SlotsR X ss a.tmps) {r : AV} {ob' : Objs}
    (h : (aOp tab id o.op ss X.objs).run = some (r, ob')) : Comes1 P E X (execOp a.eval o) r ob' := by
  unfold aOp at h
  unfold execOp
  cases ho : o.op with
  | move x =>
    simp only [ho] at h ⊢
    obtain ⟨v, h1, h⟩ := Tr.run_of h
    have h := Tr.run_ret h
    simp only [Prod.mk.injEq] at h
    obtain ⟨rfl, rfl⟩ := h
    exact ⟨X, _, _, rfl, .inl rfl, valOf_ok hs h1, F, rfl, Evo.refl F.ij⟩
  | assign x =>
    simp only [ho] at h ⊢
    obtain ⟨v, h1, h⟩ := Tr.run_of h
    have h := Tr.run_ret h
    simp only [Prod.mk.injEq] at h
    obtain ⟨rfl, rfl⟩ := h
    exact ⟨X, _, _, rfl, .inl rfl, valOf_ok hs h1, F, rfl, Evo.refl F.ij⟩
  | pick c x y =>
    simp only [ho] at h ⊢
    obtain ⟨v, h1, h⟩ := Tr.run_of h
    split at h
    · have hc := slot_bool (valOf_ok hs h1)
      simp only [Tr.run] at h
      split at h
      · rename_i hb
        subst hb
        obtain ⟨v, h1, h⟩ := Tr.run_of h
        have h := Tr.run_ret h
        simp only [Prod.mk.injEq] at h
        obtain ⟨rfl, rfl⟩ := h
        exact ⟨X, .value (a.eval x), _, by simp [hc, asBool], .inl rfl, valOf_ok hs h1, F, rfl, Evo.refl F.ij⟩
      · rename_i hb
        have hb := Bool.eq_false_iff.2 hb
        obtain ⟨v, h1, h⟩ := Tr.run_of h
        have h := Tr.run_ret h
        simp only [Prod.mk.injEq] at h
        obtain ⟨rfl, rfl⟩ := h
        exact ⟨X, .value (a.eval y), _, by simp [hc, hb, asBool], .inl rfl, valOf_ok hs h1, F, rfl, Evo.refl F.ij⟩
    · exact (Tr.run_fail h).elim
  | alloc t =>
    simp only [ho] at h ⊢
    obtain ⟨v, h1, h⟩ := Tr.run_of h
    obtain rfl := Tr.run_ret h
    exact comes_new (aAlloc_ok F hT h1)
  | box t x =>
    simp only [ho] at h ⊢
    obtain ⟨v, h1, h⟩ := Tr.run_of h
    obtain ⟨w, h2, h⟩ := Tr.run_of h
    obtain rfl := Tr.run_ret h
    exact comes_new (aBox_ok F h2 (valOf_ok hs h1))
  | build t ps =>
    simp only [ho] at h ⊢
    obtain ⟨l, h1, h⟩ := Tr.run_of h
    obtain ⟨w, h2, h⟩ := Tr.run_of h
    have h := Tr.run_ret h
    simp only [Prod.mk.injEq] at h
    obtain ⟨rfl, rfl⟩ := h
    exact comes_same F (aBuild_ok F hT (by rw [Array.toList_map]; exact valParts_ok hs h1) h2)
  | buildSlice t n ps =>
    simp only [ho] at h ⊢
    obtain ⟨l, h1, h⟩ := Tr.run_of h
    obtain ⟨w, h2, h⟩ := Tr.run_of h
    obtain rfl := Tr.run_ret h
    exact comes_new (aBuildSlice_ok F hT (by rw [Array.toList_map]; exact valParts_ok hs h1) h2)
  | load t x =>
    simp only [ho] at h ⊢
    obtain ⟨v, h1, h⟩ := Tr.run_of h
    obtain ⟨w, h2, h⟩ := Tr.run_of h
    have h := Tr.run_ret h
    simp only [Prod.mk.injEq] at h
    obtain ⟨rfl, rfl⟩ := h
    exact comes_same F (aLoad_ok F hT (valOf_ok hs h1) h2)
  | store t x y =>
    simp only [ho] at h ⊢
    obtain ⟨v, h1, h⟩ := Tr.run_of h
    obtain ⟨w, h2, h⟩ := Tr.run_of h
    obtain ⟨q, h3, h⟩ := Tr.run_of h
    have h := Tr.run_ret h
    simp only [Prod.mk.injEq] at h
    obtain ⟨rfl, rfl⟩ := h
    obtain ⟨X', g1, g2, g3, g4⟩ := aStore_ok F hT (valOf_ok hs h1) (valOf_ok hs h2) h3
    exact ⟨X', .skip, undef, by simp [g1], .inr ⟨rfl, rfl⟩, trivial, g2, g3, g4⟩
  | nilCheck x =>
    simp only [ho] at h ⊢
    obtain ⟨v, h1, h⟩ := Tr.run_of h
    have hv := valOf_ok hs h1
    split at h
    · rename_i o p
      obtain ⟨hc, h⟩ := Tr.run_chk h
      have h := Tr.run_ret h
      simp only [Prod.mk.injEq] at h
      obtain ⟨rfl, rfl⟩ := h
      have : ∃ ad, a.eval x = .pointer (some ad) := by
        simp only [AV.cur] at hc
        split at hc
        · rename_i T b hob
          cases hat : Ty.at p T with
          | none => simp [hat] at hc
          | some q => obtain ⟨off, T'⟩ := q; exact ⟨_, (slot_bptr hv hob).2 off T' hat⟩
        · simp at hc
      obtain ⟨ad, e⟩ := this
      rw [e] at hv ⊢
      exact ⟨X, .value _, _, rfl, .inl rfl, hv, F, rfl, Evo.refl F.ij⟩
    · have h := Tr.run_ret h
      simp only [Prod.mk.injEq] at h
      obtain ⟨rfl, rfl⟩ := h
      obtain ⟨b, off, e, _⟩ := slot_pp hv
      rw [e] at hv ⊢
      exact ⟨X, .value _, _, rfl, .inl rfl, hv, F, rfl, Evo.refl F.ij⟩
    · rename_i o v i p
      obtain ⟨hc, h⟩ := Tr.run_chk h
      have h := Tr.run_ret h
      simp only [Prod.mk.injEq] at h
      obtain ⟨rfl, rfl⟩ := h
      have : ∃ ad, a.eval x = .pointer (some ad) := by
        simp only [AV.cur] at hc
        split at hc
        · rename_i v' m T xs hob
          rw [Bool.and_eq_true] at hc
          obtain rfl := Nat.eq_of_beq_eq_true hc.1
          cases hat : Ty.at p T with
          | none => simp [hat] at hc
          | some q => obtain ⟨off, T'⟩ := q; exact ⟨_, (slot_rptr hv hob).2.2 off T' hat⟩
        · simp at hc
      obtain ⟨ad, e⟩ := this
      rw [e] at hv ⊢
      exact ⟨X, .value _, _, rfl, .inl rfl, hv, F, rfl, Evo.refl F.ij⟩
    · exact (Tr.run_fail h).elim
  | binOp op xt x y yt =>
    simp only [ho] at h ⊢
    obtain ⟨v, h1, h⟩ := Tr.run_of h
    obtain ⟨w, h2, h⟩ := Tr.run_of h
    rw [Tr.run_bind] at h
    obtain ⟨q, h3, h⟩ := Option.bind_eq_some_iff.1 h
    have h := Tr.run_ret h
    simp only [Prod.mk.injEq] at h
    obtain ⟨rfl, rfl⟩ := h
    exact comes_same F (binV_ok hT h3 (valOf_ok hs h1) (valOf_ok hs h2) x y)
  | unOp op xt x =>
    simp only [ho] at h ⊢
    obtain ⟨v, h1, h⟩ := Tr.run_of h
    rw [Tr.run_bind] at h
    obtain ⟨q, h3, h⟩ := Option.bind_eq_some_iff.1 h
    have h := Tr.run_ret h
    simp only [Prod.mk.injEq] at h
    obtain ⟨rfl, rfl⟩ := h
    exact comes_same F (unV_ok h3 (valOf_ok hs h1))
  | convert s d x =>
    simp only [ho] at h ⊢
    obtain ⟨v, h1, h⟩ := Tr.run_of h
    rw [Tr.run_bind] at h
    obtain ⟨q, h3, h⟩ := Option.bind_eq_some_iff.1 h
    have h := Tr.run_ret h
    simp only [Prod.mk.injEq] at h
    obtain ⟨rfl, rfl⟩ := h
    exact comes_same F (convV_ok hT h3 (valOf_ok hs h1))
  | makeFunc fn first caps =>
    cases fn with
    | func f =>
      simp only [ho] at h ⊢
      obtain ⟨h0, h⟩ := Tr.run_chk h
      obtain ⟨os, h1, h⟩ := Tr.run_of h
      have h := Tr.run_ret h
      simp only [Prod.mk.injEq] at h
      obtain ⟨rfl, rfl⟩ := h
      obtain ⟨e1, e2⟩ := capsOf_ok hs h1
      have e3 : first = #[] := by rw [← Array.toList_inj]; simpa using h0
      refine comes_same F ⟨_, rfl, rfl, rfl, ?_, e2⟩
      subst e3
      have e4 : caps.map a.eval = (os.map fun o => Value.pointer (some ⟨(X.φ o).blk, 0, none⟩)).toArray := by
        rw [← Array.toList_inj, Array.toList_map, e1]
      rw [e4, Array.map_empty]
      rfl
    | _ => simp only [ho] at h; exact (Tr.run_fail h).elim
  | makeSlice t l c =>
    simp only [ho] at h ⊢
    obtain ⟨p, h1, h⟩ := Tr.run_of h
    obtain ⟨q, h2, h⟩ := Tr.run_of h
    obtain ⟨u, h3, h4⟩ := Option.bind_eq_some_iff.1 h1
    obtain ⟨w, h5, h6⟩ := Option.bind_eq_some_iff.1 h2
    rw [asInt_ok h4 (valOf_ok hs h3), asInt_ok h6 (valOf_ok hs h5)]
    exact comes_new (aMake_ok F hT h)
  | slice t x lo hi mx =>
    cases mx with
    | none =>
      simp only [ho] at h ⊢
      obtain ⟨v, h1, h⟩ := Tr.run_of h
      obtain ⟨l, h2, h⟩ := Tr.run_of h
      obtain ⟨g, h3, h⟩ := Tr.run_of h
      obtain ⟨p, h4, h⟩ := Tr.run_of h
      rw [Tr.run_bind] at h
      obtain ⟨q, h5, h⟩ := Option.bind_eq_some_iff.1 h
      have h := Tr.run_ret h
      simp only [Prod.mk.injEq] at h
      obtain ⟨rfl, rfl⟩ := h
      obtain ⟨y1, e1, rfl⟩ := optInt_ok hs h2
      obtain ⟨y2, e2, rfl⟩ := optInt_ok hs h3
      obtain ⟨X', w1, o1, F1, ev, sl⟩ := sliceSrc_ok F (valOf_ok hs h1) (a' := p.1) (ob' := p.2) h4
      obtain ⟨val, g1, g2⟩ := aSlice_ok hT sl h5
      rw [e1, e2]
      rw [w1] at g1
      refine comes_new ⟨X', val, by rw [w1]; exact g1, g2, F1, o1, ev⟩
    | some m => simp only [ho] at h; exact (Tr.run_fail h).elim
  | fieldAddr s x j =>
    simp only [ho] at h ⊢
    obtain ⟨v, h1, h⟩ := Tr.run_of h
    obtain ⟨w, h2, h⟩ := Tr.run_of h
    have h := Tr.run_ret h
    simp only [Prod.mk.injEq] at h
    obtain ⟨rfl, rfl⟩ := h
    exact comes_same F (aFieldAddr_ok F hT (valOf_ok hs h1) h2)
  | field s x j =>
    simp only [ho] at h ⊢
    obtain ⟨v, h1, h⟩ := Tr.run_of h
    obtain ⟨w, h2, h⟩ := Tr.run_of h
    have h := Tr.run_ret h
    simp only [Prod.mk.injEq] at h
    obtain ⟨rfl, rfl⟩ := h
    exact comes_same F (aField_ok hT (valOf_ok hs h1) h2)
  | indexAddr t x i =>
    simp only [ho] at h ⊢
    obtain ⟨v, h1, h⟩ := Tr.run_of h
    obtain ⟨n, h2, h⟩ := Tr.run_of h
    obtain ⟨p, h3, h⟩ := Tr.run_of h
    obtain ⟨h4, h⟩ := Tr.run_grd h
    obtain ⟨h5, h⟩ := Tr.run_grd h
    have h := Tr.run_ret h
    simp only [Prod.mk.injEq] at h
    obtain ⟨rfl, rfl⟩ := h
    obtain ⟨u, h6, h7⟩ := Option.bind_eq_some_iff.1 h2
    rw [asInt_ok h7 (valOf_ok hs h6)]
    exact comes_same F (aElem_ok F hT (valOf_ok hs h1) (n := p.1) (f := p.2) h3 (of_decide_eq_true h4) (of_decide_eq_true h5))
  | index t x i =>
    simp only [ho] at h ⊢
    obtain ⟨v, h1, h⟩ := Tr.run_of h
    split at h
    · obtain ⟨n, h2, h⟩ := Tr.run_of h
      obtain ⟨p, h3, h⟩ := Tr.run_of h
      split at h
      · obtain ⟨h4, h⟩ := Tr.run_grd h
        obtain ⟨h5, h⟩ := Tr.run_grd h
        have h := Tr.run_ret h
        simp only [Prod.mk.injEq] at h
        obtain ⟨rfl, rfl⟩ := h
        obtain ⟨u, h6, h7⟩ := Option.bind_eq_some_iff.1 h2
        rw [asInt_ok h7 (valOf_ok hs h6), slot_str (valOf_ok hs h1)]
        exact comes_same F ⟨_, run_index_str (TB_str (TTab.find_ok hT h3).1) (of_decide_eq_true h4) (of_decide_eq_true h5) _, slot_mk_int _ _ _⟩
      · exact (Tr.run_fail h).elim
    · exact (Tr.run_fail h).elim
  | extract x n =>
    simp only [ho] at h ⊢
    obtain ⟨v, h1, h⟩ := Tr.run_of h
    obtain ⟨w, h2, h⟩ := Tr.run_of h
    have h := Tr.run_ret h
    simp only [Prod.mk.injEq] at h
    obtain ⟨rfl, rfl⟩ := h
    exact comes_same F (aExtract_ok (valOf_ok hs h1) h2)
  | call c =>
    simp only [ho] at h ⊢
    split at h
    · rename_i b hb
      have := aBuiltin_ok F hT hs o.type (c.args.map fun | .const _ => true | _ => false) h
      obtain ⟨X', nx, val, g1, g2⟩ := this
      refine ⟨X', nx, val, ?_, g2⟩
      simp only [resolve, hb, Sem.run_bind, Sem.run_pure, Result.andThen_ok, invoke]
      exact g1
    · exact (Tr.run_fail h).elim
  | _ => simp only [ho] at h; exact (Tr.run_fail h).elim
end
end Go.Proofs.Ytmggpiijahiaiaa.Ev
