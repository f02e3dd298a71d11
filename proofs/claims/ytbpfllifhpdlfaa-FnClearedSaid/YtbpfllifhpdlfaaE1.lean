/- Types of data, what a value of such a type is in memory, and that it stays so while the blocks it lies in stay. -/
import Derived.Calls
import Derived.KernelRfl
namespace Go.Proofs.Ytbpfllifhpdlfaa.Ev
open Go
set_option linter.unusedVariables false
set_option linter.unusedSimpArgs false

/-- The types of plain data. 'pair' and 'unit' make up a struct, field by field; 'opq' is one cell of which nothing is told. -/
inductive Ty where
  | int (k : IntKind)
  | bool
  | str
  | unit
  | pair (a b : Ty)
  | slice (e : Ty)
  | arr (n : Nat) (e : Ty)
  | opq
  deriving DecidableEq, Inhabited

/-- The values of a type, as plain Lean has them. -/
@[reducible] def Ty.D : Ty → Type
  | .int _ => Int
  | .bool => Bool
  | .str => ByteArray
  | .unit => Unit
  | .pair a b => a.D × b.D
  | .slice e => List e.D
  | .arr _ e => List e.D
  | .opq => Unit

def Ty.zero : (T : Ty) → T.D
  | .int _ => (0 : Int)
  | .bool => false
  | .str => ByteArray.empty
  | .unit => ()
  | .pair a b => (a.zero, b.zero)
  | .slice _ => []
  | .arr n e => List.replicate n e.zero
  | .opq => ()

/-- How many cells. -/
def Ty.sz : Ty → Nat
  | .unit => 0
  | .pair a b => a.sz + b.sz
  | .arr n e => n * e.sz
  | _ => 1

/-- Is a value of it a row of cells ('.agg')? -/
def Ty.isAgg : Ty → Bool
  | .unit => true
  | .pair _ _ => true
  | .arr _ _ => true
  | _ => false

/-- Does it lead to no other memory? -/
def Ty.flat : Ty → Bool
  | .slice _ => false
  | .pair a b => a.flat && b.flat
  | .arr _ e => e.flat
  | _ => true

abbrev Cs := Nat → Option Value
abbrev Bs := Nat → Prop
/-- The cells of memory from a place on. -/
def mem (w : World) (b off : Nat) : Cs := fun j => w.cell? ⟨b, off + j, none⟩
def shift (c : Cs) (n : Nat) : Cs := fun j => c (n + j)

/-- A value that one cell can hold. -/
def okCell : Value → Prop
  | .agg _ => False
  | .tuple _ => False
  | _ => True

/-- The cells c tell the value x; what it leads to lies in blocks of I. -/
def Rep (w : World) (I : Bs) : (T : Ty) → T.D → Cs → Prop
  | .int k, x, c => c 0 = some (.int k x)
  | .bool, x, c => c 0 = some (.bool x)
  | .str, x, c => c 0 = some (.string x)
  | .unit, _, _ => True
  | .pair a b, x, c => Rep w I a x.1 c ∧ Rep w I b x.2 (shift c a.sz)
  | .slice e, xs, c => ∃ (ad : Option Addr) (cap : Nat), c 0 = some (.slice ad xs.length cap) ∧ xs.length ≤ cap ∧
      (0 < xs.length → ∃ b off, ad = some ⟨b, off, none⟩ ∧ I b ∧ ∀ i (h : i < xs.length), Rep w I e xs[i] (mem w b (off + i * e.sz)))
  | .arr n e, xs, c => xs.length = n ∧ ∀ i (h : i < xs.length), Rep w I e xs[i] (shift c (i * e.sz))
  | .opq, _, c => ∃ v, c 0 = some v ∧ okCell v

theorem shift_zero (c : Cs) : shift c 0 = c := by funext j; simp [shift]
theorem shift_shift (c : Cs) (m n : Nat) : shift (shift c m) n = shift c (m + n) := by funext j; simp [shift, Nat.add_assoc]
theorem mem_shift (w : World) (b off n : Nat) : shift (mem w b off) n = mem w b (off + n) := by funext j; simp [shift, mem, Nat.add_assoc]

/-- Blocks that are the same in both worlds. -/
def Agree (D : Bs) (w w' : World) : Prop := ∀ b, D b → w'.heap[b]? = w.heap[b]?
theorem Agree.refl (D : Bs) (w : World) : Agree D w w := fun _ _ => rfl
theorem Agree.trans {D : Bs} {a b c : World} (h : Agree D a b) (k : Agree D b c) : Agree D a c := fun x hx => (k x hx).trans (h x hx)
theorem Agree.mono {D D' : Bs} {a b : World} (h : Agree D a b) (k : ∀ x, D' x → D x) : Agree D' a b := fun x hx => h x (k x hx)
theorem cell_of_block {w w' : World} {b : Nat} (h : w'.heap[b]? = w.heap[b]?) (off : Nat) (s : Option Nat) : w'.cell? ⟨b, off, s⟩ = w.cell? ⟨b, off, s⟩ := by
  simp only [World.cell?, h]
theorem mem_of_block {w w' : World} {b : Nat} (h : w'.heap[b]? = w.heap[b]?) (off : Nat) : mem w' b off = mem w b off := by
  funext j; exact cell_of_block h _ _

theorem Rep.congr {w : World} {I : Bs} : ∀ {T : Ty} {x : T.D} {c c' : Cs}, (∀ j, j < T.sz → c' j = c j) → Rep w I T x c → Rep w I T x c' := by
  intro T
  induction T with
  | int k => intro x c c' h r; simp only [Rep] at r ⊢; rw [h 0 (by simp [Ty.sz])]; exact r
  | bool => intro x c c' h r; simp only [Rep] at r ⊢; rw [h 0 (by simp [Ty.sz])]; exact r
  | str => intro x c c' h r; simp only [Rep] at r ⊢; rw [h 0 (by simp [Ty.sz])]; exact r
  | unit => intro x c c' h r; simp only [Rep]
  | opq => intro x c c' h r; simp only [Rep] at r ⊢; rw [h 0 (by simp [Ty.sz])]; exact r
  | pair a b iha ihb =>
    intro x c c' h r
    simp only [Rep] at r ⊢
    exact ⟨iha (fun j hj => h j (by simp only [Ty.sz]; omega)) r.1, ihb (fun j hj => h _ (by simp only [Ty.sz]; omega)) r.2⟩
  | slice e ih => intro x c c' h r; simp only [Rep] at r ⊢; rw [h 0 (by simp [Ty.sz])]; exact r
  | arr n e ih =>
    intro x c c' h r
    simp only [Rep] at r ⊢
    obtain ⟨hl, r⟩ := r
    refine ⟨hl, fun i hi => ih (fun j hj => h _ ?_) (r i hi)⟩
    have h1 : (i + 1) * e.sz ≤ n * e.sz := Nat.mul_le_mul_right _ (by omega)
    rw [Nat.succ_mul] at h1
    show i * e.sz + j < n * e.sz
    omega

theorem Rep.frame {w w' : World} {I : Bs} (ha : Agree I w w') : ∀ {T : Ty} {x : T.D} {c : Cs}, Rep w I T x c → Rep w' I T x c := by
  intro T
  induction T with
  | int k => intro x c r; exact r
  | bool => intro x c r; exact r
  | str => intro x c r; exact r
  | unit => intro x c r; exact r
  | opq => intro x c r; exact r
  | pair a b iha ihb => intro x c r; exact ⟨iha r.1, ihb r.2⟩
  | slice e ih =>
    intro x c r
    obtain ⟨ad, cap, h1, h2, h3⟩ := r
    refine ⟨ad, cap, h1, h2, fun hp => ?_⟩
    obtain ⟨b, off, e1, hb, hr⟩ := h3 hp
    refine ⟨b, off, e1, hb, fun i hi => ?_⟩
    rw [mem_of_block (ha b hb)]
    exact ih (hr i hi)
  | arr n e ih => intro x c r; exact ⟨r.1, fun i hi => ih (r.2 i hi)⟩

theorem Rep.mono {w : World} {I J : Bs} (hij : ∀ b, I b → J b) : ∀ {T : Ty} {x : T.D} {c : Cs}, Rep w I T x c → Rep w J T x c := by
  intro T
  induction T with
  | int k => intro x c r; exact r
  | bool => intro x c r; exact r
  | str => intro x c r; exact r
  | unit => intro x c r; exact r
  | opq => intro x c r; exact r
  | pair a b iha ihb => intro x c r; exact ⟨iha r.1, ihb r.2⟩
  | slice e ih =>
    intro x c r
    obtain ⟨ad, cap, h1, h2, h3⟩ := r
    refine ⟨ad, cap, h1, h2, fun hp => ?_⟩
    obtain ⟨b, off, e1, hb, hr⟩ := h3 hp
    exact ⟨b, off, e1, hij b hb, fun i hi => ih (hr i hi)⟩
  | arr n e ih => intro x c r; exact ⟨r.1, fun i hi => ih (r.2 i hi)⟩

/-- What leads nowhere is told in any world, over any blocks. -/
theorem Rep.flat {w w' : World} {I J : Bs} : ∀ {T : Ty} {x : T.D} {c : Cs}, T.flat = true → Rep w I T x c → Rep w' J T x c := by
  intro T
  induction T with
  | int k => intro x c _ r; exact r
  | bool => intro x c _ r; exact r
  | str => intro x c _ r; exact r
  | unit => intro x c _ r; exact r
  | opq => intro x c _ r; exact r
  | pair a b iha ihb =>
    intro x c f r
    simp only [Ty.flat, Bool.and_eq_true] at f
    exact ⟨iha f.1 r.1, ihb f.2 r.2⟩
  | slice e ih => intro x c f r; simp [Ty.flat] at f
  | arr n e ih => intro x c f r; exact ⟨r.1, fun i hi => ih f (r.2 i hi)⟩

/-- Each cell is there, and one that can be stored. -/
theorem Rep.cells {w : World} {I : Bs} : ∀ {T : Ty} {x : T.D} {c : Cs}, Rep w I T x c → ∀ j, j < T.sz → ∃ v, c j = some v ∧ okCell v := by
  intro T
  induction T with
  | int k => intro x c r j hj; obtain rfl : j = 0 := by simp [Ty.sz] at hj; exact hj
             exact ⟨_, r, trivial⟩
  | bool => intro x c r j hj; obtain rfl : j = 0 := by simp [Ty.sz] at hj; exact hj
            exact ⟨_, r, trivial⟩
  | str => intro x c r j hj; obtain rfl : j = 0 := by simp [Ty.sz] at hj; exact hj
           exact ⟨_, r, trivial⟩
  | unit => intro x c r j hj; simp [Ty.sz] at hj
  | opq => intro x c r j hj; obtain rfl : j = 0 := by simp [Ty.sz] at hj; exact hj
           exact r
  | pair a b iha ihb =>
    intro x c r j hj
    by_cases h : j < a.sz
    · exact iha r.1 j h
    · obtain ⟨v, hv, ok⟩ := ihb r.2 (j - a.sz) (by simp only [Ty.sz] at hj; omega)
      refine ⟨v, ?_, ok⟩
      have : a.sz + (j - a.sz) = j := by omega
      rw [shift, this] at hv
      exact hv
  | slice e ih =>
    intro x c r j hj
    obtain rfl : j = 0 := by simp [Ty.sz] at hj; exact hj
    obtain ⟨ad, cap, h1, _⟩ := r
    exact ⟨_, h1, trivial⟩
  | arr n e ih =>
    intro x c r j hj
    obtain ⟨hl, r⟩ := r
    simp only [Ty.sz] at hj
    have he : 0 < e.sz := by
      rcases Nat.eq_zero_or_pos e.sz with h | h
      · rw [h] at hj; simp at hj
      · exact h
    have hi : j / e.sz < x.length := by rw [hl]; exact (Nat.div_lt_iff_lt_mul he).2 hj
    obtain ⟨v, hv, ok⟩ := ih (r (j / e.sz) hi) (j % e.sz) (Nat.mod_lt _ he)
    refine ⟨v, ?_, ok⟩
    have : j / e.sz * e.sz + j % e.sz = j := by rw [Nat.mul_comm]; exact Nat.div_add_mod j e.sz
    rw [shift, this] at hv
    exact hv

def Value.isAgg : Value → Bool
  | .agg _ => true
  | _ => false
/-- The cells of a value. -/
def cv (v : Value) : Cs := fun j => v.cells[j]?
end Go.Proofs.Ytbpfllifhpdlfaa.Ev
