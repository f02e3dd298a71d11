/- A program's types, told as types of data: a table that is checked by running. -/
import Derived.Test.YtbpfllifhpdlfaaE3
import Derived.Laws.CopyRow
import Derived.Laws.Append
import Derived.Laws.AppendOwn
import Derived.Laws.IdiomCopy
import Derived.Laws.Cells
namespace Go.Proofs.Ytbpfllifhpdlfaa.Ev
open Go
set_option linter.unusedVariables false
set_option linter.unusedSimpArgs false

def plainCell : Value → Bool
  | .agg _ => false
  | .tuple _ => false
  | _ => true
theorem okCell_of_plain {v : Value} (h : plainCell v = true) : okCell v := by
  cases v <;> first | exact trivial | simp [plainCell] at h
theorem oneCell_of_ok {v : Value} (h : okCell v) : v.oneCell' = true := by
  cases v <;> first | rfl | exact h.elim
/-- Do these cells tell the type's zero value? -/
def ZB : Ty → Cs → Bool
  | .int k, c => match c 0 with
    | some (.int k' n) => decide (k' = k) && decide (n = 0)
    | _ => false
  | .bool, c => match c 0 with
    | some (.bool b) => !b
    | _ => false
  | .str, c => match c 0 with
    | some (.string s) => s.data.isEmpty
    | _ => false
  | .unit, _ => true
  | .pair a b, c => ZB a c && ZB b (shift c a.sz)
  | .slice _, c => match c 0 with
    | some (.slice none 0 0) => true
    | _ => false
  | .arr n e, c => (List.range n).all fun i => ZB e (shift c (i * e.sz))
  | .opq, c => match c 0 with
    | some v => plainCell v
    | _ => false
theorem ZB_ok {w : World} {I : Bs} : ∀ {T : Ty} {c : Cs}, ZB T c = true → Rep w I T T.zero c := by
  intro T
  induction T with
  | int k =>
    intro c h
    simp only [ZB] at h
    split at h
    · rename_i k' n hc
      simp only [Bool.and_eq_true, decide_eq_true_eq] at h
      obtain ⟨rfl, rfl⟩ := h
      exact hc
    · simp at h
  | bool =>
    intro c h
    simp only [ZB] at h
    split at h
    · rename_i b hc
      have : b = false := by simpa using h
      subst this
      exact hc
    · simp at h
  | str =>
    intro c h
    simp only [ZB] at h
    split at h
    · rename_i s hc
      have : s = ByteArray.empty := by
        have h' : s.data = #[] := by simpa using h
        obtain ⟨d⟩ := s
        simp only at h'
        subst h'
        rfl
      subst this
      exact hc
    · simp at h
  | unit => intro c h; trivial
  | pair a b iha ihb =>
    intro c h
    simp only [ZB, Bool.and_eq_true] at h
    exact ⟨iha h.1, ihb h.2⟩
  | slice e ih =>
    intro c h
    simp only [ZB] at h
    split at h
    · rename_i hc
      exact ⟨none, 0, hc, Nat.le_refl _, fun hp => absurd hp (by simp [Ty.zero])⟩
    · simp at h
  | arr n e ih =>
    intro c h
    simp only [ZB, List.all_eq_true, List.mem_range] at h
    refine ⟨by simp [Ty.zero], fun i hi => ?_⟩
    simp only [Ty.zero, List.length_replicate] at hi
    simp only [Ty.zero, List.getElem_replicate]
    exact ih (h i hi)
  | opq =>
    intro c h
    simp only [ZB] at h
    split at h
    · rename_i v hc
      exact ⟨v, hc, okCell_of_plain h⟩
    · simp at h

/-- Is what is known of it still what it is? -/
def AV.cur (s : Objs) : AV → Bool
  | .row o v => match s o with
    | some (.row v' _ _ _) => Nat.beq v v'
    | some (.imm v' _ _ _) => Nat.beq v v'
    | _ => false
  | .rptr o v _ p => match s o with
    | some (.row v' _ T _) => Nat.beq v v' && (Ty.at p T).isSome
    | _ => false
  | .bptr o p => match s o with
    | some (.box T _) => (Ty.at p T).isSome
    | _ => false
  | .pair a b => a.cur s && b.cur s
  | _ => true

/-- The zero value, part by part: a slice in it is nil. -/
def zeroAV : Ty → AV
  | .pair a b => .pair (zeroAV a) (zeroAV b)
  | .unit => .unit
  | .slice _ => .nilv
  | T => .pv false T T.zero
theorem zeroAV_fits : ∀ (T : Ty), (zeroAV T).fits T = true := by
  intro T
  induction T with
  | pair a b iha ihb => simp [zeroAV, AV.fits, iha, ihb]
  | _ => simp [zeroAV, AV.fits]
theorem zeroAV_cur (s : Objs) : ∀ (T : Ty), (zeroAV T).cur s = true := by
  intro T
  induction T with
  | pair a b iha ihb => simp [zeroAV, AV.cur, iha, ihb]
  | _ => rfl
theorem zeroAV_ok {X : Ctx} : ∀ {T : Ty} {c : Cs}, ZB T c = true → AVR X (zeroAV T) c := by
  intro T
  induction T with
  | pair a b iha ihb =>
    intro c h
    simp only [ZB, Bool.and_eq_true] at h
    refine ⟨iha h.1, ?_⟩
    rw [AV.fits_sz (zeroAV_fits a)]
    exact ihb h.2
  | unit => intro c h; trivial
  | slice e ih =>
    intro c h
    simp only [ZB] at h
    split at h
    · assumption
    · simp at h
  | int k => intro c h; exact ZB_ok (T := .int k) h
  | bool => intro c h; exact ZB_ok (T := .bool) h
  | str => intro c h; exact ZB_ok (T := .str) h
  | arr n e ih => intro c h; exact ZB_ok (T := .arr n e) h
  | opq => intro c h; exact ZB_ok (T := .opq) h

def aggDesc : TypeDesc → Bool
  | .struct _ => true
  | .array _ _ => true
  | _ => false
/-- Size and zero value are as the type of data says. -/
def baseB (P : Program) (T : Ty) (t : TypeId) : Bool :=
  match P.info? t with
  | some i => decide (i.size = T.sz) && match i.zero with
    | some z => ZB T (cv z) && decide (z.cells.size = T.sz) && (Value.isAgg z == T.isAgg)
    | none => false
  | none => false
def descB (P : Program) (t : TypeId) (f : TypeDesc → Bool) : Bool :=
  match P.underlying t with
  | some d => f d
  | none => false
def isInt (k : IntKind) : TypeDesc → Bool
  | .int k' => decide (k' = k)
  | _ => false
def isBoolD : TypeDesc → Bool
  | .bool => true
  | _ => false
def isStrD : TypeDesc → Bool
  | .string => true
  | _ => false
/-- Is the program's type t this type of data? And a struct's fields, from an offset on. -/
def TB (P : Program) : Ty → (TypeId → Bool) × (Nat → List Field → Bool)
  | .int k => (fun t => baseB P (.int k) t && descB P t (isInt k), fun _ _ => false)
  | .bool => (fun t => baseB P .bool t && descB P t isBoolD, fun _ _ => false)
  | .str => (fun t => baseB P .str t && descB P t isStrD, fun _ _ => false)
  | .opq => (fun t => baseB P .opq t && descB P t (fun d => !aggDesc d), fun _ _ => false)
  | .slice e => (fun t => baseB P (.slice e) t && descB P t (fun | .slice te => (TB P e).1 te | _ => false), fun _ _ => false)
  | .arr n e => (fun t => baseB P (.arr n e) t && descB P t (fun | .array n' te => decide (n' = n) && (TB P e).1 te | _ => false), fun _ _ => false)
  | .unit => (fun t => baseB P .unit t && descB P t (fun | .struct fs => fs.toList.isEmpty | _ => false), fun _ fs => fs.isEmpty)
  | .pair a b =>
    let fl : Nat → List Field → Bool := fun off fs => match fs with
      | f :: r => decide (f.offset = off) && (TB P a).1 f.type && (TB P b).2 (off + a.sz) r
      | [] => false
    (fun t => baseB P (.pair a b) t && descB P t (fun | .struct fs => fl 0 fs.toList | _ => false), fl)

theorem TB_base {P : Program} {T : Ty} {t : TypeId} (h : (TB P T).1 t = true) : baseB P T t = true := by
  cases T <;> simp only [TB, Bool.and_eq_true] at h <;> exact h.1
structure TInfo (P : Program) (T : Ty) (t : TypeId) (i : TypeInfo) (z : Value) : Prop where
  info : P.info? t = some i
  size : i.size = T.sz
  zero : i.zero = some z
  zsize : z.cells.size = T.sz
  zagg : Value.isAgg z = T.isAgg
  zrep : ∀ w I, Rep w I T T.zero (cv z)
  zav : ∀ X, AVR X (zeroAV T) (cv z)
theorem TB_info {P : Program} {T : Ty} {t : TypeId} (h : (TB P T).1 t = true) : ∃ i z, TInfo P T t i z := by
  have h := TB_base h
  unfold baseB at h
  split at h
  · rename_i i hi
    simp only [Bool.and_eq_true, decide_eq_true_eq] at h
    obtain ⟨h1, h2⟩ := h
    split at h2
    · rename_i z hz
      simp only [Bool.and_eq_true, decide_eq_true_eq, beq_iff_eq] at h2
      exact ⟨i, z, hi, h1, hz, h2.1.2, h2.2, fun w I => ZB_ok h2.1.1, fun X => zeroAV_ok h2.1.1⟩
    · simp at h2
  · simp at h
theorem descB_ok {P : Program} {t : TypeId} {f : TypeDesc → Bool} (h : descB P t f = true) : ∃ d, P.underlying t = some d ∧ f d = true := by
  unfold descB at h
  split at h
  · rename_i d hd; exact ⟨d, hd, h⟩
  · simp at h
theorem TB_agg {P : Program} {T : Ty} {t : TypeId} (h : (TB P T).1 t = true) : ∃ d, P.underlying t = some d ∧ aggDesc d = T.isAgg := by
  cases T with
  | int k =>
    simp only [TB, Bool.and_eq_true] at h
    obtain ⟨d, hd, hf⟩ := descB_ok h.2
    refine ⟨d, hd, ?_⟩
    cases d <;> simp [isInt] at hf <;> rfl
  | bool =>
    simp only [TB, Bool.and_eq_true] at h
    obtain ⟨d, hd, hf⟩ := descB_ok h.2
    refine ⟨d, hd, ?_⟩
    cases d <;> simp [isBoolD] at hf <;> rfl
  | str =>
    simp only [TB, Bool.and_eq_true] at h
    obtain ⟨d, hd, hf⟩ := descB_ok h.2
    refine ⟨d, hd, ?_⟩
    cases d <;> simp [isStrD] at hf <;> rfl
  | opq =>
    simp only [TB, Bool.and_eq_true] at h
    obtain ⟨d, hd, hf⟩ := descB_ok h.2
    refine ⟨d, hd, ?_⟩
    simpa [Ty.isAgg] using hf
  | slice e =>
    simp only [TB, Bool.and_eq_true] at h
    obtain ⟨d, hd, hf⟩ := descB_ok h.2
    refine ⟨d, hd, ?_⟩
    cases d <;> first | rfl | simp at hf
  | arr n e =>
    simp only [TB, Bool.and_eq_true] at h
    obtain ⟨d, hd, hf⟩ := descB_ok h.2
    refine ⟨d, hd, ?_⟩
    cases d <;> first | rfl | simp at hf
  | unit =>
    simp only [TB, Bool.and_eq_true] at h
    obtain ⟨d, hd, hf⟩ := descB_ok h.2
    refine ⟨d, hd, ?_⟩
    cases d <;> first | rfl | simp at hf
  | pair a b =>
    simp only [TB, Bool.and_eq_true] at h
    obtain ⟨d, hd, hf⟩ := descB_ok h.2
    refine ⟨d, hd, ?_⟩
    cases d <;> first | rfl | simp at hf
theorem TB_slice {P : Program} {e : Ty} {t : TypeId} (h : (TB P (.slice e)).1 t = true) : ∃ te, P.underlying t = some (.slice te) ∧ (TB P e).1 te = true := by
  simp only [TB, Bool.and_eq_true] at h
  obtain ⟨d, hd, hf⟩ := descB_ok h.2
  cases d <;> first | exact ⟨_, hd, hf⟩ | simp at hf
theorem TB_arr {P : Program} {n : Nat} {e : Ty} {t : TypeId} (h : (TB P (.arr n e)).1 t = true) : ∃ te, P.underlying t = some (.array n te) ∧ (TB P e).1 te = true := by
  simp only [TB, Bool.and_eq_true] at h
  obtain ⟨d, hd, hf⟩ := descB_ok h.2
  cases d with
  | array n' te =>
    simp only [Bool.and_eq_true, decide_eq_true_eq] at hf
    obtain ⟨rfl, hf⟩ := hf
    exact ⟨te, hd, hf⟩
  | _ => simp at hf
theorem TB_int {P : Program} {k : IntKind} {t : TypeId} (h : (TB P (.int k)).1 t = true) : P.underlying t = some (.int k) := by
  simp only [TB, Bool.and_eq_true] at h
  obtain ⟨d, hd, hf⟩ := descB_ok h.2
  cases d <;> simp [isInt] at hf
  subst hf
  exact hd
theorem TB_str {P : Program} {t : TypeId} (h : (TB P .str).1 t = true) : P.underlying t = some .string := by
  simp only [TB, Bool.and_eq_true] at h
  obtain ⟨d, hd, hf⟩ := descB_ok h.2
  cases d <;> simp [isStrD] at hf
  exact hd

/-- The path to field j. -/
def fldPath : Nat → List Step
  | 0 => [.fst]
  | j + 1 => .snd :: fldPath j
theorem fields_at {P : Program} : ∀ {j : Nat} {T Tj : Ty} {off0 off : Nat} {fs : List Field}, (TB P T).2 off0 fs = true → Ty.at (fldPath j) T = some (off, Tj) → ∃ f, fs[j]? = some f ∧ f.offset = off0 + off ∧ (TB P Tj).1 f.type = true := by
  intro j
  induction j with
  | zero =>
    intro T Tj off0 off fs h g
    cases T with
    | pair a b =>
      simp only [fldPath, Ty.at, Option.some.injEq, Prod.mk.injEq] at g
      obtain ⟨rfl, rfl⟩ := g
      cases fs with
      | nil => simp [TB] at h
      | cons f r =>
        simp only [TB, Bool.and_eq_true, decide_eq_true_eq] at h
        exact ⟨f, rfl, by simpa using h.1.1, h.1.2⟩
    | _ => simp [fldPath, Ty.at] at g
  | succ j ih =>
    intro T Tj off0 off fs h g
    cases T with
    | pair a b =>
      simp only [fldPath, Ty.at] at g
      cases fs with
      | nil => simp [TB] at h
      | cons f r =>
        simp only [TB, Bool.and_eq_true, decide_eq_true_eq] at h
        cases hb : Ty.at (fldPath j) b with
        | none => simp [hb] at g
        | some q =>
          obtain ⟨o1, t1⟩ := q
          simp only [hb, Option.some.injEq, Prod.mk.injEq] at g
          obtain ⟨rfl, rfl⟩ := g
          obtain ⟨f', h1, h2, h3⟩ := ih h.2 hb
          exact ⟨f', by simpa using h1, by omega, h3⟩
    | _ => simp [fldPath, Ty.at] at g
theorem TB_struct {P : Program} {T : Ty} {t : TypeId} (h : (TB P T).1 t = true) {j off : Nat} {Tj : Ty} (g : Ty.at (fldPath j) T = some (off, Tj)) : ∃ fs, P.underlying t = some (.struct fs) ∧ ∃ f, fs[j]? = some f ∧ f.offset = off ∧ (TB P Tj).1 f.type = true := by
  cases T with
  | pair a b =>
    simp only [TB, Bool.and_eq_true] at h
    obtain ⟨d, hd, hf⟩ := descB_ok h.2
    cases d with
    | struct fs =>
      refine ⟨fs, hd, ?_⟩
      have hf' : (TB P (.pair a b)).2 0 fs.toList = true := hf
      obtain ⟨f, h1, h2, h3⟩ := fields_at hf' g
      exact ⟨f, by simpa using h1, by simpa using h2, h3⟩
    | _ => simp at hf
  | _ => cases j <;> simp [fldPath, Ty.at] at g

/-- A table of types: a number, its type of data, and for a slice how many bytes an element has. -/
structure TEnt where
  t : TypeId
  T : Ty
  by_ : Nat
abbrev TTab := List TEnt
def bytesB (P : Program) (t : TypeId) (n : Nat) : Bool :=
  match P.underlying t with
  | some (.slice te) => match P.info? te with
    | some i => decide (i.bytes = n)
    | none => false
  | _ => true
def TTab.ok (P : Program) (l : TTab) : Bool := l.all fun x => (TB P x.T).1 x.t && bytesB P x.t x.by_
def TTab.find : TTab → TypeId → Option TEnt
  | [], _ => none
  | x :: r, t => bif Nat.beq x.t t then some x else TTab.find r t
theorem TTab.find_ok {P : Program} : ∀ {l : TTab} {t : TypeId} {x : TEnt}, l.ok P = true → l.find t = some x → (TB P x.T).1 t = true ∧ bytesB P t x.by_ = true
  | [], _, _, _, h => by simp [TTab.find] at h
  | y :: r, t, x, ok, h => by
    simp only [TTab.ok, List.all_cons, Bool.and_eq_true] at ok
    unfold TTab.find at h
    cases hb : Nat.beq y.t t with
    | true =>
      rw [hb] at h
      simp only [cond_true, Option.some.injEq] at h
      subst h
      have := Nat.eq_of_beq_eq_true hb
      rw [← this]
      exact ok.1
    | false =>
      rw [hb] at h
      exact TTab.find_ok (l := r) (by simpa [TTab.ok] using ok.2) h
theorem bytesB_ok {P : Program} {t te : TypeId} {n : Nat} {i : TypeInfo} (h : bytesB P t n = true) (hu : P.underlying t = some (.slice te)) (hi : P.info? te = some i) : i.bytes = n := by
  unfold bytesB at h
  rw [hu] at h
  simpa [hi] using h
end Go.Proofs.Ytbpfllifhpdlfaa.Ev
