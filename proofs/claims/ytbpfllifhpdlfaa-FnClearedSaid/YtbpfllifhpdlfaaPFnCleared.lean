/- Proved: the law laws.FnCleared returns true for every input, and the input reads behind the call as it read before. There are no conditions. (The last theorem: fnCleared_holds.) -/
import Derived.Test.YtbpfllifhpdlfaaLFnCleared
import Derived.Test.YtbpfllifhpdlfaaRFnCleared
import Derived.IntWalk
import Derived.Laws.Bits128
/- FnCleared, the plain law: the draws. -/
namespace Go.Proofs.Ytbpfllifhpdlfaa.Ev
open Go Go.IntWalk
set_option linter.unusedVariables false
set_option linter.unusedSimpArgs false

theorem obind {α β : Type} {o : Option α} {f : α → Option β} {a : α} {b : β} (h : o = some a) (k : f a = some b) : o.bind f = some b := by rw [h]; exact k
theorem bindSome {α : Type} (o : Option α) : o.bind some = o := by cases o <;> rfl
theorem i64_and255 (n : Int) : bits .and .i64 n 255 = n % 256 := by
  have h127 : (BitVec.ofInt 64 255).toNat = 2 ^ 8 - 1 := by decide
  have key : (BitVec.ofInt 64 n &&& BitVec.ofInt 64 255).toNat = (n % ((2 ^ 64 : Nat) : Int)).toNat % 2 ^ 8 := by
    rw [BitVec.toNat_and, BitVec.toNat_ofInt, h127, Nat.and_two_pow_sub_one_eq_mod]
  show IntKind.i64.wrap ((BitVec.ofInt 64 n &&& BitVec.ofInt 64 255).toNat : Nat) = n % 256
  rw [key, IntKind.wrap_i64]
  omega
abbrev Cur : Type := List Int × Int × Int × Unit
def CurOk (c : Cur) : Prop := 0 ≤ c.2.1 ∧ c.2.1 ≤ c.1.length ∧ c.1.length ≤ 1048576
theorem byte_ok {c : Cur} (h : CurOk c) : ∃ x c', l01Byte_fn c = some (x, c', ()) ∧ 0 ≤ x ∧ x < 256 ∧ CurOk c' := by
  obtain ⟨h1, h2, h3⟩ := h
  unfold l01Byte_fn l01Byte_k l01Byte_start
  by_cases hi : c.2.1 < (c.1.length : Int)
  · refine ⟨_, (c.1, IntKind.i64.wrap (c.2.1 + 1), _, c.2.2.2), by simp only [hi, h1, decide_true, if_true]; rfl, ?_, ?_, ?_⟩
    · rw [i64_and255]; omega
    · rw [i64_and255]; omega
    · refine ⟨?_, ?_, h3⟩
      · show 0 ≤ IntKind.i64.wrap (c.2.1 + 1); rw [i64_in _ (by omega)]; omega
      · show IntKind.i64.wrap (c.2.1 + 1) ≤ (c.1.length : Int); rw [i64_in _ (by omega)]; omega
  · refine ⟨_, (c.1, c.2.1, IntKind.i64.wrap (IntKind.i64.wrap (c.2.2.1 * 6364136223846793005) + 1442695040888963407), c.2.2.2), by simp only [hi, decide_false, Bool.false_eq_true, if_false]; rfl, ?_, ?_, ⟨h1, h2, h3⟩⟩
    · rw [i64_and255]; omega
    · rw [i64_and255]; omega
theorem below_ok {c : Cur} (h : CurOk c) {n : Int} (hn : 1 ≤ n) (hn2 : n ≤ 256) : ∃ x c', l01Below_fn c n = some (x, c', ()) ∧ 0 ≤ x ∧ x < n ∧ CurOk c' := by
  obtain ⟨x, c', e, h1, h2, h3⟩ := byte_ok h
  refine ⟨x.tmod n, c', ?_, ?_, ?_, h3⟩
  · unfold l01Below_fn l01Below_k l01Below_start
    have e1 : ¬ n ≤ 0 := by omega
    have e2 : ¬ n = 0 := by omega
    simp only [e1, hn2, decide_false, decide_true, Bool.false_eq_true, if_false, if_true, e, Option.bind_some, e2]
  · exact Int.tmod_nonneg _ h1
  · rw [Int.tmod_eq_emod_of_nonneg h1]; exact Int.emod_lt_of_pos _ (by omega)
theorem size_ok (xs : List Int) (hx : xs.length ≤ 1048576) : ∃ s, l01Size_fn xs 16 = some (s, ()) ∧ 0 ≤ s ∧ s ≤ 16 := by
  unfold l01Size_fn l01Size_k l01Size_start
  have e1 : ((xs.length : Int)).tdiv 16 = (xs.length : Int) / 16 := Int.tdiv_eq_ediv_of_nonneg (by omega)
  have e2 : IntKind.i64.wrap ((xs.length : Int) / 16) = (xs.length : Int) / 16 := i64_in _ (by omega)
  have e3 : IntKind.i64.wrap (2 + (xs.length : Int) / 16) = 2 + (xs.length : Int) / 16 := i64_in _ (by omega)
  rw [e1, e2, e3]
  by_cases h : 2 + (xs.length : Int) / 16 > 16
  · exact ⟨16, by simp [h], by omega, by omega⟩
  · exact ⟨2 + (xs.length : Int) / 16, by simp only [h, decide_false, Bool.false_eq_true, if_false], by omega, by omega⟩

abbrev Debt : Type := Int × Int × Int × Unit
/-- A debt as it is drawn. -/
def Drawn (d : Debt) : Prop := 0 ≤ d.1 ∧ d.1 < 5 ∧ 0 ≤ d.2.1 ∧ d.2.1 < 5 ∧ d.1 ≠ d.2.1 ∧ 1 ≤ d.2.2.1 ∧ d.2.2.1 ≤ 20
theorem right_go : ∀ (n : Nat) (k : Nat) (c : Cur) (v : List Debt), n < k → CurOk c → v.length + n ≤ 17 → (∀ d ∈ v, Drawn d) → ∃ l c', l20DrawRight_go k (.l0 (n : Int) c v) = some (l, c', ()) ∧ CurOk c' ∧ l.length ≤ 17 ∧ ∀ d ∈ l, Drawn d := by
  intro n
  induction n with
  | zero =>
    intro k c v hk hc hl hv
    obtain ⟨k, rfl⟩ : ∃ k', k = k' + 1 := ⟨k - 1, by omega⟩
    refine ⟨v, c, ?_, hc, by omega, hv⟩
    simp [l20DrawRight_go, l20DrawRight_body]
  | succ n ih =>
    intro k c v hk hc hl hv
    obtain ⟨k, rfl⟩ : ∃ k', k = k' + 1 := ⟨k - 1, by omega⟩
    obtain ⟨a, c1, e1, a1, a2, hc1⟩ := below_ok hc (n := 5) (by omega) (by omega)
    obtain ⟨b, c2, e2, b1, b2, hc2⟩ := below_ok hc1 (n := 4) (by omega) (by omega)
    obtain ⟨m, c3, e3, m1, m2, hc3⟩ := below_ok hc2 (n := 20) (by omega) (by omega)
    have w1 : IntKind.i64.wrap (a + 1) = a + 1 := i64_in _ (by omega)
    have w2 : IntKind.i64.wrap (a + 1 + b) = a + 1 + b := i64_in _ (by omega)
    have w3 : IntKind.i64.wrap (1 + m) = 1 + m := i64_in _ (by omega)
    have w4 : IntKind.i64.wrap (((n + 1 : Nat) : Int) - 1) = (n : Int) := by rw [i64_in _ (by omega)]; omega
    have w5 : (a + 1 + b).tmod 5 = (a + 1 + b) % 5 := Int.tmod_eq_emod_of_nonneg (by omega)
    obtain ⟨l, c', e, g1, g2, g3⟩ := ih k c3 (v ++ [(a, (a + 1 + b) % 5, 1 + m, ())]) (by omega) hc3 (by simp; omega) (fun d hd => by
      rcases List.mem_append.1 hd with h | h
      · exact hv d h
      · simp only [List.mem_singleton] at h
        subst h
        refine ⟨a1, a2, ?_, ?_, ?_, ?_, ?_⟩ <;> dsimp only <;> omega)
    refine ⟨l, c', ?_, g1, g2, g3⟩
    have hp : ((n + 1 : Nat) : Int) > 0 := by omega
    have hs1 : (v.length + 1) * 24 ≤ 140737488355328 := by omega
    have hs2 : v.length + 1 ≤ 9223372036854775807 := by omega
    simp only [l20DrawRight_go, l20DrawRight_body, hp, decide_true, if_true, e1, Option.bind_some, e2, e3, w1, w2, w3, w4, w5, List.replicate, List.set_cons_zero, List.length_singleton, hs1, hs2, bindSome]
    exact e
theorem right_ok {c : Cur} (hc : CurOk c) {xs : List Int} (hx : xs.length ≤ 1048576) : ∃ l c', l20DrawRight_fn c xs = some (l, c', ()) ∧ CurOk c' ∧ l.length ≤ 17 ∧ ∀ d ∈ l, Drawn d := by
  obtain ⟨s, e, s1, s2⟩ := size_ok xs hx
  have w : IntKind.i64.wrap (2 + s) = 2 + s := i64_in _ (by omega)
  obtain ⟨n, c1, e1, n1, n2, hc1⟩ := below_ok hc (n := 2 + s) (by omega) (by omega)
  obtain ⟨l, c', e2, g⟩ := right_go n.toNat 1000 c1 [] (by omega) hc1 (by simp; omega) (by simp)
  refine ⟨l, c', ?_, g⟩
  have hn : ((n.toNat : Nat) : Int) = n := by omega
  rw [hn] at e2
  unfold l20DrawRight_fn l20DrawRight_k l20DrawRight_start
  simp only [e, Option.bind_some, w, e1, List.replicate, bindSome]
  exact e2
theorem pick_ok {c : Cur} (hc : CurOk c) {l : List Int} (h1 : 1 ≤ l.length) (h2 : l.length ≤ 256) : ∃ x c', l01PickInt_fn c l = some (x, c', ()) ∧ CurOk c' := by
  obtain ⟨n, c1, e1, n1, n2, hc1⟩ := below_ok hc (n := (l.length : Int)) (by omega) (by omega)
  refine ⟨l.getD n.toNat 0, c1, ?_, hc1⟩
  unfold l01PickInt_fn l01PickInt_k l01PickInt_start
  simp only [e1, Option.bind_some, n1, n2, decide_true, if_true]
theorem cash_go : ∀ (n : Nat) (k : Nat) (c : Cur) (v : List Int), n ≤ 5 → n < k → CurOk c → v.length = 20 → ∃ l c', l20DrawCash_go k (.l0 ((5 - n : Nat) : Int) c v) = some (l, c', ()) ∧ CurOk c' := by
  intro n
  induction n with
  | zero =>
    intro k c v hn hk hc hl
    obtain ⟨k, rfl⟩ : ∃ k', k = k' + 1 := ⟨k - 1, by omega⟩
    exact ⟨v, c, by simp [l20DrawCash_go, l20DrawCash_body], hc⟩
  | succ n ih =>
    intro k c v hn hk hc hl
    obtain ⟨k, rfl⟩ : ∃ k', k = k' + 1 := ⟨k - 1, by omega⟩
    obtain ⟨a, c1, e1, _, _, hc1⟩ := below_ok hc (n := 12) (by omega) (by omega)
    obtain ⟨b, c2, e2, _, _, hc2⟩ := below_ok hc1 (n := 40) (by omega) (by omega)
    obtain ⟨m, c3, e3, hc3⟩ := pick_ok hc2 (l := [0, 0, a, b]) (by simp) (by simp)
    have hlt : ((5 - (n + 1) : Nat) : Int) < 5 := by omega
    have h0 : (0 : Int) ≤ ((5 - (n + 1) : Nat) : Int) := by omega
    have h20 : ((5 - (n + 1) : Nat) : Int) < (v.length : Int) := by omega
    have w : IntKind.i64.wrap (((5 - (n + 1) : Nat) : Int) + 1) = ((5 - n : Nat) : Int) := by rw [i64_in _ (by omega)]; omega
    obtain ⟨l, c', e, g⟩ := ih k c3 (v.set ((5 - (n + 1) : Nat) : Int).toNat m) (by omega) (by omega) hc3 (by simp [hl])
    refine ⟨l, c', ?_, g⟩
    simp only [l20DrawCash_go, l20DrawCash_body, hlt, h0, h20, decide_true, if_true, e1, e2, Option.bind_some, List.replicate, List.set_cons_zero, List.set_cons_succ, e3, w, bindSome]
    exact e
theorem cash_ok {c : Cur} (hc : CurOk c) : ∃ l c', l20DrawCash_fn c = some (l, c', ()) := by
  obtain ⟨l, c', e, _⟩ := cash_go 5 10 c (List.replicate 20 0) (by omega) (by omega) hc (by simp)
  refine ⟨l, c', ?_⟩
  unfold l20DrawCash_fn l20DrawCash_k l20DrawCash_start
  simp only [bindSome]
  exact e
theorem new_go : ∀ (n : Nat) (k : Nat) (xs : List Int) (h : Int) (i : Nat), n < k → i ≤ xs.length → xs.length - i ≤ n → xs.length ≤ 1048576 → ∃ c, l01New_go k (.l0 xs h (i : Int)) = some (c, ()) ∧ CurOk c := by
  intro n
  induction n with
  | zero =>
    intro k xs h i hk hi hn hx
    obtain ⟨k, rfl⟩ : ∃ k', k = k' + 1 := ⟨k - 1, by omega⟩
    have hlt : ¬ ((i : Int) < (xs.length : Int)) := by omega
    refine ⟨(xs, 0, h, ()), ?_, Int.le_refl _, by show (0 : Int) ≤ xs.length; omega, hx⟩
    simp only [l01New_go, l01New_body, hlt, decide_false, Bool.false_eq_true, if_false]
  | succ n ih =>
    intro k xs h i hk hi hn hx
    obtain ⟨k, rfl⟩ : ∃ k', k = k' + 1 := ⟨k - 1, by omega⟩
    have hok : ∀ h : Int, CurOk (xs, 0, h, ()) := fun h => ⟨Int.le_refl _, by show (0 : Int) ≤ xs.length; omega, hx⟩
    by_cases hlt : (i : Int) < (xs.length : Int)
    · by_cases h4 : (i : Int) < 4000
      · have h0 : (0 : Int) ≤ (i : Int) := by omega
        have w : IntKind.i64.wrap ((i : Int) + 1) = ((i + 1 : Nat) : Int) := by rw [i64_in _ (by omega)]; omega
        simp only [l01New_go, l01New_body, hlt, h4, h0, decide_true, if_true, w, bindSome]
        exact ih k xs _ (i + 1) (by omega) (by omega) (by omega) hx
      · refine ⟨(xs, 0, h, ()), ?_, hok h⟩
        simp only [l01New_go, l01New_body, hlt, h4, decide_true, decide_false, Bool.false_eq_true, if_false, if_true]
    · refine ⟨(xs, 0, h, ()), ?_, hok h⟩
      simp only [l01New_go, l01New_body, hlt, decide_false, Bool.false_eq_true, if_false]
theorem new_ok {xs : List Int} (hx : xs.length ≤ 1048576) : ∃ c, l01New_fn xs = some (c, ()) ∧ CurOk c := by
  obtain ⟨c, e, h⟩ := new_go xs.length (xs.length + 1) xs (IntKind.i64.wrap (138138 + (xs.length : Int))) 0 (by omega) (by omega) (by omega) hx
  refine ⟨c, ?_, h⟩
  unfold l01New_fn l01New_k l01New_start
  simp only [bindSome]
  exact e
theorem draw_ok {xs : List Int} (hx : xs.length ≤ 1048576) : ∃ l m, DrawRightDebts_fn xs = some ((l, m, ()), ()) ∧ l.length ≤ 17 ∧ ∀ d ∈ l, Drawn d := by
  obtain ⟨c, e, hc⟩ := new_ok hx
  obtain ⟨l, c1, e1, hc1, h1, h2⟩ := right_ok hc hx
  obtain ⟨m, c2, e2⟩ := cash_ok hc1
  refine ⟨l, m, ?_, h1, h2⟩
  unfold DrawRightDebts_fn DrawRightDebts_k DrawRightDebts_start
  simp only [e, e1, e2, Option.bind_some]
end Go.Proofs.Ytbpfllifhpdlfaa.Ev

/- FnCleared, the plain law: debts and what each party gets. -/
namespace Go.Proofs.Ytbpfllifhpdlfaa.Ev
open Go Go.IntWalk
set_option linter.unusedVariables false
set_option linter.unusedSimpArgs false

def Valid (d : Debt) : Prop := 0 ≤ d.1 ∧ d.1 < 20 ∧ 0 ≤ d.2.1 ∧ d.2.1 < 20 ∧ d.1 ≠ d.2.1 ∧ 1 ≤ d.2.2.1 ∧ d.2.2.1 ≤ 1000000000
abbrev z4 : Debt := (0, 0, 0, ())
theorem getD_mem {α : Type} {l : List α} {i : Nat} {z : α} (h : i < l.length) : l.getD i z ∈ l := by
  rw [List.getD_eq_getElem?_getD, List.getElem?_eq_getElem h]
  exact List.getElem_mem h
theorem bad_ok {d : Debt} (h : Valid d) : isBadDebt_fn d = some (false, ()) := by
  obtain ⟨h1, h2, h3, h4, h5, h6, h7⟩ := h
  have e1 : ¬ d.1 < 0 := by omega
  have e2 : ¬ d.1 ≥ 20 := by omega
  have e3 : ¬ d.2.1 < 0 := by omega
  have e4 : ¬ d.2.1 ≥ 20 := by omega
  have e5 : (d.1 == d.2.1) = false := by simpa using h5
  have e6 : ¬ d.2.2.1 < 1 := by omega
  have e7 : ¬ d.2.2.1 > 1000000000 := by omega
  unfold isBadDebt_fn isBadDebt_k isBadDebt_start
  simp only [e1, e2, e3, e4, e5, e6, e7, decide_false, Bool.false_eq_true, if_false]
theorem are_go {l : List Debt} (hv : ∀ d ∈ l, Valid d) (hl : l.length ≤ 60) (x3 : List Debt) (x4 : Bool) (x5 x6 : List Debt) (x7 : Bool) (x8 : List Debt) (x9 : Int) (x10 : Bool) (x12 : List Debt) :
    ∀ (n k i : Nat), n < k → i + n = l.length → areDebts_go k (.l0 l (l.length : Int) (i : Int) x3 x4 x5 x6 x7 x8 x9 x10 true x12) = some (true, ()) := by
  intro n
  induction n with
  | zero =>
    intro k i hk hi
    obtain ⟨k, rfl⟩ : ∃ k', k = k' + 1 := ⟨k - 1, by omega⟩
    have hlt : ¬ ((i : Int) < (l.length : Int)) := by omega
    simp only [areDebts_go, areDebts_body, hlt, decide_false, Bool.false_eq_true, if_false, if_true]
    rfl
  | succ n ih =>
    intro k i hk hi
    obtain ⟨k, rfl⟩ : ∃ k', k = k' + 1 := ⟨k - 1, by omega⟩
    have hlt : (i : Int) < (l.length : Int) := by omega
    have h0 : (0 : Int) ≤ (i : Int) := by omega
    have w : IntKind.i64.wrap ((i : Int) + 1) = ((i + 1 : Nat) : Int) := by rw [i64_in _ (by omega)]; omega
    have hb := bad_ok (hv _ (getD_mem (l := l) (i := i) (z := z4) (by omega)))
    simp only [areDebts_go, areDebts_body, hlt, h0, decide_true, if_true, Int.toNat_natCast, hb, Option.bind_some, Bool.false_eq_true, if_false, w, bindSome]
    exact ih k (i + 1) (by omega) (by omega)
theorem are_ok {l : List Debt} (hv : ∀ d ∈ l, Valid d) (hl : l.length ≤ 60) : areDebts_fn l = some (true, ()) := by
  have h := are_go hv hl l false l l false l (l.length : Int) (decide ((l.length : Int) ≤ 60)) l l.length (l.length + 1) 0 (by omega) (by omega)
  have e : (l.length : Int) ≤ 60 := by omega
  unfold areDebts_fn areDebts_k areDebts_start
  simp only [e, decide_true, if_true, bindSome] at h ⊢
  exact h
theorem iok_ok {l : List Debt} (hv : ∀ d ∈ l, Valid d) (hl : l.length ≤ 60) : iDebtsOk_fn l = some (true, ()) := by
  unfold iDebtsOk_fn iDebtsOk_k iDebtsOk_start
  rw [are_ok hv hl]
  rfl
theorem in_ok {x a b : Int} (h1 : a ≤ x) (h2 : x ≤ b) : l01In_fn x a b = some (true, ()) := by
  unfold l01In_fn l01In_k l01In_start
  simp [h1, h2]
theorem dok_go {l : List Debt} (hv : ∀ d ∈ l, Valid d) (hl : l.length ≤ 60) : ∀ (n k i : Nat), n < k → i + n = l.length → DebtsOk_go k (.l0 l (i : Int)) = some (true, ()) := by
  intro n
  induction n with
  | zero =>
    intro k i hk hi
    obtain ⟨k, rfl⟩ : ∃ k', k = k' + 1 := ⟨k - 1, by omega⟩
    have hlt : ¬ ((i : Int) < (l.length : Int)) := by omega
    have e : (l.length : Int) ≤ 60 := by omega
    simp only [DebtsOk_go, DebtsOk_body, hlt, e, decide_false, decide_true, Bool.false_eq_true, if_false, if_true]
  | succ n ih =>
    intro k i hk hi
    obtain ⟨k, rfl⟩ : ∃ k', k = k' + 1 := ⟨k - 1, by omega⟩
    have hlt : (i : Int) < (l.length : Int) := by omega
    have h0 : (0 : Int) ≤ (i : Int) := by omega
    have w : IntKind.i64.wrap ((i : Int) + 1) = ((i + 1 : Nat) : Int) := by rw [i64_in _ (by omega)]; omega
    obtain ⟨h1, h2, h3, h4, h5, h6, h7⟩ := hv _ (getD_mem (l := l) (i := i) (z := z4) (by omega))
    have e1 := in_ok (x := (l.getD i z4).1) (a := 0) (b := 19) h1 (by omega)
    have e2 := in_ok (x := (l.getD i z4).2.1) (a := 0) (b := 19) h3 (by omega)
    have e3 := in_ok (x := (l.getD i z4).2.2.1) (a := 1) (b := 1000000000) h6 h7
    have e5 : ((l.getD i z4).1 == (l.getD i z4).2.1) = false := by simpa using h5
    simp only [DebtsOk_go, DebtsOk_body, hlt, h0, decide_true, if_true, Int.toNat_natCast, e1, e2, e3, e5, Option.bind_some, Bool.not_true, Bool.false_eq_true, if_false, w, bindSome]
    exact ih k (i + 1) (by omega) (by omega)
theorem dok_ok {l : List Debt} (hv : ∀ d ∈ l, Valid d) (hl : l.length ≤ 60) : DebtsOk_fn l = some (true, ()) := by
  have h := dok_go hv hl l.length (l.length + 1) 0 (by omega) (by omega)
  unfold DebtsOk_fn DebtsOk_k DebtsOk_start
  simp only [bindSome]
  exact h

/-- What party p gets out of a debt. -/
def eff (p : Int) (d : Debt) : Int := (if d.2.1 = p then d.2.2.1 else 0) - (if d.1 = p then d.2.2.1 else 0)
def S (p : Int) : List Debt → Int
  | [] => 0
  | d :: l => eff p d + S p l
theorem S_append (p : Int) (a b : List Debt) : S p (a ++ b) = S p a + S p b := by
  induction a with
  | nil => simp [S]
  | cons d a ih => simp only [List.cons_append, S, ih]; omega
theorem eff_bound {p : Int} {d : Debt} (h : Valid d) : -1000000000 ≤ eff p d ∧ eff p d ≤ 1000000000 := by
  obtain ⟨_, _, _, _, h5, h6, h7⟩ := h
  unfold eff
  split <;> split <;> omega
theorem S_bound {p : Int} : ∀ {l : List Debt}, (∀ d ∈ l, Valid d) → -(1000000000 * (l.length : Int)) ≤ S p l ∧ S p l ≤ 1000000000 * (l.length : Int) := by
  intro l
  induction l with
  | nil => intro _; simp [S]
  | cons d l ih =>
    intro h
    have h1 := ih fun d hd => h d (List.mem_cons_of_mem _ hd)
    have h2 := eff_bound (p := p) (h d List.mem_cons_self)
    simp only [S, List.length_cons]
    omega
def NetIs (l : List Debt) (w : List Int) : Prop := w.length = 20 ∧ ∀ p : Nat, p < 20 → w.getD p 0 = S (p : Int) l
theorem NetIs.uniq {l l' : List Debt} {v w : List Int} (h : NetIs l v) (k : NetIs l' w) (hS : ∀ p : Nat, p < 20 → S (p : Int) l = S (p : Int) l') : v = w := by
  apply List.ext_getElem (by rw [h.1, k.1])
  intro i h1 h2
  have e1 := h.2 i (by rw [← h.1]; exact h1)
  have e2 := k.2 i (by rw [← h.1]; exact h1)
  rw [List.getD_eq_getElem?_getD, List.getElem?_eq_getElem h1] at e1
  rw [List.getD_eq_getElem?_getD, List.getElem?_eq_getElem h2] at e2
  simp only [Option.getD_some] at e1 e2
  rw [e1, e2, hS i (by rw [← h.1]; exact h1)]
theorem getD_set' {v : List Int} {i p : Nat} {x : Int} (hi : i < v.length) : (v.set i x).getD p 0 = if p = i then x else v.getD p 0 := by
  rw [List.getD_eq_getElem?_getD, List.getElem?_set]
  split
  · rename_i e; subst e; simp [hi]
  · rename_i e; rw [if_neg (fun h => e h.symm), List.getD_eq_getElem?_getD]
def stepN (v : List Int) (d : Debt) : List Int :=
  (v.set d.1.toNat (v.getD d.1.toNat 0 - d.2.2.1)).set d.2.1.toNat ((v.set d.1.toNat (v.getD d.1.toNat 0 - d.2.2.1)).getD d.2.1.toNat 0 + d.2.2.1)
theorem stepN_ok {v : List Int} {d : Debt} (hv : v.length = 20) (h : Valid d) : (stepN v d).length = 20 ∧ ∀ p : Nat, (stepN v d).getD p 0 = v.getD p 0 + eff (p : Int) d := by
  obtain ⟨h1, h2, h3, h4, h5, h6, h7⟩ := h
  refine ⟨by simp [stepN, hv], fun p => ?_⟩
  unfold stepN
  rw [getD_set' (by simp [hv]; omega), getD_set' (by omega), getD_set' (by omega)]
  unfold eff
  have e1 : (d.2.1 = (p : Int)) ↔ p = d.2.1.toNat := by omega
  have e2 : (d.1 = (p : Int)) ↔ p = d.1.toNat := by omega
  simp only [e1, e2]
  by_cases a : p = d.2.1.toNat
  · have b : ¬ p = d.1.toNat := by omega
    have c : ¬ d.2.1.toNat = d.1.toNat := by omega
    rw [if_pos a, if_neg c, if_pos a, if_neg b, a]; omega
  · by_cases b : p = d.1.toNat
    · rw [if_neg a, if_pos b, if_neg a, if_pos b, b]; omega
    · rw [if_neg a, if_neg b, if_neg a, if_neg b]; omega
theorem S_take {p : Int} {l : List Debt} {i : Nat} (h : i < l.length) : S p (l.take (i + 1)) = S p (l.take i) + eff p (l.getD i z4) := by
  have e : l.take (i + 1) = l.take i ++ [l.getD i z4] := by
    rw [List.take_add_one, List.getD_eq_getElem?_getD, List.getElem?_eq_getElem h]
    rfl
  rw [e, S_append]
  simp [S]
theorem net_go {l : List Debt} (hv : ∀ d ∈ l, Valid d) (hl : l.length ≤ 60) : ∀ (n k i : Nat) (v : List Int), n < k → i + n = l.length → v.length = 20 → (∀ p : Nat, p < 20 → v.getD p 0 = S (p : Int) (l.take i)) →
    ∃ w, netOf_go k (.l0 l (l.length : Int) (i : Int) v) = some (w, ()) ∧ NetIs l w := by
  intro n
  induction n with
  | zero =>
    intro k i v hk hi hv20 hp
    obtain ⟨k, rfl⟩ : ∃ k', k = k' + 1 := ⟨k - 1, by omega⟩
    have hlt : ¬ ((i : Int) < (l.length : Int)) := by omega
    refine ⟨v, by simp only [netOf_go, netOf_body, hlt, decide_false, Bool.false_eq_true, if_false], hv20, fun p h => ?_⟩
    rw [hp p h, List.take_of_length_le (by omega)]
  | succ n ih =>
    intro k i v hk hi hv20 hp
    obtain ⟨k, rfl⟩ : ∃ k', k = k' + 1 := ⟨k - 1, by omega⟩
    have hlt : (i : Int) < (l.length : Int) := by omega
    have h0 : (0 : Int) ≤ (i : Int) := by omega
    have w : IntKind.i64.wrap ((i : Int) + 1) = ((i + 1 : Nat) : Int) := by rw [i64_in _ (by omega)]; omega
    have hval := hv _ (getD_mem (l := l) (i := i) (z := z4) (by omega))
    have hst := stepN_ok hv20 hval
    obtain ⟨h1, h2, h3, h4, h5, h6, h7⟩ := hval
    have hbt : ∀ p : Int, -(1000000000 * 60) ≤ S p (l.take i) ∧ S p (l.take i) ≤ 1000000000 * 60 := fun p => by
      have := S_bound (p := p) (l := l.take i) fun d hd => hv d (List.mem_of_mem_take hd)
      have hle : (l.take i).length ≤ 60 := by rw [List.length_take]; omega
      omega
    have b1 := hbt (((l.getD i z4).1.toNat : Nat) : Int)
    have b2 := hbt (((l.getD i z4).2.1.toNat : Nat) : Int)
    have g1 := hp (l.getD i z4).1.toNat (by omega)
    have g2 := hp (l.getD i z4).2.1.toNat (by omega)
    have w1 : IntKind.i64.wrap (v.getD (l.getD i z4).1.toNat 0 - (l.getD i z4).2.2.1) = v.getD (l.getD i z4).1.toNat 0 - (l.getD i z4).2.2.1 := i64_in _ (by omega)
    have w2 : IntKind.i64.wrap ((v.set (l.getD i z4).1.toNat (v.getD (l.getD i z4).1.toNat 0 - (l.getD i z4).2.2.1)).getD (l.getD i z4).2.1.toNat 0 + (l.getD i z4).2.2.1) = (v.set (l.getD i z4).1.toNat (v.getD (l.getD i z4).1.toNat 0 - (l.getD i z4).2.2.1)).getD (l.getD i z4).2.1.toNat 0 + (l.getD i z4).2.2.1 := by
      refine i64_in _ ?_
      rw [getD_set' (by omega), if_neg (by omega)]
      omega
    have c1 : (l.getD i z4).1 < (v.length : Int) := by omega
    have c2 : (l.getD i z4).2.1 < (v.length : Int) := by omega
    have := ih k (i + 1) (stepN v (l.getD i z4)) (by omega) (by omega) hst.1 (fun p h => by rw [hst.2 p, hp p h, S_take (by omega)])
    obtain ⟨u, e, hu⟩ := this
    refine ⟨u, ?_, hu⟩
    simp only [netOf_go, netOf_body, hlt, h0, h1, h3, c1, c2, decide_true, if_true, Int.toNat_natCast, List.length_set, w, w1, w2, bindSome]
    exact e
theorem S_nil (p : Int) : S p [] = 0 := rfl
theorem rep_get (p : Nat) : (List.replicate 20 (0 : Int)).getD p 0 = 0 := by
  rw [List.getD_eq_getElem?_getD, List.getElem?_replicate]; split <;> rfl
theorem net_ok {l : List Debt} (hv : ∀ d ∈ l, Valid d) (hl : l.length ≤ 60) : ∃ w, netOf_fn l = some (w, ()) ∧ NetIs l w := by
  obtain ⟨w, e, h⟩ := net_go hv hl l.length (l.length + 1) 0 (List.replicate 20 0) (by omega) (by omega) (by simp) (fun p _ => by rw [rep_get]; rfl)
  refine ⟨w, ?_, h⟩
  unfold netOf_fn netOf_k netOf_start
  simp only [bindSome]
  exact e
theorem inet_ok {l : List Debt} (hv : ∀ d ∈ l, Valid d) (hl : l.length ≤ 60) : ∃ w, iNetOf_fn l = some (w, ()) ∧ NetIs l w := by
  obtain ⟨w, e, h⟩ := net_ok hv hl
  refine ⟨w, ?_, h⟩
  unfold iNetOf_fn iNetOf_k iNetOf_start
  simp only [are_ok hv hl, Option.bind_some, Bool.not_true, Bool.false_eq_true, if_false, e]
theorem snet_go {l : List Debt} (hv : ∀ d ∈ l, Valid d) (hl : l.length ≤ 60) : ∀ (n k i : Nat) (v : List Int), n < k → i + n = l.length → v.length = 20 → (∀ p : Nat, p < 20 → v.getD p 0 = S (p : Int) (l.take i)) →
    ∃ w, sNetOf_go k (.l0 l (i : Int) v) = some (w, ()) ∧ NetIs l w := by
  intro n
  induction n with
  | zero =>
    intro k i v hk hi hv20 hp
    obtain ⟨k, rfl⟩ : ∃ k', k = k' + 1 := ⟨k - 1, by omega⟩
    have hlt : ¬ ((i : Int) < (l.length : Int)) := by omega
    refine ⟨v, by simp only [sNetOf_go, sNetOf_body, hlt, decide_false, Bool.false_eq_true, if_false], hv20, fun p h => ?_⟩
    rw [hp p h, List.take_of_length_le (by omega)]
  | succ n ih =>
    intro k i v hk hi hv20 hp
    obtain ⟨k, rfl⟩ : ∃ k', k = k' + 1 := ⟨k - 1, by omega⟩
    have hlt : (i : Int) < (l.length : Int) := by omega
    have h0 : (0 : Int) ≤ (i : Int) := by omega
    have w : IntKind.i64.wrap ((i : Int) + 1) = ((i + 1 : Nat) : Int) := by rw [i64_in _ (by omega)]; omega
    have hval := hv _ (getD_mem (l := l) (i := i) (z := z4) (by omega))
    have hst := stepN_ok hv20 hval
    obtain ⟨h1, h2, h3, h4, h5, h6, h7⟩ := hval
    have hbt : ∀ p : Int, -(1000000000 * 60) ≤ S p (l.take i) ∧ S p (l.take i) ≤ 1000000000 * 60 := fun p => by
      have := S_bound (p := p) (l := l.take i) fun d hd => hv d (List.mem_of_mem_take hd)
      have hle : (l.take i).length ≤ 60 := by rw [List.length_take]; omega
      omega
    have b1 := hbt (((l.getD i z4).1.toNat : Nat) : Int)
    have b2 := hbt (((l.getD i z4).2.1.toNat : Nat) : Int)
    have g1 := hp (l.getD i z4).1.toNat (by omega)
    have g2 := hp (l.getD i z4).2.1.toNat (by omega)
    have w1 : IntKind.i64.wrap (v.getD (l.getD i z4).1.toNat 0 - (l.getD i z4).2.2.1) = v.getD (l.getD i z4).1.toNat 0 - (l.getD i z4).2.2.1 := i64_in _ (by omega)
    have w2 : IntKind.i64.wrap ((v.set (l.getD i z4).1.toNat (v.getD (l.getD i z4).1.toNat 0 - (l.getD i z4).2.2.1)).getD (l.getD i z4).2.1.toNat 0 + (l.getD i z4).2.2.1) = (v.set (l.getD i z4).1.toNat (v.getD (l.getD i z4).1.toNat 0 - (l.getD i z4).2.2.1)).getD (l.getD i z4).2.1.toNat 0 + (l.getD i z4).2.2.1 := by
      refine i64_in _ ?_
      rw [getD_set' (by omega), if_neg (by omega)]
      omega
    have c1 : (l.getD i z4).1 < (v.length : Int) := by omega
    have c2 : (l.getD i z4).2.1 < (v.length : Int) := by omega
    have := ih k (i + 1) (stepN v (l.getD i z4)) (by omega) (by omega) hst.1 (fun p h => by rw [hst.2 p, hp p h, S_take (by omega)])
    obtain ⟨u, e, hu⟩ := this
    refine ⟨u, ?_, hu⟩
    simp only [sNetOf_go, sNetOf_body, hlt, h0, h1, h3, c1, c2, decide_true, if_true, Int.toNat_natCast, List.length_set, w, w1, w2, bindSome]
    exact e
theorem snet_ok {l : List Debt} (hv : ∀ d ∈ l, Valid d) (hl : l.length ≤ 60) : ∃ w, sNetOf_fn l = some (w, ()) ∧ NetIs l w := by
  obtain ⟨w, e, h⟩ := snet_go hv hl l.length (l.length + 1) 0 (List.replicate 20 0) (by omega) (by omega) (by simp) (fun p _ => by rw [rep_get]; rfl)
  refine ⟨w, ?_, h⟩
  unfold sNetOf_fn sNetOf_k sNetOf_start
  simp only [dok_ok hv hl, Option.bind_some, Bool.not_true, Bool.false_eq_true, if_false, bindSome]
  exact e
theorem same_go {a : List Int} : ∀ (n k i : Nat), n < k → i + n = a.length → a.length ≤ 1000 → sameInts_go k (.l0 a a (i : Int)) = some (true, ()) := by
  intro n
  induction n with
  | zero =>
    intro k i hk hi _
    obtain ⟨k, rfl⟩ : ∃ k', k = k' + 1 := ⟨k - 1, by omega⟩
    have hlt : ¬ ((i : Int) < (a.length : Int)) := by omega
    simp only [sameInts_go, sameInts_body, hlt, decide_false, Bool.false_eq_true, if_false]
  | succ n ih =>
    intro k i hk hi ha
    obtain ⟨k, rfl⟩ : ∃ k', k = k' + 1 := ⟨k - 1, by omega⟩
    have hlt : (i : Int) < (a.length : Int) := by omega
    have h0 : (0 : Int) ≤ (i : Int) := by omega
    have w : IntKind.i64.wrap ((i : Int) + 1) = ((i + 1 : Nat) : Int) := by rw [i64_in _ (by omega)]; omega
    simp only [sameInts_go, sameInts_body, hlt, h0, decide_true, if_true, Int.toNat_natCast, bne_self_eq_false, Bool.false_eq_true, if_false, w, bindSome]
    exact ih k (i + 1) (by omega) (by omega) ha
theorem same_ok {a : List Int} (ha : a.length ≤ 1000) : sameInts_fn a a = some (true, ()) := by
  have h := same_go (a := a) a.length (a.length + 1) 0 (by omega) (by omega) ha
  unfold sameInts_fn sameInts_k sameInts_start
  simp only [bne_self_eq_false, Bool.false_eq_true, if_false, bindSome]
  exact h
end Go.Proofs.Ytbpfllifhpdlfaa.Ev

/- FnCleared, the plain law: the payments. -/
namespace Go.Proofs.Ytbpfllifhpdlfaa.Ev
open Go Go.IntWalk
set_option linter.unusedVariables false
set_option linter.unusedSimpArgs false

theorem min_go {v : List Int} (hl : v.length ≤ 1000) : ∀ (n k i : Nat) (m : Int), n < k → i + n = v.length → (∃ j, j < i ∧ v.getD j 0 = m) → (∀ j, j < i → m ≤ v.getD j 0) →
    ∃ m', Min_go k (.l0 v m (i : Int)) = some (m', ()) ∧ (∃ j, j < v.length ∧ v.getD j 0 = m') ∧ ∀ j, j < v.length → m' ≤ v.getD j 0 := by
  intro n
  induction n with
  | zero =>
    intro k i m hk hi h1 h2
    obtain ⟨k, rfl⟩ : ∃ k', k = k' + 1 := ⟨k - 1, by omega⟩
    have hlt : ¬ ((i : Int) < (v.length : Int)) := by omega
    obtain rfl : i = v.length := by omega
    exact ⟨m, by simp only [Min_go, Min_body, hlt, decide_false, Bool.false_eq_true, if_false], h1, h2⟩
  | succ n ih =>
    intro k i m hk hi h1 h2
    obtain ⟨k, rfl⟩ : ∃ k', k = k' + 1 := ⟨k - 1, by omega⟩
    have hlt : (i : Int) < (v.length : Int) := by omega
    have h0 : (0 : Int) ≤ (i : Int) := by omega
    have w : IntKind.i64.wrap ((i : Int) + 1) = ((i + 1 : Nat) : Int) := by rw [i64_in _ (by omega)]; omega
    simp only [Min_go, Min_body, hlt, h0, decide_true, if_true, Int.toNat_natCast, Bool.false_eq_true, if_false, w, bindSome]
    refine ih k (i + 1) _ (by omega) (by omega) ?_ ?_
    · by_cases c : v.getD i 0 < m
      · exact ⟨i, by omega, by rw [if_pos c]⟩
      · obtain ⟨j, j1, j2⟩ := h1
        exact ⟨j, by omega, by rw [if_neg c]; exact j2⟩
    · intro j hj
      by_cases e : j = i
      · subst e; split <;> omega
      · have := h2 j (by omega)
        split <;> omega
theorem min_ok {v : List Int} (hl : v.length ≤ 1000) (h1 : 1 ≤ v.length) : ∃ m, Min_fn v = some (m, ()) ∧ (∃ j, j < v.length ∧ v.getD j 0 = m) ∧ ∀ j, j < v.length → m ≤ v.getD j 0 := by
  obtain ⟨m, e, g⟩ := min_go hl (v.length - 1) (v.length + 1) 1 (v.getD 0 0) (by omega) (by omega) ⟨0, by omega, rfl⟩ (fun j hj => by have e : j = 0 := (by omega); subst e; exact Int.le_refl _)
  refine ⟨m, ?_, g⟩
  have c1 : ¬ ((v.length : Int) < 1) := by omega
  have c2 : (0 : Int) < (v.length : Int) := by omega
  unfold Min_fn Min_k Min_start
  simp only [c1, c2, decide_true, decide_false, Bool.false_eq_true, if_false, if_true, bindSome]
  exact e
theorem max_go {v : List Int} (hl : v.length ≤ 1000) : ∀ (n k i : Nat) (m : Int), n < k → i + n = v.length → (∃ j, j < i ∧ v.getD j 0 = m) → (∀ j, j < i → v.getD j 0 ≤ m) →
    ∃ m', Max_go k (.l0 v m (i : Int)) = some (m', ()) ∧ (∃ j, j < v.length ∧ v.getD j 0 = m') ∧ ∀ j, j < v.length → v.getD j 0 ≤ m' := by
  intro n
  induction n with
  | zero =>
    intro k i m hk hi h1 h2
    obtain ⟨k, rfl⟩ : ∃ k', k = k' + 1 := ⟨k - 1, by omega⟩
    have hlt : ¬ ((i : Int) < (v.length : Int)) := by omega
    obtain rfl : i = v.length := by omega
    exact ⟨m, by simp only [Max_go, Max_body, hlt, decide_false, Bool.false_eq_true, if_false], h1, h2⟩
  | succ n ih =>
    intro k i m hk hi h1 h2
    obtain ⟨k, rfl⟩ : ∃ k', k = k' + 1 := ⟨k - 1, by omega⟩
    have hlt : (i : Int) < (v.length : Int) := by omega
    have h0 : (0 : Int) ≤ (i : Int) := by omega
    have w : IntKind.i64.wrap ((i : Int) + 1) = ((i + 1 : Nat) : Int) := by rw [i64_in _ (by omega)]; omega
    simp only [Max_go, Max_body, hlt, h0, decide_true, if_true, Int.toNat_natCast, Bool.false_eq_true, if_false, w, bindSome]
    refine ih k (i + 1) _ (by omega) (by omega) ?_ ?_
    · by_cases c : v.getD i 0 > m
      · exact ⟨i, by omega, by rw [if_pos c]⟩
      · obtain ⟨j, j1, j2⟩ := h1
        exact ⟨j, by omega, by rw [if_neg c]; exact j2⟩
    · intro j hj
      by_cases e : j = i
      · subst e; split <;> omega
      · have := h2 j (by omega)
        split <;> omega
theorem max_ok {v : List Int} (hl : v.length ≤ 1000) (h1 : 1 ≤ v.length) : ∃ m, Max_fn v = some (m, ()) ∧ (∃ j, j < v.length ∧ v.getD j 0 = m) ∧ ∀ j, j < v.length → v.getD j 0 ≤ m := by
  obtain ⟨m, e, g⟩ := max_go hl (v.length - 1) (v.length + 1) 1 (v.getD 0 0) (by omega) (by omega) ⟨0, by omega, rfl⟩ (fun j hj => by have e : j = 0 := (by omega); subst e; exact Int.le_refl _)
  refine ⟨m, ?_, g⟩
  have c1 : ¬ ((v.length : Int) < 1) := by omega
  have c2 : (0 : Int) < (v.length : Int) := by omega
  unfold Max_fn Max_k Max_start
  simp only [c1, c2, decide_true, decide_false, Bool.false_eq_true, if_false, if_true, bindSome]
  exact e
theorem index_go {v : List Int} {x : Int} (hl : v.length ≤ 1000) : ∀ (n k i : Nat), n < k → i + n = v.length → (∃ j, i ≤ j ∧ j < v.length ∧ v.getD j 0 = x) →
    ∃ f : Nat, Index_go k (.l0 v x (v.length : Int) (i : Int)) = some ((f : Int), ()) ∧ f < v.length ∧ v.getD f 0 = x := by
  intro n
  induction n with
  | zero =>
    intro k i hk hi h1
    obtain ⟨j, j1, j2, _⟩ := h1
    omega
  | succ n ih =>
    intro k i hk hi h1
    obtain ⟨k, rfl⟩ : ∃ k', k = k' + 1 := ⟨k - 1, by omega⟩
    have hlt : (i : Int) < (v.length : Int) := by omega
    have h0 : (0 : Int) ≤ (i : Int) := by omega
    have w : IntKind.i64.wrap ((i : Int) + 1) = ((i + 1 : Nat) : Int) := by rw [i64_in _ (by omega)]; omega
    by_cases c : x = v.getD i 0
    · refine ⟨i, ?_, by omega, c.symm⟩
      have c' : (x == v.getD i 0) = true := by simpa using c
      simp only [Index_go, Index_body, hlt, h0, decide_true, if_true, Int.toNat_natCast, c']
    · have c' : (x == v.getD i 0) = false := by simpa using c
      obtain ⟨f, e, g⟩ := ih k (i + 1) (by omega) (by omega) (by
        obtain ⟨j, j1, j2, j3⟩ := h1
        refine ⟨j, ?_, j2, j3⟩
        by_cases e : j = i
        · subst e; exact absurd j3.symm c
        · omega)
      refine ⟨f, ?_, g⟩
      simp only [Index_go, Index_body, hlt, h0, decide_true, if_true, Int.toNat_natCast, c', Bool.false_eq_true, if_false, w, bindSome]
      exact e
theorem index_ok {v : List Int} {x : Int} (hl : v.length ≤ 1000) (h : ∃ j, j < v.length ∧ v.getD j 0 = x) : ∃ f : Nat, Index_fn v x = some ((f : Int), ()) ∧ f < v.length ∧ v.getD f 0 = x := by
  obtain ⟨j, j1, j2⟩ := h
  obtain ⟨f, e, g⟩ := index_go (x := x) hl v.length (v.length + 1) 0 (by omega) (by omega) ⟨j, by omega, j1, j2⟩
  refine ⟨f, ?_, g⟩
  unfold Index_fn Index_k Index_start
  simp only [bindSome]
  exact e

/-! sums, and how many are not nought -/
def sm : List Int → Int
  | [] => 0
  | x :: l => x + sm l
def nz : List Int → Nat
  | [] => 0
  | x :: l => (if x = 0 then 0 else 1) + nz l
theorem sm_set : ∀ {v : List Int} {i : Nat} {x : Int}, i < v.length → sm (v.set i x) = sm v - v.getD i 0 + x := by
  intro v
  induction v with
  | nil => intro i x h; simp at h
  | cons y v ih =>
    intro i x h
    cases i with
    | zero => simp [sm]; omega
    | succ i =>
      have := ih (i := i) (x := x) (by simpa using h)
      simp only [List.set_cons_succ, sm, this, List.getD_cons_succ]
      omega
theorem nz_set : ∀ {v : List Int} {i : Nat} {x : Int}, i < v.length → nz (v.set i x) + (if v.getD i 0 = 0 then 0 else 1) = nz v + (if x = 0 then 0 else 1) := by
  intro v
  induction v with
  | nil => intro i x h; simp at h
  | cons y v ih =>
    intro i x h
    cases i with
    | zero => simp only [List.set_cons_zero, nz, List.getD_cons_zero]; omega
    | succ i =>
      have := ih (i := i) (x := x) (by simpa using h)
      simp only [List.set_cons_succ, nz, List.getD_cons_succ]
      omega
theorem getD_succ {x : Int} {v : List Int} {i : Nat} : (x :: v).getD (i + 1) 0 = v.getD i 0 := List.getD_cons_succ
theorem all_zero : ∀ {v : List Int}, (∀ j, j < v.length → 0 ≤ v.getD j 0) → sm v ≤ 0 → (∀ j, v.getD j 0 = 0) ∧ nz v = 0 := by
  intro v
  induction v with
  | nil => intro _ _; exact ⟨fun j => rfl, rfl⟩
  | cons x v ih =>
    intro h hs
    have h0 : 0 ≤ x := h 0 (by simp)
    have hr : ∀ j, j < v.length → 0 ≤ v.getD j 0 := fun j hj => by have := h (j + 1) (by simpa using hj); rwa [getD_succ] at this
    have hnn : ∀ {u : List Int}, (∀ j, j < u.length → 0 ≤ u.getD j 0) → 0 ≤ sm u := by
      intro u
      induction u with
      | nil => intro _; exact Int.le_refl _
      | cons y u ihu =>
        intro hu
        have := ihu fun j hj => by have := hu (j + 1) (by simpa using hj); rwa [getD_succ] at this
        have h1 : 0 ≤ y := hu 0 (by simp)
        simp only [sm]; omega
    have := hnn hr
    simp only [sm] at hs
    obtain rfl : x = 0 := by omega
    obtain ⟨g1, g2⟩ := ih hr (by omega)
    refine ⟨fun j => ?_, by simp [nz, g2]⟩
    cases j with
    | zero => rfl
    | succ j => rw [getD_succ]; exact g1 j
theorem all_zero' : ∀ {v : List Int}, (∀ j, j < v.length → v.getD j 0 ≤ 0) → 0 ≤ sm v → (∀ j, v.getD j 0 = 0) ∧ nz v = 0 := by
  intro v h hs
  have e1 : ∀ (u : List Int), sm (u.map (0 - ·)) = - sm u ∧ nz (u.map (0 - ·)) = nz u ∧ ∀ j, (u.map (0 - ·)).getD j 0 = - u.getD j 0 := by
    intro u
    induction u with
    | nil => exact ⟨rfl, rfl, fun j => rfl⟩
    | cons x u ih =>
      refine ⟨by simp only [List.map_cons, sm, ih.1]; omega, ?_, fun j => ?_⟩
      · simp only [List.map_cons, nz, ih.2.1]
        congr 1
        by_cases hx : x = 0
        · subst hx; rfl
        · rw [if_neg hx, if_neg (by omega)]
      · cases j with
        | zero => simp
        | succ j => simp only [List.map_cons]; rw [getD_succ, getD_succ]; exact ih.2.2 j
  obtain ⟨a, b, c⟩ := e1 v
  obtain ⟨g1, g2⟩ := all_zero (v := v.map (0 - ·)) (fun j hj => by rw [c]; have := h j (by simpa using hj); omega) (by omega)
  exact ⟨fun j => by have := g1 j; rw [c] at this; omega, by rw [← b]; exact g2⟩

def stepC (v : List Int) (f t : Nat) (a : Int) : List Int := (v.set f (v.getD f 0 + a)).set t ((v.set f (v.getD f 0 + a)).getD t 0 - a)
structure CInv (N : List Int) (v : List Int) (pays : List Debt) : Prop where
  len : v.length = 20
  net : ∀ p : Nat, p < 20 → v.getD p 0 + S (p : Int) pays = N.getD p 0
  sum : sm v = 0
  sign : ∀ p : Nat, p < 20 → (0 ≤ v.getD p 0 ∧ v.getD p 0 ≤ N.getD p 0) ∨ (N.getD p 0 ≤ v.getD p 0 ∧ v.getD p 0 ≤ 0)
  ok : ∀ d, d ∈ pays → Valid d ∧ N.getD d.1.toNat 0 < 0 ∧ 0 < N.getD d.2.1.toNat 0
  cnt : pays.length + (nz v - 1) ≤ nz N - 1
theorem nz_le : ∀ {v : List Int}, nz v ≤ v.length := by
  intro v
  induction v with
  | nil => exact Nat.le_refl _
  | cons x v ih => simp only [nz, List.length_cons]; split <;> omega
theorem clear_step {N v : List Int} {pays : List Debt} (h : CInv N v pays) (hB : ∀ p : Nat, p < 20 → N.getD p 0 ≤ 1000000000) {f t : Nat} {a : Int} (hf : f < 20) (ht : t < 20) (ha : 1 ≤ a) (h1 : a ≤ - v.getD f 0) (h2 : a ≤ v.getD t 0) (h3 : a = - v.getD f 0 ∨ a = v.getD t 0) :
    CInv N (stepC v f t a) (pays ++ [((f : Int), (t : Int), a, ())]) ∧ nz (stepC v f t a) + 1 ≤ nz v := by
  have hlen := h.len
  have hne : f ≠ t := fun e => by subst e; omega
  have hget : ∀ p : Nat, (stepC v f t a).getD p 0 = if p = t then v.getD t 0 - a else if p = f then v.getD f 0 + a else v.getD p 0 := fun p => by
    unfold stepC
    rw [getD_set' (by simp; omega), getD_set' (by omega), getD_set' (by omega), if_neg (Ne.symm hne)]
  have hnz : nz (stepC v f t a) + 1 ≤ nz v := by
    have e1 := nz_set (v := v) (i := f) (x := v.getD f 0 + a) (by omega)
    have e2 := nz_set (v := v.set f (v.getD f 0 + a)) (i := t) (x := (v.set f (v.getD f 0 + a)).getD t 0 - a) (by simp; omega)
    rw [getD_set' (by omega), if_neg (Ne.symm hne)] at e2
    have e3 : stepC v f t a = (v.set f (v.getD f 0 + a)).set t (v.getD t 0 - a) := by
      unfold stepC; rw [getD_set' (by omega), if_neg (Ne.symm hne)]
    rw [e3]
    rw [if_neg (by omega)] at e1 e2
    rcases h3 with h3 | h3
    · rw [if_pos (by omega)] at e1; split at e2 <;> omega
    · rw [if_pos (by omega : v.getD t 0 - a = 0)] at e2; split at e1 <;> omega
  refine ⟨⟨by simp [stepC, hlen], fun p hp => ?_, ?_, fun p hp => ?_, fun d hd => ?_, ?_⟩, hnz⟩
  · rw [hget p, S_append]
    have := h.net p hp
    simp only [S, eff]
    by_cases e : p = t
    · subst e
      rw [if_pos rfl, if_pos rfl, if_neg (by omega)]; omega
    · rw [if_neg e, if_neg (by omega : ¬ (t : Int) = (p : Int))]
      by_cases e2 : p = f
      · subst e2; rw [if_pos rfl, if_pos rfl]; omega
      · rw [if_neg e2, if_neg (by omega)]; omega
  · unfold stepC
    rw [sm_set (by simp; omega), sm_set (by omega)]
    have := h.sum
    omega
  · rw [hget p]
    have hs := h.sign p hp
    have hsf := h.sign f hf
    have hst := h.sign t ht
    by_cases e : p = t
    · subst e; rw [if_pos rfl]; omega
    · rw [if_neg e]
      by_cases e2 : p = f
      · subst e2; rw [if_pos rfl]; omega
      · rw [if_neg e2]; exact hs
  · rcases List.mem_append.1 hd with hd | hd
    · exact h.ok d hd
    · simp only [List.mem_singleton] at hd
      subst hd
      have hsf := h.sign f hf
      have hst := h.sign t ht
      have := hB t ht
      refine ⟨⟨by dsimp only; omega, by dsimp only; omega, by dsimp only; omega, by dsimp only; omega, by dsimp only; omega, ha, by dsimp only; omega⟩, ?_, ?_⟩
      · dsimp only; rw [Int.toNat_natCast]; omega
      · dsimp only; rw [Int.toNat_natCast]; omega
  · have hc := h.cnt
    simp only [List.length_append, List.length_singleton]
    -- two at least were not nought
    have two : 2 ≤ nz v := by
      have e1 := nz_set (v := v) (i := f) (x := 0) (by omega)
      have e2 := nz_set (v := v.set f 0) (i := t) (x := 0) (by simp; omega)
      rw [getD_set' (by omega), if_neg (Ne.symm hne)] at e2
      rw [if_neg (by omega), if_pos rfl] at e1 e2
      omega
    omega
end Go.Proofs.Ytbpfllifhpdlfaa.Ev

/- FnCleared, the plain law: ClearAll. -/
namespace Go.Proofs.Ytbpfllifhpdlfaa.Ev
open Go Go.IntWalk
set_option linter.unusedVariables false
set_option linter.unusedSimpArgs false

theorem clear_go {N : List Int} (hN : N.length = 20) (hB : ∀ p : Nat, p < 20 → -1000000000 ≤ N.getD p 0 ∧ N.getD p 0 ≤ 1000000000) : ∀ (n k : Nat) (v : List Int) (pays : List Debt), n < k → nz v ≤ n → CInv N v pays →
    ∃ r, ClearAll_go k (.l0 v pays) = some (r, ()) ∧ (∀ p : Nat, p < 20 → S (p : Int) r = N.getD p 0) ∧ (∀ d, d ∈ r → Valid d ∧ N.getD d.1.toNat 0 < 0 ∧ 0 < N.getD d.2.1.toNat 0) ∧ r.length ≤ nz N - 1 := by
  intro n
  induction n with
  | zero =>
    intro k v pays hk hn h
    obtain ⟨k, rfl⟩ : ∃ k', k = k' + 1 := ⟨k - 1, by omega⟩
    have hlen := h.len
    obtain ⟨m, e1, ⟨j1, j1a, j1b⟩, m2⟩ := min_ok (v := v) (by omega) (by omega)
    obtain ⟨f, e2, hf, hfv⟩ := index_ok (v := v) (x := m) (by omega) ⟨j1, j1a, j1b⟩
    obtain ⟨M, e3, ⟨j2, j2a, j2b⟩, M2⟩ := max_ok (v := v) (by omega) (by omega)
    obtain ⟨t, e4, ht, htv⟩ := index_ok (v := v) (x := M) (by omega) ⟨j2, j2a, j2b⟩
    have zero : ∀ {u : List Int}, nz u ≤ 0 → ∀ j, u.getD j 0 = 0 := by
      intro u
      induction u with
      | nil => intro _ j; rfl
      | cons x u ih =>
        intro hu j
        simp only [nz] at hu
        by_cases hx : x = 0
        · rw [if_pos hx] at hu
          cases j with
          | zero => exact hx
          | succ j => rw [getD_succ]; exact ih (by omega) j
        · rw [if_neg hx] at hu; omega
    have z := zero hn
    refine ⟨pays, ?_, fun p hp => ?_, h.ok, ?_⟩
    · have c1 : (f : Int) < (v.length : Int) := by omega
      have c2 : (t : Int) < (v.length : Int) := by omega
      have c0 : (0 : Int) ≤ (f : Int) := by omega
      have c3 : (0 : Int) ≤ (t : Int) := by omega
      have w : IntKind.i64.wrap (0 - 0) = 0 := i64_in _ (by omega)
      simp only [ClearAll_go, ClearAll_body, e1, e2, e3, e4, Option.bind_some, c0, c1, c2, c3, decide_true, if_true, Int.toNat_natCast, z, w, Bool.false_eq_true, if_false, Int.lt_irrefl, beq_self_eq_true]
    · have := h.net p hp
      rw [z] at this; omega
    · have := h.cnt; omega
  | succ n ih =>
    intro k v pays hk hn h
    obtain ⟨k, rfl⟩ : ∃ k', k = k' + 1 := ⟨k - 1, by omega⟩
    have hlen := h.len
    obtain ⟨m, e1, ⟨j1, j1a, j1b⟩, m2⟩ := min_ok (v := v) (by omega) (by omega)
    obtain ⟨f, e2, hf, hfv⟩ := index_ok (v := v) (x := m) (by omega) ⟨j1, j1a, j1b⟩
    obtain ⟨M, e3, ⟨j2, j2a, j2b⟩, M2⟩ := max_ok (v := v) (by omega) (by omega)
    obtain ⟨t, e4, ht, htv⟩ := index_ok (v := v) (x := M) (by omega) ⟨j2, j2a, j2b⟩
    have c1 : (f : Int) < (v.length : Int) := by omega
    have c2 : (t : Int) < (v.length : Int) := by omega
    have c0 : (0 : Int) ≤ (f : Int) := by omega
    have c3 : (0 : Int) ≤ (t : Int) := by omega
    have hbf := hB f (by omega)
    have hbt := hB t (by omega)
    have hsf := h.sign f (by omega)
    have hst := h.sign t (by omega)
    have w : IntKind.i64.wrap (0 - v.getD f 0) = 0 - v.getD f 0 := i64_in _ (by omega)
    obtain ⟨a, hA⟩ : ∃ a, a = if v.getD t 0 < 0 - v.getD f 0 then v.getD t 0 else 0 - v.getD f 0 := ⟨_, rfl⟩
    -- nought lies between
    have m0 : v.getD f 0 ≤ 0 := by
      rw [hfv]
      by_cases hc : m ≤ 0
      · exact hc
      · exfalso
        have := (all_zero (v := v) (fun j hj => by have := m2 j hj; omega) (by rw [h.sum]; exact Int.le_refl _)).1 f
        omega
    have M0 : 0 ≤ v.getD t 0 := by
      rw [htv]
      by_cases hc : 0 ≤ M
      · exact hc
      · exfalso
        have := (all_zero' (v := v) (fun j hj => by have := M2 j hj; omega) (by rw [h.sum]; exact Int.le_refl _)).1 t
        omega
    by_cases ha : a = 0
    · -- all is settled
      have hz : (∀ j, v.getD j 0 = 0) ∧ nz v = 0 := by
        by_cases hc : v.getD f 0 = 0
        · exact all_zero (fun j hj => by have := m2 j hj; omega) (by rw [h.sum]; exact Int.le_refl _)
        · have : v.getD t 0 = 0 := by rw [hA] at ha; split at ha <;> omega
          exact all_zero' (fun j hj => by have := M2 j hj; omega) (by rw [h.sum]; exact Int.le_refl _)
      refine ⟨pays, ?_, fun p hp => ?_, h.ok, ?_⟩
      · have hA0 : (if v.getD t 0 < 0 - v.getD f 0 then v.getD t 0 else 0 - v.getD f 0) = 0 := by rw [← hA]; exact ha
        simp only [ClearAll_go, ClearAll_body, e1, e2, e3, e4, Option.bind_some, c0, c1, c2, c3, decide_true, if_true, Int.toNat_natCast, w, Bool.false_eq_true, if_false, hA0, beq_self_eq_true]
      · have := h.net p hp
        rw [hz.1] at this; omega
      · have := h.cnt; omega
    · have ha1 : 1 ≤ a ∧ a ≤ - v.getD f 0 ∧ a ≤ v.getD t 0 ∧ (a = - v.getD f 0 ∨ a = v.getD t 0) := by
        by_cases hc : v.getD t 0 < 0 - v.getD f 0
        · rw [if_pos hc] at hA; omega
        · rw [if_neg hc] at hA; omega
      obtain ⟨a1, a2, a3, a4⟩ := ha1
      obtain ⟨hI, hnz⟩ := clear_step h (fun p hp => (hB p hp).2) (f := f) (t := t) (a := a) (by omega) (by omega) a1 a2 a3 a4
      obtain ⟨r, e, g⟩ := ih k _ _ (by omega) (by omega) hI
      refine ⟨r, ?_, g⟩
      have hA' : (if v.getD t 0 < 0 - v.getD f 0 then v.getD t 0 else 0 - v.getD f 0) = a := hA.symm
      have hne : f ≠ t := fun e => by subst e; omega
      have hb : (a == 0) = false := by simpa using ha
      have w1 : IntKind.i64.wrap (v.getD f 0 + a) = v.getD f 0 + a := i64_in _ (by omega)
      have w2 : IntKind.i64.wrap ((v.set f (v.getD f 0 + a)).getD t 0 - a) = (v.set f (v.getD f 0 + a)).getD t 0 - a := by
        refine i64_in _ ?_
        rw [getD_set' hf, if_neg (Ne.symm hne)]; omega
      have hpl : pays.length ≤ 20 := by have := h.cnt; have := nz_le (v := N); omega
      have hs1 : (pays.length + 1) * 24 ≤ 140737488355328 := by omega
      have hs2 : pays.length + 1 ≤ 9223372036854775807 := by omega
      simp only [ClearAll_go, ClearAll_body, e1, e2, e3, e4, Option.bind_some, c0, c1, c2, c3, decide_true, if_true, Int.toNat_natCast, w, Bool.false_eq_true, if_false, hA', hb, List.length_set, w1, w2, List.replicate, List.set_cons_zero, List.length_singleton, hs1, hs2, bindSome]
      exact e
theorem net_sum : ∀ {l : List Debt} {v : List Int}, (∀ d ∈ l, Valid d) → v.length = 20 → sm (l.foldl stepN v) = sm v ∧ (l.foldl stepN v).length = 20 ∧ ∀ p : Nat, (l.foldl stepN v).getD p 0 = v.getD p 0 + S (p : Int) l := by
  intro l
  induction l with
  | nil => intro v _ hv; exact ⟨rfl, hv, fun p => by simp [S]⟩
  | cons d l ih =>
    intro v h hv
    have hd := h d List.mem_cons_self
    obtain ⟨s1, s2⟩ := stepN_ok hv hd
    obtain ⟨g1, g2, g3⟩ := ih (v := stepN v d) (fun x hx => h x (List.mem_cons_of_mem _ hx)) s1
    obtain ⟨h1, h2, h3, h4, h5, h6, h7⟩ := hd
    refine ⟨?_, g2, fun p => ?_⟩
    · rw [List.foldl_cons, g1]
      unfold stepN
      rw [sm_set (by simp; omega), sm_set (by omega), getD_set' (by omega)]
      split <;> omega
    · rw [List.foldl_cons, g3, s2, S]; omega
theorem net_zero {l : List Debt} {w : List Int} (hv : ∀ d ∈ l, Valid d) (h : NetIs l w) : sm w = 0 := by
  obtain ⟨g1, g2, g3⟩ := net_sum (l := l) (v := List.replicate 20 0) hv (by simp)
  have : w = l.foldl stepN (List.replicate 20 0) := h.uniq ⟨g2, fun p hp => by rw [g3, rep_get]; omega⟩ (fun _ _ => rfl)
  rw [this, g1]
  rfl
theorem S_small {p : Int} : ∀ {l : List Debt}, (∀ d ∈ l, Drawn d) → -(20 * (l.length : Int)) ≤ S p l ∧ S p l ≤ 20 * (l.length : Int) := by
  intro l
  induction l with
  | nil => intro _; simp [S]
  | cons d l ih =>
    intro h
    have h1 := ih fun d hd => h d (List.mem_cons_of_mem _ hd)
    obtain ⟨_, _, _, _, h5, h6, h7⟩ := h d List.mem_cons_self
    have h2 : -20 ≤ eff p d ∧ eff p d ≤ 20 := by unfold eff; split <;> split <;> omega
    simp only [S, List.length_cons]
    omega
theorem Drawn.valid {d : Debt} (h : Drawn d) : Valid d := by
  obtain ⟨h1, h2, h3, h4, h5, h6, h7⟩ := h
  exact ⟨h1, by omega, h3, by omega, h5, h6, by omega⟩
theorem clear_ok {l : List Debt} (hd : ∀ d ∈ l, Drawn d) (hl : l.length ≤ 17) {w : List Int} (hw : NetIs l w) : ∃ r, ClearAll_fn l = some (r, ()) ∧ (∀ p : Nat, p < 20 → S (p : Int) r = w.getD p 0) ∧ (∀ d, d ∈ r → Valid d ∧ w.getD d.1.toNat 0 < 0 ∧ 0 < w.getD d.2.1.toNat 0) ∧ r.length ≤ nz w - 1 := by
  have hv : ∀ d ∈ l, Valid d := fun d h => (hd d h).valid
  obtain ⟨w', e, hw'⟩ := net_ok hv (by omega)
  obtain rfl : w' = w := hw'.uniq hw (fun _ _ => rfl)
  have hB : ∀ p : Nat, p < 20 → -1000000000 ≤ w'.getD p 0 ∧ w'.getD p 0 ≤ 1000000000 := fun p hp => by
    rw [hw.2 p hp]
    have := S_small (p := (p : Int)) hd
    omega
  have h0 : CInv w' w' [] := ⟨hw.1, fun p hp => by simp [S], net_zero hv hw, fun p hp => by omega, fun d hd => absurd hd (by simp), by simp⟩
  have hnz : nz w' ≤ 20 := by have := nz_le (v := w'); have := hw.1; omega
  obtain ⟨r, e2, g⟩ := clear_go hw.1 hB 20 1000 w' [] (by omega) hnz h0
  refine ⟨r, ?_, g⟩
  unfold ClearAll_fn ClearAll_k ClearAll_start
  simp only [are_ok hv (by omega), Option.bind_some, Bool.not_true, Bool.false_eq_true, if_false, e, List.replicate, bindSome]
  exact e2
end Go.Proofs.Ytbpfllifhpdlfaa.Ev

/- FnCleared, the plain law: Fold. -/
namespace Go.Proofs.Ytbpfllifhpdlfaa.Ev
open Go Go.IntWalk
set_option linter.unusedVariables false
set_option linter.unusedSimpArgs false

def sumN : Nat → (Nat → Int) → Int
  | 0, _ => 0
  | n + 1, f => sumN n f + f n
theorem sumN_congr {n : Nat} {f g : Nat → Int} (h : ∀ i, i < n → f i = g i) : sumN n f = sumN n g := by
  induction n with
  | zero => rfl
  | succ n ih => simp only [sumN]; rw [ih fun i hi => h i (by omega), h n (by omega)]
theorem sumN_add {n : Nat} {f g : Nat → Int} : sumN n (fun i => f i + g i) = sumN n f + sumN n g := by
  induction n with
  | zero => rfl
  | succ n ih => simp only [sumN, ih]; omega
theorem sumN_sub {n : Nat} {f g : Nat → Int} : sumN n (fun i => f i - g i) = sumN n f - sumN n g := by
  induction n with
  | zero => rfl
  | succ n ih => simp only [sumN, ih]; omega
theorem sumN_zero {n : Nat} : sumN n (fun _ => 0) = 0 := by
  induction n with
  | zero => rfl
  | succ n ih => simp only [sumN, ih]; omega
theorem sumN_pick {n p : Nat} {h : Nat → Int} : sumN n (fun i => if i = p then h i else 0) = if p < n then h p else 0 := by
  induction n with
  | zero => simp [sumN]
  | succ n ih =>
    simp only [sumN, ih]
    by_cases e : n = p
    · subst e; simp
    · by_cases c : p < n
      · rw [if_pos c, if_neg e, if_pos (by omega)]; omega
      · rw [if_neg c, if_neg e, if_neg (by omega)]; rfl

def O (a b : Int) : List Debt → Int
  | [] => 0
  | d :: l => (if d.1 = a ∧ d.2.1 = b then d.2.2.1 else 0) + O a b l
theorem O_append (a b : Int) (x y : List Debt) : O a b (x ++ y) = O a b x + O a b y := by
  induction x with
  | nil => simp [O]
  | cons d x ih => simp only [List.cons_append, O, ih]; omega
theorem O_bound {a b : Int} : ∀ {l : List Debt}, (∀ d ∈ l, Drawn d) → 0 ≤ O a b l ∧ O a b l ≤ 20 * (l.length : Int) ∧ (0 < O a b l → 0 ≤ a ∧ a < 5 ∧ 0 ≤ b ∧ b < 5 ∧ a ≠ b) := by
  intro l
  induction l with
  | nil => intro _; simp [O]
  | cons d l ih =>
    intro h
    obtain ⟨i1, i2, i3⟩ := ih fun d hd => h d (List.mem_cons_of_mem _ hd)
    obtain ⟨h1, h2, h3, h4, h5, h6, h7⟩ := h d List.mem_cons_self
    simp only [O, List.length_cons]
    by_cases c : d.1 = a ∧ d.2.1 = b
    · rw [if_pos c]
      refine ⟨by omega, by omega, fun _ => by omega⟩
    · rw [if_neg c]
      refine ⟨by omega, by omega, fun hp => i3 (by omega)⟩
theorem O_take {a b : Int} {l : List Debt} {i : Nat} (h : i < l.length) : O a b (l.take (i + 1)) = O a b (l.take i) + (if (l.getD i z4).1 = a ∧ (l.getD i z4).2.1 = b then (l.getD i z4).2.2.1 else 0) := by
  have e : l.take (i + 1) = l.take i ++ [l.getD i z4] := by
    rw [List.take_add_one, List.getD_eq_getElem?_getD, List.getElem?_eq_getElem h]
    rfl
  rw [e, O_append]
  simp [O]
theorem O_in {p : Nat} (hp : p < 20) : ∀ {l : List Debt}, (∀ d ∈ l, Drawn d) → sumN 20 (fun q => O (q : Int) (p : Int) l) - sumN 20 (fun q => O (p : Int) (q : Int) l) = S (p : Int) l := by
  intro l
  induction l with
  | nil => intro _; simp only [O, S, sumN_zero]; rfl
  | cons d l ih =>
    intro h
    have i := ih fun d hd => h d (List.mem_cons_of_mem _ hd)
    obtain ⟨h1, h2, h3, h4, h5, h6, h7⟩ := h d List.mem_cons_self
    simp only [O, S, sumN_add]
    have e1 : sumN 20 (fun q => if d.1 = (q : Int) ∧ d.2.1 = (p : Int) then d.2.2.1 else 0) = if d.2.1 = (p : Int) then d.2.2.1 else 0 := by
      rw [sumN_congr (g := fun q => if q = d.1.toNat then (if d.2.1 = (p : Int) then d.2.2.1 else 0) else 0), sumN_pick, if_pos (by omega)]
      intro q hq
      by_cases c : q = d.1.toNat
      · rw [if_pos c]
        by_cases c2 : d.2.1 = (p : Int)
        · rw [if_pos c2, if_pos ⟨by omega, c2⟩]
        · rw [if_neg c2, if_neg (fun hh => c2 hh.2)]
      · rw [if_neg c, if_neg (fun hh => by omega)]
    have e2 : sumN 20 (fun q => if d.1 = (p : Int) ∧ d.2.1 = (q : Int) then d.2.2.1 else 0) = if d.1 = (p : Int) then d.2.2.1 else 0 := by
      rw [sumN_congr (g := fun q => if q = d.2.1.toNat then (if d.1 = (p : Int) then d.2.2.1 else 0) else 0), sumN_pick, if_pos (by omega)]
      intro q hq
      by_cases c : q = d.2.1.toNat
      · rw [if_pos c]
        by_cases c2 : d.1 = (p : Int)
        · rw [if_pos c2, if_pos ⟨c2, by omega⟩]
        · rw [if_neg c2, if_neg (fun hh => c2 hh.1)]
      · rw [if_neg c, if_neg (fun hh => by omega)]
    rw [e1, e2]
    unfold eff
    omega

abbrev z20 : List Int := List.replicate 20 0
structure MatIs (l : List Debt) (M : List (List Int)) : Prop where
  len : M.length = 20
  row : ∀ a : Nat, a < 20 → (M.getD a z20).length = 20
  at_ : ∀ a b : Nat, a < 20 → b < 20 → (M.getD a z20).getD b 0 = O (a : Int) (b : Int) l
theorem getD_setM {M : List (List Int)} {i p : Nat} {x : List Int} (hi : i < M.length) : (M.set i x).getD p z20 = if p = i then x else M.getD p z20 := by
  rw [List.getD_eq_getElem?_getD, List.getElem?_set]
  split
  · rename_i e; subst e; simp [hi]
  · rename_i e; rw [if_neg (fun h => e h.symm), List.getD_eq_getElem?_getD]
theorem fold0 {l : List Debt} (hd : ∀ d ∈ l, Drawn d) (hl : l.length ≤ 17) : ∀ (n k i : Nat) (M : List (List Int)), i + n = l.length → MatIs (l.take i) M →
    ∃ M', MatIs l M' ∧ Fold_go (k + n + 1) (.l0 l (l.length : Int) (i : Int) M) = Fold_go k (.l1 0 M' []) := by
  intro n
  induction n with
  | zero =>
    intro k i M hi h
    have hlt : ¬ ((i : Int) < (l.length : Int)) := by omega
    rw [List.take_of_length_le (by omega)] at h
    exact ⟨M, h, by simp only [Fold_go, Fold_body, hlt, decide_false, Bool.false_eq_true, if_false, bindSome, Nat.add_zero, List.replicate]⟩
  | succ n ih =>
    intro k i M hi h
    have hlt : (i : Int) < (l.length : Int) := by omega
    have h0 : (0 : Int) ≤ (i : Int) := by omega
    have w : IntKind.i64.wrap ((i : Int) + 1) = ((i + 1 : Nat) : Int) := by rw [i64_in _ (by omega)]; omega
    obtain ⟨h1, h2, h3, h4, h5, h6, h7⟩ := hd _ (getD_mem (l := l) (i := i) (z := z4) (by omega))
    have c1 : (l.getD i z4).1 < 20 := by omega
    have c2 : (l.getD i z4).2.1 < 20 := by omega
    have hat := h.at_ (l.getD i z4).1.toNat (l.getD i z4).2.1.toNat (by omega) (by omega)
    have hbd := (O_bound (a := (((l.getD i z4).1.toNat : Nat) : Int)) (b := (((l.getD i z4).2.1.toNat : Nat) : Int)) (l := l.take i) fun d hx => hd d (List.mem_of_mem_take hx))
    have htl : (l.take i).length ≤ 17 := by rw [List.length_take]; omega
    have w1 : IntKind.i64.wrap ((M.getD (l.getD i z4).1.toNat z20).getD (l.getD i z4).2.1.toNat 0 + (l.getD i z4).2.2.1) = (M.getD (l.getD i z4).1.toNat z20).getD (l.getD i z4).2.1.toNat 0 + (l.getD i z4).2.2.1 := i64_in _ (by omega)
    have hM := h.len
    have hrow := h.row (l.getD i z4).1.toNat (by omega)
    obtain ⟨M', g1, g2⟩ := ih k (i + 1) (M.set (l.getD i z4).1.toNat ((M.getD (l.getD i z4).1.toNat z20).set (l.getD i z4).2.1.toNat ((M.getD (l.getD i z4).1.toNat z20).getD (l.getD i z4).2.1.toNat 0 + (l.getD i z4).2.2.1))) (by omega)
      ⟨by simp [hM], fun a ha => by
        rw [getD_setM (by omega)]
        split
        · simpa using hrow
        · exact h.row a ha, fun a b ha hb => by
        rw [O_take (by omega), getD_setM (by omega), ← h.at_ a b ha hb]
        by_cases ea : a = (l.getD i z4).1.toNat
        · rw [if_pos ea, getD_set' (by omega)]
          by_cases eb : b = (l.getD i z4).2.1.toNat
          · rw [if_pos eb, if_pos ⟨by omega, by omega⟩, ea, eb]
          · rw [if_neg eb, if_neg (fun hh => by omega), ea]; omega
        · rw [if_neg ea, if_neg (fun hh => by omega)]; omega⟩
    refine ⟨M', g1, ?_⟩
    rw [← g2, show k + (n + 1) + 1 = (k + n + 1) + 1 by omega]
    rw [Fold_go]
    simp only [Fold_body, hlt, h0, h1, h3, c1, c2, decide_true, if_true, Int.toNat_natCast, w, w1, bindSome]

def diff (l : List Debt) (a b : Nat) : Int := O (a : Int) (b : Int) l - O (b : Int) (a : Int) l
def gp (l : List Debt) (p a b : Nat) : Int := if diff l a b > 0 then (if b = p then diff l a b else 0) - (if a = p then diff l a b else 0) else 0
abbrev Lx (d e : Debt) : Prop := d.1 < e.1 ∨ (d.1 = e.1 ∧ d.2.1 < e.2.1)
structure FInv (l : List Debt) (a b : Nat) (out : List Debt) : Prop where
  ok : ∀ d, d ∈ out → Valid d ∧ (d.1 < (a : Int) ∨ (d.1 = (a : Int) ∧ d.2.1 < (b : Int)))
  srt : out.Pairwise Lx
  len : out.length ≤ 5 * min a 5 + (if a < 5 then min b 5 else 0)
  net : ∀ p : Nat, p < 20 → S (p : Int) out = sumN a (fun x => sumN 20 (gp l p x)) + sumN b (gp l p a)
theorem fold2 {l : List Debt} (hd : ∀ d ∈ l, Drawn d) (hl : l.length ≤ 17) {M : List (List Int)} (hM : MatIs l M) {a : Nat} (ha : a < 20) : ∀ (n k b : Nat) (out : List Debt), b + n = 20 → FInv l a b out →
    ∃ out', FInv l (a + 1) 0 out' ∧ Fold_go (k + n + 1) (.l2 (a : Int) (a : Int) (b : Int) M out) = Fold_go k (.l1 ((a + 1 : Nat) : Int) M out') := by
  intro n
  induction n with
  | zero =>
    intro k b out hb h
    obtain rfl : b = 20 := by omega
    have w : IntKind.i64.wrap ((a : Int) + 1) = ((a + 1 : Nat) : Int) := by rw [i64_in _ (by omega)]; omega
    have c : ¬ (((20 : Nat) : Int) < 20) := by omega
    refine ⟨out, ⟨fun d hx => ?_, h.srt, ?_, fun p hp => ?_⟩, by simp only [Fold_go, Fold_body, c, decide_false, Bool.false_eq_true, if_false, w, bindSome, Nat.add_zero]⟩
    · obtain ⟨h1, h2⟩ := h.ok d hx
      exact ⟨h1, by omega⟩
    · have := h.len
      split at this <;> split <;> omega
    · rw [h.net p hp]; simp only [sumN]; omega
  | succ n ih =>
    intro k b out hb h
    have c : ((b : Nat) : Int) < 20 := by omega
    have c1 : (0 : Int) ≤ (a : Int) := by omega
    have c2 : (a : Int) < 20 := by omega
    have c3 : (0 : Int) ≤ (b : Int) := by omega
    have w : IntKind.i64.wrap ((b : Int) + 1) = ((b + 1 : Nat) : Int) := by rw [i64_in _ (by omega)]; omega
    have hab := O_bound (a := (a : Int)) (b := (b : Int)) hd
    have hba := O_bound (a := (b : Int)) (b := (a : Int)) hd
    have wd : IntKind.i64.wrap ((M.getD a z20).getD b 0 - (M.getD b z20).getD a 0) = diff l a b := by
      rw [hM.at_ a b ha (by omega), hM.at_ b a (by omega) ha]
      exact i64_in _ (by omega)
    rw [show k + (n + 1) + 1 = (k + n + 1) + 1 by omega]
    by_cases hdf : diff l a b > 0
    · have hpos := hab.2.2 (by unfold diff at hdf; omega)
      have hlen := h.len
      obtain ⟨out', g1, g2⟩ := ih k (b + 1) (out ++ [((a : Int), (b : Int), diff l a b, ())]) (by omega)
        ⟨fun d hx => by
          rcases List.mem_append.1 hx with hx | hx
          · obtain ⟨h1, h2⟩ := h.ok d hx
            exact ⟨h1, by omega⟩
          · simp only [List.mem_singleton] at hx
            subst hx
            unfold diff at hdf ⊢
            refine ⟨⟨by dsimp only; omega, by dsimp only; omega, by dsimp only; omega, by dsimp only; omega, by dsimp only; omega, by dsimp only; omega, by dsimp only; omega⟩, ?_⟩
            dsimp only; omega,
        by
          rw [List.pairwise_append]
          refine ⟨h.srt, by simp, fun d hx e he => ?_⟩
          simp only [List.mem_singleton] at he
          subst he
          exact (h.ok d hx).2,
        by
          rw [if_pos (by omega)] at hlen ⊢
          simp only [List.length_append, List.length_singleton]
          omega,
        fun p hp => by
          rw [S_append, h.net p hp]
          simp only [S, sumN, eff, gp, if_pos hdf]
          have e1 : ((b : Int) = (p : Int)) ↔ b = p := by omega
          have e2 : ((a : Int) = (p : Int)) ↔ a = p := by omega
          simp only [e1, e2]
          omega⟩
      refine ⟨out', g1, ?_⟩
      rw [← g2]
      have hr1 : List.replicate 1 z4 = [z4] := rfl
      have hs : out.length ≤ 1000 := by split at hlen <;> omega
      have hs1 : (out.length + 1) * 24 ≤ 140737488355328 := by omega
      have hs2 : out.length + 1 ≤ 9223372036854775807 := by omega
      rw [Fold_go]
      simp only [Fold_body, c, c1, c2, c3, decide_true, if_true, Int.toNat_natCast, wd, hdf, hr1, List.set_cons_zero, List.length_singleton, hs1, hs2, w, bindSome]
    · obtain ⟨out', g1, g2⟩ := ih k (b + 1) out (by omega)
        ⟨fun d hx => by
          obtain ⟨h1, h2⟩ := h.ok d hx
          exact ⟨h1, by omega⟩, h.srt, by
          have := h.len
          split at this
          · rw [if_pos (by omega)]; omega
          · rw [if_neg (by omega)]; omega, fun p hp => by
          rw [h.net p hp]
          simp only [sumN, gp, if_neg hdf]
          omega⟩
      refine ⟨out', g1, ?_⟩
      rw [← g2]
      rw [Fold_go]
      simp only [Fold_body, c, c1, c2, c3, decide_true, if_true, Int.toNat_natCast, wd, hdf, decide_false, Bool.false_eq_true, if_false, w, bindSome]
theorem fold1 {l : List Debt} (hd : ∀ d ∈ l, Drawn d) (hl : l.length ≤ 17) {M : List (List Int)} (hM : MatIs l M) : ∀ (n k a : Nat) (out : List Debt), a + n = 20 → FInv l a 0 out →
    ∃ out', FInv l 20 0 out' ∧ Fold_go (k + n * 22 + 1) (.l1 (a : Int) M out) = some (out', ()) := by
  intro n
  induction n with
  | zero =>
    intro k a out ha h
    obtain rfl : a = 20 := by omega
    have c : ¬ (((20 : Nat) : Int) < 20) := by omega
    exact ⟨out, h, by simp only [Fold_go, Fold_body, c, decide_false, Bool.false_eq_true, if_false]⟩
  | succ n ih =>
    intro k a out ha h
    have c : ((a : Nat) : Int) < 20 := by omega
    obtain ⟨o1, g1, e1⟩ := fold2 hd hl hM (a := a) (by omega) 20 (k + n * 22 + 1) 0 out (by omega) h
    obtain ⟨o2, g2, e2⟩ := ih k (a + 1) o1 (by omega) g1
    refine ⟨o2, g2, ?_⟩
    rw [show k + (n + 1) * 22 + 1 = (k + n * 22 + 1 + 20 + 1) + 1 by omega, Fold_go]
    simp only [Fold_body, c, decide_true, if_true, bindSome]
    rw [← e2]
    exact e1
theorem gp_sum {l : List Debt} (hd : ∀ d ∈ l, Drawn d) {p : Nat} (hp : p < 20) : sumN 20 (fun x => sumN 20 (gp l p x)) = S (p : Int) l := by
  have e1 : ∀ x, x < 20 → sumN 20 (gp l p x) = (if diff l x p > 0 then diff l x p else 0) - (if x = p then sumN 20 (fun y => if diff l p y > 0 then diff l p y else 0) else 0) := by
    intro x hx
    have : sumN 20 (gp l p x) = sumN 20 (fun y => (if y = p then (if diff l x y > 0 then diff l x y else 0) else 0) - (if x = p then (if diff l p y > 0 then diff l p y else 0) else 0)) := sumN_congr fun y hy => by
      unfold gp
      by_cases ex : x = p
      · subst ex; split <;> split <;> simp_all
      · split <;> split <;> simp_all
    rw [this, sumN_sub, sumN_pick, if_pos hp]
    congr 1
    by_cases ex : x = p
    · rw [if_pos ex]; exact sumN_congr fun y _ => by rw [if_pos ex]
    · rw [if_neg ex, sumN_congr (g := fun _ => 0) (fun y _ => by rw [if_neg ex]), sumN_zero]
  rw [sumN_congr e1, sumN_sub, sumN_pick, if_pos hp, ← sumN_sub, ← O_in hp hd, ← sumN_sub]
  refine sumN_congr fun q hq => ?_
  unfold diff
  split <;> split <;> omega
theorem fold_ok {l : List Debt} (hd : ∀ d ∈ l, Drawn d) (hl : l.length ≤ 17) : ∃ r, Fold_fn l = some (r, ()) ∧ (∀ d, d ∈ r → Valid d) ∧ r.Pairwise Lx ∧ r.length ≤ 60 ∧ ∀ p : Nat, p < 20 → S (p : Int) r = S (p : Int) l := by
  have hv : ∀ d ∈ l, Valid d := fun d h => (hd d h).valid
  have hz : ∀ a : Nat, (List.replicate 20 z20).getD a z20 = z20 := fun a => by
    rw [List.getD_eq_getElem?_getD, List.getElem?_replicate]; split <;> rfl
  obtain ⟨M, hM, e1⟩ := fold0 hd hl l.length (1000 - l.length - 1) 0 (List.replicate 20 z20) (by omega) ⟨by simp, fun a _ => by rw [hz]; simp, fun a b _ _ => by rw [hz, rep_get]; rfl⟩
  obtain ⟨r, g, e2⟩ := fold1 hd hl hM 20 (1000 - l.length - 1 - 441) 0 [] (by omega) ⟨fun d hd => absurd hd (by simp), List.Pairwise.nil, by simp, fun p hp => rfl⟩
  refine ⟨r, ?_, fun d hx => (g.ok d hx).1, g.srt, ?_, fun p hp => ?_⟩
  · unfold Fold_fn Fold_k Fold_start
    simp only [are_ok hv (by omega), Option.bind_some, Bool.not_true, Bool.false_eq_true, if_false, bindSome]
    have k1 : 1000 - l.length - 1 + l.length + 1 = 1000 := by omega
    have k2 : 1000 - l.length - 1 - 441 + 20 * 22 + 1 = 1000 - l.length - 1 := by omega
    rw [k1] at e1
    rw [k2] at e2
    have z : ((0 : Nat) : Int) = 0 := rfl
    rw [z] at e1 e2
    rw [e1]
    exact e2
  · have := g.len; simp at this; omega
  · have e3 : sumN 0 (gp l p 20) = 0 := rfl
    rw [g.net p hp, gp_sum hd hp, e3]
    omega
end Go.Proofs.Ytbpfllifhpdlfaa.Ev

/- FnCleared, the plain law. -/
namespace Go.Proofs.Ytbpfllifhpdlfaa.Ev
open Go Go.IntWalk
set_option linter.unusedVariables false
set_option linter.unusedSimpArgs false

theorem sm_take : ∀ {v : List Int} {i : Nat}, i < v.length → sm (v.take (i + 1)) = sm (v.take i) + v.getD i 0 := by
  intro v
  induction v with
  | nil => intro i h; simp at h
  | cons x v ih =>
    intro i h
    cases i with
    | zero => simp [sm]
    | succ i =>
      have := ih (i := i) (by simpa using h)
      rw [getD_succ, List.take_succ_cons, List.take_succ_cons]
      simp only [sm, this]
      omega
theorem nz_take : ∀ {v : List Int} {i : Nat}, i < v.length → nz (v.take (i + 1)) = nz (v.take i) + (if v.getD i 0 = 0 then 0 else 1) := by
  intro v
  induction v with
  | nil => intro i h; simp at h
  | cons x v ih =>
    intro i h
    cases i with
    | zero => simp [nz]
    | succ i =>
      have := ih (i := i) (by simpa using h)
      rw [getD_succ, List.take_succ_cons, List.take_succ_cons]
      simp only [nz, this]
      omega
section
variable {w : List Int} {pays folded : List Debt} (hw : w.length = 20) (hp : ∀ d, d ∈ pays → Valid d ∧ w.getD d.1.toNat 0 < 0 ∧ 0 < w.getD d.2.1.toNat 0) (hpl : pays.length ≤ 60) (hfl : folded.length ≤ 60)
include hw hp hpl
theorem law1 {s u : Int} {p : Nat} (hp20 : p < 20) : ∀ (n k i : Nat), i + n = pays.length → FnCleared_go (k + n + 1) (.l1 s u (p : Int) (i : Int) w pays folded) = FnCleared_go k (.l0 s u ((p + 1 : Nat) : Int) w pays folded) := by
  intro n
  induction n with
  | zero =>
    intro k i hi
    have hlt : ¬ ((i : Int) < (pays.length : Int)) := by omega
    have wp : IntKind.i64.wrap ((p : Int) + 1) = ((p + 1 : Nat) : Int) := by rw [i64_in _ (by omega)]; omega
    rw [FnCleared_go]
    simp only [FnCleared_body, hlt, decide_false, Bool.false_eq_true, if_false, wp, bindSome, Nat.add_zero]
  | succ n ih =>
    intro k i hi
    have hlt : (i : Int) < (pays.length : Int) := by omega
    have h0 : (0 : Int) ≤ (i : Int) := by omega
    have hp0 : (0 : Int) ≤ (p : Int) := by omega
    have hpw : (p : Int) < (w.length : Int) := by omega
    have wi : IntKind.i64.wrap ((i : Int) + 1) = ((i + 1 : Nat) : Int) := by rw [i64_in _ (by omega)]; omega
    obtain ⟨⟨h1, h2, h3, h4, h5, h6, h7⟩, g1, g2⟩ := hp _ (getD_mem (l := pays) (i := i) (z := z4) (by omega))
    rw [show k + (n + 1) + 1 = (k + n + 1) + 1 by omega, FnCleared_go, ← ih k (i + 1) (by omega)]
    by_cases c1 : (pays.getD i z4).1 = (p : Int)
    · have c1' : ((pays.getD i z4).1 == (p : Int)) = true := by simpa using c1
      have c2' : ((pays.getD i z4).2.1 == (p : Int)) = false := by simp only [beq_eq_false_iff_ne]; omega
      rw [c1, Int.toNat_natCast] at g1
      have n1 : ¬ w.getD p 0 ≥ 0 := by omega
      simp only [FnCleared_body, hlt, h0, hp0, hpw, c1', c2', n1, decide_true, decide_false, Bool.false_eq_true, if_false, if_true, Int.toNat_natCast, wi, bindSome]
    · have c1' : ((pays.getD i z4).1 == (p : Int)) = false := by simpa using c1
      by_cases c2 : (pays.getD i z4).2.1 = (p : Int)
      · have c2' : ((pays.getD i z4).2.1 == (p : Int)) = true := by simpa using c2
        rw [c2, Int.toNat_natCast] at g2
        have n2 : ¬ w.getD p 0 ≤ 0 := by omega
        simp only [FnCleared_body, hlt, h0, hp0, hpw, c1', c2', n2, decide_true, decide_false, Bool.false_eq_true, if_false, if_true, Int.toNat_natCast, wi, bindSome]
      · have c2' : ((pays.getD i z4).2.1 == (p : Int)) = false := by simpa using c2
        simp only [FnCleared_body, hlt, h0, hp0, hpw, c1', c2', decide_true, decide_false, Bool.false_eq_true, if_false, if_true, Int.toNat_natCast, wi, bindSome]
theorem law0 (hB : ∀ p : Nat, p < 20 → -1000000000 ≤ w.getD p 0 ∧ w.getD p 0 ≤ 1000000000) : ∀ (n k p : Nat) (s u : Int), p + n = 20 → s = sm (w.take p) → u = (nz (w.take p) : Nat) → -(1000000000 * (p : Int)) ≤ s → s ≤ 1000000000 * (p : Int) → u ≤ p → 0 ≤ u →
    FnCleared_go (k + n * (pays.length + 2) + 1) (.l0 s u (p : Int) w pays folded) = FnCleared_go k (.l2 (sm w) ((nz w : Nat) : Int) 1 pays folded) := by
  intro n
  induction n with
  | zero =>
    intro k p s u hpn hs hu _ _ _ _
    obtain rfl : p = 20 := by omega
    have hlt : ¬ (((20 : Nat) : Int) < (w.length : Int)) := by omega
    rw [List.take_of_length_le (by omega)] at hs hu
    rw [show k + 0 * (pays.length + 2) + 1 = k + 1 by omega, FnCleared_go]
    simp only [FnCleared_body, hlt, decide_false, Bool.false_eq_true, if_false, bindSome, hs, hu]
  | succ n ih =>
    intro k p s u hpn hs hu hs1 hs2 hu1 hu2
    have hlt : (p : Int) < (w.length : Int) := by omega
    have h0 : (0 : Int) ≤ (p : Int) := by omega
    have hb := hB p (by omega)
    have w1 : IntKind.i64.wrap (s + w.getD p 0) = s + w.getD p 0 := i64_in _ (by omega)
    have w2 : IntKind.i64.wrap (u + 1) = u + 1 := i64_in _ (by omega)
    have ts := sm_take (v := w) (i := p) (by omega)
    have tn := nz_take (v := w) (i := p) (by omega)
    have ek : k + (n + 1) * (pays.length + 2) + 1 = ((k + n * (pays.length + 2) + 1) + pays.length + 1) + 1 := by rw [Nat.succ_mul]; omega
    rw [ek, FnCleared_go]
    by_cases c : w.getD p 0 = 0
    · have c' : (w.getD p 0 != 0) = false := by rw [c]; rfl
      rw [if_pos c] at tn
      simp only [FnCleared_body, hlt, h0, c', decide_true, if_true, Bool.false_eq_true, if_false, Int.toNat_natCast, w1, bindSome]
      have := law1 hw hp hpl (folded := folded) (s := s + w.getD p 0) (u := u) (p := p) (by omega) pays.length (k + n * (pays.length + 2) + 1) 0 (by omega)
      have z : ((0 : Nat) : Int) = 0 := rfl
      rw [z] at this
      rw [this]
      exact ih k (p + 1) _ _ (by omega) (by omega) (by omega) (by omega) (by omega) (by omega) (by omega)
    · have c' : (w.getD p 0 != 0) = true := by simpa using c
      rw [if_neg c] at tn
      simp only [FnCleared_body, hlt, h0, c', decide_true, if_true, Bool.false_eq_true, if_false, Int.toNat_natCast, w1, w2, bindSome]
      have := law1 hw hp hpl (folded := folded) (s := s + w.getD p 0) (u := u + 1) (p := p) (by omega) pays.length (k + n * (pays.length + 2) + 1) 0 (by omega)
      have z : ((0 : Nat) : Int) = 0 := rfl
      rw [z] at this
      rw [this]
      exact ih k (p + 1) _ _ (by omega) (by omega) (by omega) (by omega) (by omega) (by omega) (by omega)
end
theorem law2 {pays folded : List Debt} {u : Nat} (hsrt : folded.Pairwise Lx) (hfl : folded.length ≤ 60) (hu : pays.length ≤ u - 1) : ∀ (n k i : Nat), n < k → 1 ≤ i → folded.length ≤ i + n → i ≤ 61 → FnCleared_go k (.l2 0 (u : Int) (i : Int) pays folded) = some (true, ()) := by
  intro n
  induction n with
  | zero =>
    intro k i hk hi hl hi2
    obtain ⟨k, rfl⟩ : ∃ k', k = k' + 1 := ⟨k - 1, by omega⟩
    have hlt : ¬ ((i : Int) < (folded.length : Int)) := by omega
    rw [FnCleared_go]
    by_cases cu : u = 0
    · subst cu
      have e0 : pays.length = 0 := by omega
      simp [FnCleared_body, hlt, e0]
    · have cu' : (((u : Nat) : Int) == 0) = false := by simp only [beq_eq_false_iff_ne]; omega
      have cl : (pays.length : Int) < (u : Int) := by omega
      simp only [FnCleared_body, hlt, decide_false, Bool.false_eq_true, if_false, beq_self_eq_true, if_true, cu', cl, decide_true]
  | succ n ih =>
    intro k i hk hi hl hi2
    obtain ⟨k, rfl⟩ : ∃ k', k = k' + 1 := ⟨k - 1, by omega⟩
    by_cases hlt : (i : Int) < (folded.length : Int)
    · have wm : IntKind.i64.wrap ((i : Int) - 1) = ((i - 1 : Nat) : Int) := by rw [i64_in _ (by omega)]; omega
      have wi : IntKind.i64.wrap ((i : Int) + 1) = ((i + 1 : Nat) : Int) := by rw [i64_in _ (by omega)]; omega
      have h0 : (0 : Int) ≤ (i : Int) := by omega
      have h1 : (0 : Int) ≤ ((i - 1 : Nat) : Int) := by omega
      have h2 : ((i - 1 : Nat) : Int) < (folded.length : Int) := by omega
      have hx : Lx (folded.getD (i - 1) z4) (folded.getD i z4) := by
        have := List.pairwise_iff_getElem.1 hsrt (i - 1) i (by omega) (by omega) (by omega)
        rw [List.getD_eq_getElem?_getD, List.getD_eq_getElem?_getD, List.getElem?_eq_getElem (by omega), List.getElem?_eq_getElem (by omega)]
        exact this
      have n1 : ¬ (folded.getD (i - 1) z4).1 > (folded.getD i z4).1 := by omega
      have ih' := ih k (i + 1) (by omega) (by omega) (by omega) (by omega)
      rw [FnCleared_go]
      by_cases c : (folded.getD (i - 1) z4).1 = (folded.getD i z4).1
      · have c' : ((folded.getD (i - 1) z4).1 == (folded.getD i z4).1) = true := by simpa using c
        have n2 : ¬ (folded.getD (i - 1) z4).2.1 ≥ (folded.getD i z4).2.1 := by omega
        simp only [FnCleared_body, hlt, wm, h0, h1, h2, n1, c', n2, decide_true, decide_false, Bool.false_eq_true, if_false, if_true, Int.toNat_natCast, wi, bindSome]
        exact ih'
      · have c' : ((folded.getD (i - 1) z4).1 == (folded.getD i z4).1) = false := by simpa using c
        simp only [FnCleared_body, hlt, wm, h0, h1, h2, n1, c', decide_true, decide_false, Bool.false_eq_true, if_false, if_true, Int.toNat_natCast, wi, bindSome]
        exact ih'
    · have := ih (k + 1) i (by omega) hi (by omega) hi2
      exact this
theorem fnCleared_pure : fnCleared.Pure := by
  intro xs hx
  unfold FnCleared_fn FnCleared_k FnCleared_start
  have hbig : big_fn xs = some (decide ((xs.length : Int) > 1048576), ()) := rfl
  rw [hbig, Option.bind_some]
  by_cases hb : (xs.length : Int) > 1048576
  · simp only [hb, decide_true, if_true]
  · simp only [hb, decide_false, Bool.false_eq_true, if_false]
    obtain ⟨l, m, e1, hl, hd⟩ := draw_ok (xs := xs) (by omega)
    have hv : ∀ d ∈ l, Valid d := fun d h => (hd d h).valid
    obtain ⟨w, e2, hw⟩ := inet_ok hv (by omega)
    obtain ⟨w', e3, hw'⟩ := snet_ok hv (by omega)
    obtain rfl : w' = w := hw'.uniq hw (fun _ _ => rfl)
    obtain ⟨pays, e4, p1, p2, p3⟩ := clear_ok hd hl hw
    obtain ⟨folded, e5, f1, f2, f3, f4⟩ := fold_ok hd hl
    have hlen := hw.1
    have hnz : nz w' ≤ 20 := by have := nz_le (v := w'); omega
    have hpv : ∀ d ∈ pays, Valid d := fun d h => (p2 d h).1
    obtain ⟨wp, e6, hwp⟩ := inet_ok hpv (by omega)
    obtain rfl : wp = w' := hwp.uniq hw (fun p hp => by rw [p1 p hp, hw.2 p hp])
    obtain ⟨wf, e7, hwf⟩ := inet_ok f1 f3
    obtain rfl : wf = wp := hwf.uniq hw f4
    have hsame := same_ok (a := wf) (by omega)
    have n20 : ((wf.length : Int) != 20) = false := by simp [hlen]
    simp only [e1, Option.bind_some, e2, e4, e5, e3, iok_ok hv (by omega), iok_ok hpv (by omega), iok_ok f1 f3, hsame, n20, e6, e7, Bool.not_true, Bool.false_eq_true, if_false, bindSome]
    have hB : ∀ p : Nat, p < 20 → -1000000000 ≤ wf.getD p 0 ∧ wf.getD p 0 ≤ 1000000000 := fun p hp => by
      rw [hw.2 p hp]
      have := S_small (p := (p : Int)) hd
      omega
    have h0 := law0 hlen p2 (by omega) (folded := folded) hB 20 (100000 - 20 * (pays.length + 2) - 1) 0 0 0 (by omega) rfl rfl (by omega) (by omega) (by omega) (by omega)
    have hk : 100000 - 20 * (pays.length + 2) - 1 + 20 * (pays.length + 2) + 1 = 100000 := by omega
    have z : ((0 : Nat) : Int) = 0 := rfl
    rw [hk, z, net_zero hv hw] at h0
    rw [h0]
    exact law2 (i := 1) f2 f3 p3 60 _ (by omega) (by omega) (by omega) (by omega)
end Go.Proofs.Ytbpfllifhpdlfaa.Ev
namespace Go.Proofs.Ytbpfllifhpdlfaa
theorem fnCleared_holds : Rows.FnClearedSaid := fnCleared.of_pure Ev.fnCleared_pure
end Go.Proofs.Ytbpfllifhpdlfaa

