/- From a law's contract to its row: what came in, told as data. -/
import Derived.Test.YtbpfllifhpdlfaaE25
import Derived.Below
namespace Go.Proofs.Ytbpfllifhpdlfaa.Ev
open Go Go.RowKit
set_option linter.unusedVariables false
set_option linter.unusedSimpArgs false

def IsRow (k : IntKind) (w : World) (a : Option Addr) (len cap : Nat) (zs : List Int) : Prop :=
  (a = none ∧ len = 0 ∧ cap = 0 ∧ zs = []) ∨ ∃ x, a = some x ∧ len ≤ cap ∧ cap ≤ maxLen ∧ zs.length = cap ∧ (∀ i, i < zs.length → w.cell? (x.add i) = some (.int k (zs.getD i 0))) ∧ ∀ n ∈ zs, (Lit.int k n).wf = true
theorem pval_ints {k : IntKind} {w : World} {a : Option Addr} {len cap : Nat} {zs : List Int} (h : IsRow k w a len cap zs) : PVal w (fun b => b < w.heap.size) (.slice (.int k)) (zs.take len) (.slice a len cap) := by
  rcases h with ⟨rfl, rfl, rfl, rfl⟩ | ⟨x, rfl, hl, _, hz, hc, _⟩
  · exact ⟨rfl, rfl, none, 0, rfl, Nat.le_refl _, fun hp => absurd hp (by simp)⟩
  · have hlen : (zs.take len).length = len := by rw [List.length_take]; omega
    refine ⟨rfl, rfl, some x, cap, by rw [hlen]; rfl, by rw [hlen]; exact hl, fun hp => ?_⟩
    rw [hlen] at hp
    have h0 := hc 0 (by omega)
    obtain ⟨b, off, spot⟩ := x
    simp only [Addr.add, if_true] at h0
    cases hh : w.heap[b]? with
    | none => simp only [World.cell?, hh] at h0; exact absurd h0 (by simp)
    | some blk =>
      have hb : b < w.heap.size := (Array.getElem?_eq_some_iff.1 hh).1
      have hs : spot = none := by
        cases spot with
        | none => rfl
        | some s =>
          simp only [World.cell?, hh] at h0
          cases blk <;> simp at h0
      subst hs
      refine ⟨b, off, rfl, hb, fun i hi => ?_⟩
      rw [hlen] at hi
      show w.cell? ⟨b, off + i * 1 + 0, none⟩ = _
      have h1 := hc i (by omega)
      have h2 : (⟨b, off + i * 1 + 0, none⟩ : Addr) = (⟨b, off, none⟩ : Addr).add i := by
        unfold Addr.add
        split
        · rename_i e; subst e; simp
        · simp
      rw [h2, h1, List.getElem_take]
      congr 2
      rw [List.getD_eq_getElem?_getD, List.getElem?_eq_getElem (by omega)]
      rfl
theorem pval_int {k : IntKind} {w : World} {J : Bs} {n : Int} : PVal w J (.int k) n (.int k n) := ⟨rfl, rfl, rfl⟩
theorem keep_below {w w' : World} (h : Keep (· ∈ ([] : List Nat)) w w') : Below w.heap.size w w' := ⟨h.os, h.tape, h.output, h.size, fun k hk => h.block k hk (by simp)⟩
/-- A law that is met and says true. -/
theorem law_true {P : Program} {g : FuncId} {sg : Sig} (hM : Meets P g sg) {w : World} {xs : (parsTy sg.ps).D} {vs : List Value} (ha : ArgsR w (fun b => b < w.heap.size) (fun b => b < w.heap.size) sg.ps xs vs [])
    (ho : sg.outs = .one (.pure .bool)) {r : sg.outs.ty.D × (mutsTy sg.ps).D} (hr : sg.fn xs = some r) (ht : HEq r.1 true) : Calls P g vs.toArray w fun e w' => e = .returned (.bool true) ∧ Below w.heap.size w w' := by
  refine (hM w _ _ xs vs [] (fun _ h => h) (fun _ h => h) ha (by simp) (fun b hb => absurd hb (by simp)) r hr).mono fun e w' h => ?_
  obtain ⟨v, rfl, I', owns, hp⟩ := h
  refine ⟨?_, keep_below hp.keep⟩
  have h1 := hp.outs
  obtain ⟨ps, outs, fn⟩ := sg
  dsimp only at ho
  subst ho
  have ht' : r.1 = true := eq_of_heq ht
  obtain ⟨h2, h3, h4, _⟩ := h1
  rw [ht'] at h4
  have h5 := one_cell h2 h3
  have h6 : cv v 0 = some (.bool true) := h4
  rw [h5] at h6
  injection h6 with h6
  rw [h6]
end Go.Proofs.Ytbpfllifhpdlfaa.Ev
