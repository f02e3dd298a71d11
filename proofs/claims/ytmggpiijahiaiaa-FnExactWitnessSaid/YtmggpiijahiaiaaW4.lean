/- Proved: the law laws.FnExactWitness returns true for every input, and the input reads behind the call as it read before. There are no conditions. (The last theorem: fnExactWitness_holds.) -/
import Derived.Test.YtmggpiijahiaiaaW3
import Derived.Test.YtmggpiijahiaiaaProg
/- slices.Insert of accounts: what it leaves, cell by cell; in place. -/
namespace Go.Proofs.Ytmggpiijahiaiaa.Ev
open Go Go.Proofs Go.Shelf Go.RowKit Go.Lib
set_option linter.unusedVariables false
set_option linter.unusedSimpArgs false
theorem acc_size (w : World) : (Go.sizeOf 71).run Try.prog w = .ok 5 w := by
  obtain ⟨i0, hi, hz0, hz1, hz2⟩ := info_parts acc_info
  simp [sizeOf, typeInfo, hi, hz1]
theorem acc_sz : (Try.prog.info? 71).map (·.size) = some 5 := by kernel_rfl

set_option maxHeartbeats 4000000 in
set_option maxRecDepth 1000000 in
theorem ins_shift (b n c i vb m vc : Nat) (cs vs : List Value) (w : World) (hi : i < n) (hm : 0 < m) (hroom : n + m ≤ c) (hbig : (n + m) * 40 ≤ 140737488355328) (hvb : vb ≠ b)
    (hcl : cs.length = n * 5) (hvl : vs.length = m * 5) (hcs : ∀ j v, cs[j]? = some v → w.cell? ⟨b, j, none⟩ = some v) (hP : Plain w b (c * 5)) (hV : Plain w vb (vc * 5))
    (hvs : ∀ j v, vs[j]? = some v → w.cell? ⟨vb, j, none⟩ = some v) (h1c : ∀ v ∈ cs, v.oneCell' = true) (h1v : ∀ v ∈ vs, v.oneCell' = true) :
    Calls Try.prog 87 #[.slice (some ⟨b, 0, none⟩) n c, .int .i64 i, .slice (some ⟨vb, 0, none⟩) m vc] w fun e w' =>
      e = .returned (.slice (some ⟨b, 0, none⟩) (n + m) c) ∧ w' = (w.drew.setCells b ((i + m) * 5) (cs.drop (i * 5))).setCells b (i * 5) vs := by
  have hz1 : ¬ ((m : Int) = 0) := by omega
  have hz2 : ¬ ((i : Int) = (n : Int)) := by omega
  have hov : ∀ lb cb, (callFunc 94 #[.slice (some ⟨vb, 0, none⟩) m vc, .slice (some ⟨b, (i + m) * 5, none⟩) lb cb]).run Try.prog w = .ok (.value (.bool false)) w := fun lb cb => by
    obtain ⟨cA, tA, hA, hA2⟩ := hV
    obtain ⟨cB, tB, hB, hB2⟩ := hP
    rw [run_callFunc_extern Try.func94 (by kernel_rfl) (by kernel_rfl) (by kernel_rfl) (e := Extern.SlicesOverlaps.overlaps #[47, 47] #[4]) (by kernel_rfl),
      Lib.run_overlaps_apart w 47 4 71 acc_row 5 acc_size ⟨vb, 0, none⟩ ⟨b, (i + m) * 5, none⟩ m vc lb cb hvb tA tB cA.size cB.size (by simp [World.shape?, hA]) (by simp [World.shape?, hB]) (by omega) (by simp [World.frozen?, hA]) (by simp [World.frozen?, hA])]
    rfl
  have hdl : (cs.drop (i * 5)).length = (n - i) * 5 := by rw [List.length_drop, hcl, Nat.sub_mul]
  have hw1 : IntKind.i64.wrap ((i : Int) + (m : Int)) = (i : Int) + (m : Int) := by rw [IntKind.wrap_i64]; omega
  have hb1 : (0 : Int) ≤ (i : Int) + (m : Int) := by omega
  have hin : i ≤ n := by omega
  have htn : ((i : Int) + (m : Int)).toNat = i + m := by omega
  have hb2 : ¬ (c = i + m) := by omega
  have hb3 : (i : Int) ≤ (n : Int) + (m : Int) := by omega
  have hb4 : ¬ (c = i) := by omega
  have hmin1 : Nat.min (n + m - i) (n + m - (i + m)) = n - i := by simp only [Nat.min_def]; split <;> omega
  have hmin2 : Nat.min m (n + m - i) = m := by simp only [Nat.min_def]; split <;> omega
  have hcp1 : ∀ ty dc sc, (Builtin.copy_ #[47, 47] ty #[.slice (some ⟨b, (i + m) * 5, none⟩) (n + m - (i + m)) dc, .slice (some ⟨b, i * 5, none⟩) (n + m - i) sc]).run Try.prog w.drew =   .ok (goInt ((n - i : Nat) : Int)) (w.drew.setCells b ((i + m) * 5) (cs.drop (i * 5))) := fun ty dc sc => by
    have h := run_copy_k (P := Try.prog) w.drew 47 47 ty 71 b ((i + m) * 5) (n + m - (i + m)) dc ⟨b, i * 5, none⟩ (n + m - i) sc (cs.drop (i * 5)) 5 acc_row acc_sz (by rw [hdl, hmin1])
      (fun j v hj => by rw [Addr.add_lit]; exact hcs _ v (by rwa [List.getElem?_drop] at hj))
      (fun j hj => (Plain.drew hP).cell (by omega)) (fun j hj => (Plain.drew hP).frozen _) (fun v hv => h1c v (List.mem_of_mem_drop hv))
    rw [hmin1] at h
    exact h
  obtain ⟨W1, hW1⟩ : ∃ W1, W1 = w.drew.setCells b ((i + m) * 5) (cs.drop (i * 5)) := ⟨_, rfl⟩
  have hP1 : Plain W1 b (c * 5) := by rw [hW1]; exact Plain.setCells (Plain.drew hP)
  have hcp2 : ∀ (W : World), (∀ x, W.cell? x = W1.cell? x) → (∀ x, W.frozen? x = W1.frozen? x) → ∀ ty dc, (Builtin.copy_ #[47, 47] ty #[.slice (some ⟨b, i * 5, none⟩) (n + m - i) dc, .slice (some ⟨vb, 0, none⟩) m vc]).run Try.prog W = .ok (goInt m) (W.setCells b (i * 5) vs) := fun W hWc hWf ty dc => by
    have h := run_copy_k (P := Try.prog) W 47 47 ty 71 b (i * 5) (n + m - i) dc ⟨vb, 0, none⟩ m vc vs 5 acc_row acc_sz (by rw [hvl, hmin2])
      (fun j v hj => by
        rw [Addr.add_lit, hWc, hW1, World.cell?_setCells_out b _ _ _ _ (fun h _ => absurd h hvb), Nat.zero_add]
        exact hvs j v hj)
      (fun j hj => by rw [hWc]; exact hP1.cell (by omega)) (fun j hj => by rw [hWf]; exact hP1.frozen _) h1v
    rw [hmin2] at h
    exact h
  rw [← hW1] at hcp1
  clear hP hP1 hV hdl
  go_enter Try.func87, Try.ntmps87
  go_wp2_with (simp only [hov])
  go_region_law (refine step_copy_runI rfl _ _ 47 47 rfl _ _ (by simp [Act.eval, Act.put]) (by simp [Act.eval, Act.put]) (hcp1 _ _ _) ?_)
  go_wp2_with (at_builtin; refine wpList_copy_runI _ rfl _ _ 47 47 rfl _ _ rfl rfl (hcp2 _ (fun _ => rfl) (fun _ => rfl) _ _) ?_)
  go_ret
  first | exact ⟨rfl, rfl⟩ | exact ⟨rfl, by rw [hW1]⟩

set_option maxHeartbeats 4000000 in
set_option maxRecDepth 100000 in
theorem ins_end_room (b n c vb m vc : Nat) (vs : List Value) (w : World) (hm : 0 < m) (hroom : n + m ≤ c) (hbig : (n + m) * 40 ≤ 140737488355328)
    (hvl : vs.length = m * 5) (hP : Plain w b (c * 5)) (hvs : ∀ j v, vs[j]? = some v → w.cell? ⟨vb, j, none⟩ = some v) (h1v : ∀ v ∈ vs, v.oneCell' = true) :
    Calls Try.prog 87 #[.slice (some ⟨b, 0, none⟩) n c, .int .i64 n, .slice (some ⟨vb, 0, none⟩) m vc] w fun e w' =>
      e = .returned (.slice (some ⟨b, 0, none⟩) (n + m) c) ∧ w' = w.setCells b (n * 5) vs := by
  obtain ⟨i0, hi0, hz0, hzs, hzb⟩ := info_parts acc_info
  have hz1 : ¬ ((m : Int) = 0) := by omega
  have hsrc : Src Try.prog i0.size 47 (.slice (some ⟨vb, 0, none⟩) m vc) m vs w := by
    rw [hzs]
    exact Src.ofSlice w acc_row ⟨vb, 0, none⟩ m vc vs hvl (fun j u hj => by rw [Addr.add_lit, Nat.zero_add]; exact hvs j u hj) h1v
  have s1 : Hid (∀ j, j < vs.length → (w.cell? ⟨b, 0 + n * i0.size + j, none⟩).isSome = true) := fun j hj => by rw [hzs]; exact hP.cell (by omega)
  have s2 : Hid (∀ j, j < vs.length → w.frozen? ⟨b, 0 + n * i0.size + j, none⟩ = false) := fun j hj => hP.frozen _
  have e5 : Hid (0 + n * i0.size = n * 5) := by show _ = _; rw [hzs]; omega
  clear hP
  go_enter Try.func87, Try.ntmps87
  go_wp2_with (at_builtin; refine wpList_append_room_src _ rfl _ _ 47 47 rfl 71 i0 acc_row hi0 b 0 n c rfl _ rfl m vs hsrc hroom s1.out s2.out ?_; rw [e5.out])
  go_ret
  exact ⟨rfl, rfl⟩

set_option maxHeartbeats 4000000 in
set_option maxRecDepth 100000 in
theorem ins_end_grow (base : Option Addr) (n c vb m vc : Nat) (cs vs : List Value) (w : World) (hm : 0 < m) (hnc : n ≤ c) (hroom : c < n + m) (hbig : (n + m) * 40 ≤ 140737488355328)
    (hcl : cs.length = n * 5) (hvl : vs.length = m * 5) (hnil : base = none → n = 0)
    (hcs : ∀ a, base = some a → ∀ j v, cs[j]? = some v → w.cell? (a.add j) = some v)
    (hvs : ∀ j v, vs[j]? = some v → w.cell? ⟨vb, j, none⟩ = some v) (h1v : ∀ v ∈ vs, v.oneCell' = true) :
    Calls Try.prog 87 #[.slice base n c, .int .i64 n, .slice (some ⟨vb, 0, none⟩) m vc] w fun e w' =>
      e = .returned (.slice (some ⟨w.heap.size, 0, none⟩) (n + m) (grownCap w (n + m) c 71)) ∧
      w' = w.drew.alloc (.cells ((cs ++ vs).toArray ++ Builtin.zeroCells accZ.cells (grownCap w (n + m) c 71 - (n + m))) 71) := by
  obtain ⟨i0, hi0, hz0, hzs, hzb⟩ := info_parts acc_info
  have hz1 : ¬ ((m : Int) = 0) := by omega
  have hsrc : Src Try.prog i0.size 47 (.slice (some ⟨vb, 0, none⟩) m vc) m vs w := by
    rw [hzs]
    exact Src.ofSlice w acc_row ⟨vb, 0, none⟩ m vc vs hvl (fun j u hj => by rw [Addr.add_lit, Nat.zero_add]; exact hvs j u hj) h1v
  have hold : (Builtin.firstCells i0.size n (.slice base n c)).run Try.prog w.drew = .ok cs.toArray w.drew := by
    rw [hzs]
    cases base with
    | none =>
      have h0 := hnil rfl
      subst h0
      rw [List.length_eq_zero_iff.1 (by omega : cs.length = 0)]
      exact run_firstCells_none w.drew 5 0 0 c
    | some a => exact run_firstCells_some w.drew 5 n a n c cs hcl (fun j v hj => hcs a rfl j v hj)
  have hrun : ∀ ty, (Builtin.append_ #[47, 47] ty #[.slice base n c, .slice (some ⟨vb, 0, none⟩) m vc]).run Try.prog w = _ := fun ty =>
    run_append_grow_src w 47 47 ty 71 i0 _ acc_row hi0 hz0 base n c cs hold _ m vs hsrc hroom (by omega) (by rw [hzb]; exact growslice_fits hroom hbig)
  go_enter Try.func87, Try.ntmps87
  cases base with
  | none =>
    have h0 := hnil rfl
    subst h0
    go_wp2_with (at_builtin; refine Lib.wpList_append_run _ rfl _ _ _ _ rfl _ _ rfl rfl _ _ (hrun _) ?_)
    go_ret
    exact ⟨rfl, rfl⟩
  | some a =>
    obtain ⟨ab, ao, asp⟩ := a
    go_wp2_with (at_builtin; refine Lib.wpList_append_run _ rfl _ _ _ _ rfl _ _ rfl rfl _ _ (hrun _) ?_)
    all_goals (go_ret; exact ⟨rfl, rfl⟩)
end Go.Proofs.Ytmggpiijahiaiaa.Ev
/- slices.Insert of accounts: what it leaves, cell by cell; in a new row. -/
namespace Go.Proofs.Ytmggpiijahiaiaa.Ev
open Go Go.Proofs Go.Shelf Go.RowKit Go.Lib
set_option linter.unusedVariables false
set_option linter.unusedSimpArgs false
theorem zc_size (z : Value) (n : Nat) : (Builtin.zeroCells z.cells n).size = n * z.cells.size := by simp [Builtin.zeroCells]

set_option maxHeartbeats 4000000 in
set_option maxRecDepth 100000 in
theorem ins_grow (b n c i vb m vc : Nat) (cs vs : List Value) (w : World) (hi : i < n) (hm : 0 < m) (hnc : n ≤ c) (hroom : c < n + m) (hbig : (n + m) * 40 ≤ 140737488355328)
    (hcl : cs.length = n * 5) (hvl : vs.length = m * 5)
    (hcs : ∀ j v, cs[j]? = some v → w.cell? ⟨b, j, none⟩ = some v)
    (hvs : ∀ j v, vs[j]? = some v → w.cell? ⟨vb, j, none⟩ = some v) (h1c : ∀ v ∈ cs, v.oneCell' = true) (h1v : ∀ v ∈ vs, v.oneCell' = true) :
    Calls Try.prog 87 #[.slice (some ⟨b, 0, none⟩) n c, .int .i64 i, .slice (some ⟨vb, 0, none⟩) m vc] w fun e w' =>
      ∃ G ROW, n + m ≤ G ∧ G * 5 ≤ ROW.size ∧ (∀ j v, j < i * 5 → cs[j]? = some v → ROW[j]? = some v) ∧ e = .returned (.slice (some ⟨w.heap.size, 0, none⟩) (n + m) G) ∧
      w' = (((w.alloc (.cells ROW 71)).drew.setCells w.heap.size (i * 5) vs).drew).setCells w.heap.size ((i + m) * 5) (cs.drop (i * 5)) := by
  obtain ⟨i0, hi0, hz0, hzs, hzb⟩ := info_parts acc_info
  have hz1 : ¬ ((m : Int) = 0) := by omega
  have hz2 : ¬ ((i : Int) = (n : Int)) := by omega
  have hz3 : (c : Int) < (n : Int) + (m : Int) := by omega
  have hbw : b < w.heap.size := block_lt_of_cell (hcs 0 _ (List.getElem?_eq_getElem (by omega)))
  have hvw : vb < w.heap.size := block_lt_of_cell (hvs 0 _ (List.getElem?_eq_getElem (by omega)))
  have hkk : (n : Int) + (m : Int) - (i : Int) = ((n + m - i : Nat) : Int) := by omega
  have hik : i + (n + m - i) = n + m := by omega
  have hold : (Builtin.firstCells i0.size i (.slice (some ⟨b, 0, none⟩) i c)).run Try.prog w.drew = .ok (cs.take (i * 5)).toArray w.drew := by
    rw [hzs]
    exact run_firstCells_some w.drew 5 i ⟨b, 0, none⟩ i c (cs.take (i * 5)) (by rw [List.length_take]; omega) (fun j v hj => by
      rw [Addr.add_lit, Nat.zero_add]
      rw [List.getElem?_take] at hj
      split at hj
      · exact hcs j v hj
      · cases hj)
  have hrz : ∀ ty, (Builtin.append_ #[47, 3] ty #[.slice (some ⟨b, 0, none⟩) i c, .int .i64 ((n : Int) + (m : Int) - (i : Int))]).run Try.prog w =
      .ok (.slice (some ⟨w.heap.size, 0, none⟩) (n + m) (grownCap w (n + m) c 71)) (w.drew.alloc (.cells ((cs.take (i * 5)).toArray ++ Builtin.zeroCells accZ.cells (n + m - i) ++ Builtin.zeroCells accZ.cells (grownCap w (n + m) c 71 - (n + m))) 71)) := fun ty => by
    have h := Lib.run_append_grow_zeros w 47 3 ty 71 i0 _ .i64 .i64 acc_row (by kernel_rfl) hi0 hz0 (some ⟨b, 0, none⟩) i c (cs.take (i * 5)) hold (n + m - i) (by omega) (by omega) (by omega) (by omega) (by rw [hzb]; omega) (by rw [hzb, hik]; exact growslice_fits hroom hbig)
    rw [hik] at h
    rw [hkk]
    exact h
  obtain ⟨G, hG⟩ : ∃ G, G = grownCap w (n + m) c 71 := ⟨_, rfl⟩
  obtain ⟨ROW, hROW⟩ : ∃ ROW : Array Value, ROW = (cs.take (i * 5)).toArray ++ Builtin.zeroCells accZ.cells (n + m - i) ++ Builtin.zeroCells accZ.cells (G - (n + m)) := ⟨_, rfl⟩
  rw [← hG] at hrz
  rw [← hROW] at hrz
  have hGn : n + m ≤ G := by rw [hG]; exact grownCap_ge w _ _ _
  have hRl : G * 5 ≤ ROW.size := by
    rw [hROW, Array.size_append, Array.size_append, zc_size, zc_size]
    simp [accZ, Value.cells]
    omega
  have hRt : ∀ j v, j < i * 5 → cs[j]? = some v → ROW[j]? = some v := by
    intro j v hj hv
    rw [hROW, Array.getElem?_append_left (by simp [hcl]; omega), Array.getElem?_append_left (by simp [hcl]; omega), List.getElem?_toArray, List.getElem?_take, if_pos hj, hv]
  have hG63 : G ≤ 9223372036854775807 := by
    have := grownCap_le_maxLen w (n + m) c 71 (by unfold maxLen; omega)
    rw [← hG] at this
    unfold maxLen at this
    omega
  obtain ⟨W1, hW1⟩ : ∃ W1, W1 = w.drew.alloc (.cells ROW 71) := ⟨_, rfl⟩
  rw [← hW1] at hrz
  have hP1 : Plain W1 w.heap.size (G * 5) := ⟨ROW, 71, by rw [hW1]; show (w.heap.push _)[w.heap.size]? = _; simp, hRl⟩
  have hOb : ∀ j v, w.cell? ⟨b, j, none⟩ = some v → W1.cell? ⟨b, j, none⟩ = some v := fun j v h => by rw [hW1, World.cell?_alloc_past (w := w.drew) _ b j hbw]; exact h
  have hOv : ∀ j v, w.cell? ⟨vb, j, none⟩ = some v → W1.cell? ⟨vb, j, none⟩ = some v := fun j v h => by rw [hW1, World.cell?_alloc_past (w := w.drew) _ vb j hvw]; exact h
  have hmin1 : Nat.min m (n + m - i) = m := by simp only [Nat.min_def]; split <;> omega
  have hmin2 : Nat.min (n - i) (n + m - (i + m)) = n - i := by simp only [Nat.min_def]; split <;> omega
  have hcpA : ∀ (W : World), (∀ x, W.cell? x = W1.cell? x) → (∀ x, W.frozen? x = W1.frozen? x) → ∀ ty dc, (Builtin.copy_ #[47, 47] ty #[.slice (some ⟨w.heap.size, i * 5, none⟩) (n + m - i) dc, .slice (some ⟨vb, 0, none⟩) m vc]).run Try.prog W = .ok (goInt m) (W.setCells w.heap.size (i * 5) vs) := fun W hWc hWf ty dc => by
    have h := run_copy_k (P := Try.prog) W 47 47 ty 71 w.heap.size (i * 5) (n + m - i) dc ⟨vb, 0, none⟩ m vc vs 5 acc_row acc_sz (by rw [hvl, hmin1])
      (fun j v hj => by rw [Addr.add_lit, hWc, Nat.zero_add]; exact hOv _ v (hvs j v hj))
      (fun j hj => by rw [hWc]; exact hP1.cell (by omega)) (fun j hj => by rw [hWf]; exact hP1.frozen _) h1v
    rw [hmin1] at h
    exact h
  have hGi : ¬ (G = i) := by omega
  have hGim : ¬ (G = i + m) := by omega
  have hci : ¬ (c = i) := by omega
  have hbN : b ≠ w.heap.size := by omega
  have hdl : (cs.drop (i * 5)).length = (n - i) * 5 := by rw [List.length_drop, hcl, Nat.sub_mul]
  have hcpB : ∀ (W : World), (∀ x, W.cell? x = (W1.setCells w.heap.size (i * 5) vs).cell? x) → (∀ x, W.frozen? x = (W1.setCells w.heap.size (i * 5) vs).frozen? x) → ∀ ty dc sc, (Builtin.copy_ #[47, 47] ty #[.slice (some ⟨w.heap.size, (i + m) * 5, none⟩) (n + m - (i + m)) dc, .slice (some ⟨b, i * 5, none⟩) (n - i) sc]).run Try.prog W = .ok (goInt ((n - i : Nat) : Int)) (W.setCells w.heap.size ((i + m) * 5) (cs.drop (i * 5))) := fun W hWc hWf ty dc sc => by
    have h := run_copy_k (P := Try.prog) W 47 47 ty 71 w.heap.size ((i + m) * 5) (n + m - (i + m)) dc ⟨b, i * 5, none⟩ (n - i) sc (cs.drop (i * 5)) 5 acc_row acc_sz (by rw [hdl, hmin2])
      (fun j v hj => by
        rw [Addr.add_lit, hWc, World.cell?_setCells_out _ _ _ _ _ (fun h _ => absurd h hbN)]
        exact hOb _ v (hcs _ v (by rwa [List.getElem?_drop] at hj)))
      (fun j hj => by rw [hWc]; exact (Plain.setCells hP1).cell (by omega))
      (fun j hj => by rw [hWf]; exact (Plain.setCells hP1).frozen _) (fun v hv => h1c v (List.mem_of_mem_drop hv))
    rw [hmin2] at h
    exact h
  subst hW1
  have hE1 : ∀ x, ((w.alloc (.cells ROW 71)).drew).cell? x = (w.drew.alloc (.cells ROW 71)).cell? x := fun x => rfl
  have hE2 : ∀ x, ((w.alloc (.cells ROW 71)).drew).frozen? x = (w.drew.alloc (.cells ROW 71)).frozen? x := fun x => rfl
  have hF1 : ∀ x, (((w.alloc (.cells ROW 71)).drew.setCells w.heap.size (i * 5) vs).drew).cell? x = ((w.drew.alloc (.cells ROW 71)).setCells w.heap.size (i * 5) vs).cell? x := fun x => rfl
  have hF2 : ∀ x, (((w.alloc (.cells ROW 71)).drew.setCells w.heap.size (i * 5) vs).drew).frozen? x = ((w.drew.alloc (.cells ROW 71)).setCells w.heap.size (i * 5) vs).frozen? x := fun x => rfl
  have hw1 : IntKind.i64.wrap ((i : Int) + (m : Int)) = (i : Int) + (m : Int) := by rw [IntKind.wrap_i64]; omega
  have hb1 : (0 : Int) ≤ (i : Int) + (m : Int) := by omega
  have hin : i ≤ n := by omega
  have htn : ((i : Int) + (m : Int)).toNat = i + m := by omega
  have hb3 : (i : Int) ≤ (n : Int) := by omega
  clear hkk hik hold hROW hG hP1 hdl
  go_enter Try.func87, Try.ntmps87
  go_wp2_with (first
    | (at_builtin; refine Lib.wpList_append_run _ rfl _ _ _ _ rfl _ _ rfl rfl _ _ (hrz _) ?_)
    | (at_builtin; refine wpList_copy_runI _ rfl _ _ 47 47 rfl _ _ rfl rfl (hcpA _ hE1 hE2 _ _) ?_)
    | (at_builtin; refine wpList_copy_runI _ rfl _ _ 47 47 rfl _ _ rfl rfl (hcpB _ (fun _ => rfl) (fun _ => rfl) _ _ _) ?_))
  go_region_law (refine step_copy_runI rfl _ _ 47 47 rfl (.slice (some ⟨w.heap.size, (i + m) * 5, none⟩) (n + m - (i + m)) (G - (i + m))) (.slice (some ⟨b, i * 5, none⟩) (n - i) (c - i)) (by simp [Act.eval, Act.put]) (by simp [Act.eval, Act.put]) (hcpB _ hF1 hF2 3 (G - (i + m)) (c - i)) ?_)
  go_wp2
  go_ret
  exact ⟨G, ROW, hGn, hRl, hRt, rfl, rfl⟩
end Go.Proofs.Ytmggpiijahiaiaa.Ev
/- Rows of accounts asv lists of cells. -/
namespace Go.Proofs.Ytmggpiijahiaiaa.Ev
open Go Go.Proofs
set_option linter.unusedVariables false
set_option linter.unusedSimpArgs false
def accC (x : AccountD) : List Value := [.int .u64 x.1, .int .u64 x.2.1, .int .u64 x.2.2.1, .int .u64 x.2.2.2.1, .int .i64 x.2.2.2.2.1]
def accCs (xs : List AccountD) : List Value := xs.flatMap accC
theorem accCs_len (xs : List AccountD) : (accCs xs).length = xs.length * 5 := by
  induction xs with
  | nil => rfl
  | cons x r ih => rw [accCs, List.flatMap_cons, List.length_append, ← accCs, ih]; simp [accC]; omega
theorem accCs_one (xs : List AccountD) : ∀ v ∈ accCs xs, v.oneCell' = true := by
  intro v hv
  simp only [accCs, List.mem_flatMap] at hv
  obtain ⟨x, _, hx⟩ := hv
  simp only [accC, List.mem_cons, List.not_mem_nil, or_false] at hx
  rcases hx with rfl | rfl | rfl | rfl | rfl <;> rfl
theorem accCs_append (xs ys : List AccountD) : accCs (xs ++ ys) = accCs xs ++ accCs ys := by simp [accCs]
theorem accCs_drop (xs : List AccountD) : ∀ i, (accCs xs).drop (i * 5) = accCs (xs.drop i) := by
  induction xs with
  | nil => intro i; simp [accCs]
  | cons x r ih =>
    intro i
    cases i with
    | zero => simp
    | succ i => rw [accCs, List.flatMap_cons, List.drop_succ_cons, ← ih i, ← accCs, show (i + 1) * 5 = (accC x).length + i * 5 by simp [accC]; omega, List.drop_append]; simp
theorem accCs_take (xs : List AccountD) : ∀ i, (accCs xs).take (i * 5) = accCs (xs.take i) := by
  induction xs with
  | nil => intro i; simp [accCs]
  | cons x r ih =>
    intro i
    cases i with
    | zero => simp [accCs]
    | succ i => rw [accCs, List.flatMap_cons, List.take_succ_cons, show accCs (x :: r.take i) = accC x ++ accCs (r.take i) by simp [accCs], ← ih i, ← accCs, show (i + 1) * 5 = (accC x).length + i * 5 by simp [accC]; omega, List.take_append, List.take_of_length_le (by omega)]; simp
/-- The cells from a place on. -/
def At (w : World) (b o : Nat) (cs : List Value) : Prop := ∀ t v, cs[t]? = some v → w.cell? ⟨b, o + t, none⟩ = some v
theorem At.append {w : World} {b o : Nat} {c d : List Value} : At w b o (c ++ d) ↔ At w b o c ∧ At w b (o + c.length) d := by
  constructor
  · intro h
    refine ⟨fun t v ht => h t v ?_, fun t v ht => ?_⟩
    · rw [List.getElem?_append_left (List.getElem?_eq_some_iff.1 ht).1]; exact ht
    · rw [Nat.add_assoc]
      refine h _ v ?_
      rw [List.getElem?_append_right (by omega), Nat.add_sub_cancel_left]
      exact ht
  · rintro ⟨h1, h2⟩ t v ht
    by_cases hl : t < c.length
    · rw [List.getElem?_append_left hl] at ht
      exact h1 t v ht
    · rw [List.getElem?_append_right (by omega)] at ht
      have := h2 _ v ht
      rw [show o + c.length + (t - c.length) = o + t by omega] at this
      exact this
theorem At.of_heap {w w' : World} {b o : Nat} {cs : List Value} (h : At w b o cs) (e : w'.heap[b]? = w.heap[b]?) : At w' b o cs := fun t v ht => (cell_of_block e _ _).trans (h t v ht)
theorem At.set_in {w : World} {b N o : Nat} {vs : List Value} (hP : Plain w b N) (h : o + vs.length ≤ N) : At (w.setCells b o vs) b o vs := by
  intro t v ht
  obtain ⟨h1, h2⟩ := List.getElem?_eq_some_iff.1 ht
  rw [World.cell?_setCells_in b vs o w (fun j hj => hP.cell (by omega)) t h1, h2]
theorem At.set_out {w : World} {b b' o p : Nat} {cs vs : List Value} (h : At w b o cs) (hd : o + cs.length ≤ p ∨ p + vs.length ≤ o) : At (w.setCells b' p vs) b o cs := by
  intro t v ht
  obtain ⟨h1, h2⟩ := List.getElem?_eq_some_iff.1 ht
  rw [World.cell?_setCells_out b' vs p w ⟨b, o + t, none⟩ (fun _ _ => by show o + t < p ∨ p + vs.length ≤ o + t; omega)]
  exact h t v ht
theorem At.rep {w : World} {I : Bs} {b : Nat} : ∀ {xs : List AccountD} {o : Nat}, At w b o (accCs xs) ↔ ∀ i (h : i < xs.length), Rep w I tAccount xs[i] (mem w b (o + i * 5)) := by
  have one : ∀ (x : AccountD) (o : Nat), At w b o (accC x) ↔ Rep w I tAccount x (mem w b o) := by
    intro x o
    constructor
    · intro h
      exact ⟨h 0 _ rfl, h 1 _ rfl, h 2 _ rfl, h 3 _ rfl, h 4 _ rfl, trivial⟩
    · rintro ⟨h0, h1, h2, h3, h4, _⟩ t v ht
      match t, ht with
      | 0, ht => cases ht; exact h0
      | 1, ht => cases ht; exact h1
      | 2, ht => cases ht; exact h2
      | 3, ht => cases ht; exact h3
      | 4, ht => cases ht; exact h4
  intro xs
  induction xs with
  | nil => intro o; exact ⟨fun _ i h => absurd h (by simp), fun _ t v ht => by simp [accCs] at ht⟩
  | cons x r ih =>
    intro o
    rw [accCs, List.flatMap_cons, At.append, ← accCs, one, show (accC x).length = 5 from rfl, ih]
    constructor
    · rintro ⟨h1, h2⟩ i hi
      cases i with
      | zero => simpa using h1
      | succ i =>
        have := h2 i (by simpa using hi)
        rw [show o + 5 + i * 5 = o + (i + 1) * 5 by omega] at this
        simpa using this
    · intro h
      refine ⟨h 0 (by simp), fun i hi => ?_⟩
      have := h (i + 1) (by simpa using hi)
      rw [show o + 5 + i * 5 = o + (i + 1) * 5 by omega]
      simpa using this
/-- A row of accounts, cell by cell. -/
theorem row_cells {w : World} {I : Bs} {xs : List AccountD} {l : Loc} (h : RowAt w I tAccount xs l) (hn : l.nil = false) : l.len = xs.length ∧ xs.length ≤ l.cap ∧ Plain w l.blk (l.cap * 5) ∧ At w l.blk 0 (accCs xs) ∧ l.sl = .slice (some ⟨l.blk, 0, none⟩) xs.length l.cap ∧ l.blks = [l.blk] := by
  obtain ⟨h1, h2, h3⟩ := h
  obtain ⟨⟨cs, te, k1, k2⟩, k3, k4⟩ := h3 hn
  refine ⟨h1, k3, ⟨cs, te, k1, k2⟩, (At.rep (I := I)).2 (fun i hi => by rw [Nat.zero_add]; exact k4 i hi), by simp [Loc.sl, hn, h1], by simp [Loc.blks, hn]⟩
theorem out_row {w : World} {I : Bs} {xs : List AccountD} {b c : Nat} (hP : Plain w b (c * 5)) (hc : xs.length ≤ c) (ha : At w b 0 (accCs xs)) : ResV w I (.own tAccount) xs (.slice (some ⟨b, 0, none⟩) xs.length c) [b] := by
  refine ⟨rfl, rfl, ⟨b, xs.length, c, false⟩, rfl, rfl, fun h => absurd h (by simp), fun _ => ⟨rfl, hP, hc, fun i hi => ?_⟩⟩
  have := (At.rep (I := I)).1 ha i hi
  rw [Nat.zero_add] at this
  exact this
end Go.Proofs.Ytmggpiijahiaiaa.Ev
/- slices.Insert and slices.Delete of accounts: their contracts. -/
namespace Go.Proofs.Ytmggpiijahiaiaa.Ev
open Go Go.Proofs
set_option linter.unusedVariables false
set_option linter.unusedSimpArgs false
abbrev slices_Delete_Account_ps : List Par := [.own tAccount, .lent (.int .i64), .lent (.int .i64)]
abbrev slices_Delete_Account_outs : Outs := .one (.own tAccount)
def slices_Delete_Account_fn (xs : List AccountD) (i j : Int) : Option (List AccountD × Unit) := if 0 ≤ i ∧ i < j ∧ j ≤ (xs.length : Int) then some (xs.take i.toNat ++ xs.drop j.toNat, ()) else none
noncomputable def slices_Delete_Account_sig : Sig := { ps := slices_Delete_Account_ps, outs := slices_Delete_Account_outs, fn := fun x => slices_Delete_Account_fn x.1 x.2.1 x.2.2.1 }
abbrev slices_Insert_Account_ps : List Par := [.own tAccount, .lent (.int .i64), .own tAccount]
abbrev slices_Insert_Account_outs : Outs := .one (.own tAccount)
def slices_Insert_Account_fn (xs : List AccountD) (i : Int) (v : List AccountD) : Option (List AccountD × Unit) := if 0 ≤ i ∧ i ≤ (xs.length : Int) ∧ (xs.length + v.length) * 40 ≤ 140737488355328 ∧ 0 < v.length then some (xs.take i.toNat ++ v ++ xs.drop i.toNat, ()) else none
noncomputable def slices_Insert_Account_sig : Sig := { ps := slices_Insert_Account_ps, outs := slices_Insert_Account_outs, fn := fun x => slices_Insert_Account_fn x.1 x.2.1 x.2.2.1 }

theorem pv_int {w : World} {J : Bs} {k : IntKind} {x : Int} {v : Value} (h : PVal w J (.int k) x v) : v = .int k x := by
  obtain ⟨h1, h2, h3⟩ := h
  cases v with
  | agg cs => simp [Value.isAgg, Ty.isAgg] at h1
  | _ =>
    simp only [Rep, cv, Value.cells] at h3
    first | (simp at h3; done) | simpa using h3
theorem slices_Delete_Account_meets : Meets Try.prog 96 slices_Delete_Account_sig := by
  intro w I J xs vs bs ls hIJ hJ ha hnd hnj r hr
  obtain ⟨l, rest, ls', rfl, rfl, hrow, v1, rest1, rfl, hp1, v2, rest2, rfl, hp2, rfl, rfl, rfl⟩ := ha
  obtain ⟨xs, i, j, ⟨⟩⟩ := xs
  obtain rfl := pv_int hp1
  obtain rfl := pv_int hp2
  change slices_Delete_Account_fn xs i j = some r at hr
  unfold slices_Delete_Account_fn at hr
  split at hr
  · rename_i hc
    obtain ⟨c1, c2, c3⟩ := hc
    obtain rfl := Option.some.inj hr
    obtain ⟨i, rfl⟩ : ∃ n : Nat, @Eq Int i n := ⟨Int.toNat i, (Int.toNat_of_nonneg c1).symm⟩
    obtain ⟨j, rfl⟩ : ∃ n : Nat, @Eq Int j n := ⟨Int.toNat j, (Int.toNat_of_nonneg (Int.le_of_lt (Int.lt_of_le_of_lt (Int.natCast_nonneg i) c2))).symm⟩
    have hn : l.nil = false := by
      cases h : l.nil with
      | false => rfl
      | true =>
        have h0 := hrow.2.1 h
        change xs = [] at h0
        rw [h0] at c3
        simp at c3
        omega
    obtain ⟨e1, e2, e3, e4, e5, e6⟩ := row_cells hrow hn
    change xs.length ≤ l.cap at e2
    change At w l.blk 0 (accCs xs) at e4
    change l.sl = .slice (some ⟨l.blk, 0, none⟩) xs.length l.cap at e5
    have hlen := accCs_len xs
    have hb : l.blk < w.heap.size := by
      obtain ⟨cs, te, k1, k2⟩ := e3
      exact (Array.getElem?_eq_some_iff.1 k1).1
    have hmem : l.blk ∈ ([] : List Nat) ++ [l].flatMap Loc.blks := by simp [e6]
    have hw := del_acc l.blk i j xs.length l.cap (accCs xs) w (fun t v ht => by have := e4 t v ht; rwa [Nat.zero_add] at this) hlen (accCs_one xs) e3 e2 (by omega) (by omega)
    show Calls Try.prog 96 #[l.sl, .int .i64 i, .int .i64 j] w _
    rw [e5]
    refine hw.mono ?_
    rintro e w' ⟨rfl, zs, hz, rfl⟩
    refine ⟨_, rfl, I, [l.blk], ?_⟩
    have hP1 : Plain (w.drew.setCells l.blk (i * 5) ((accCs xs).drop (j * 5))) l.blk (l.cap * 5) := Plain.setCells (Plain.drew e3)
    have hd : ((accCs xs).drop (j * 5)).length = (xs.length - j) * 5 := by rw [List.length_drop, hlen, Nat.sub_mul]
    have ht : ((accCs xs).take (i * 5)).length = i * 5 := by rw [List.length_take, hlen]; omega
    have hat : At ((w.drew.setCells l.blk (i * 5) ((accCs xs).drop (j * 5))).setCells l.blk ((i + (xs.length - j)) * 5) zs) l.blk 0 (accCs (xs.take i ++ xs.drop j)) := by
      rw [accCs_append, ← accCs_take, ← accCs_drop, At.append]
      have e4' : At w.drew l.blk 0 (accCs xs) := e4
      have e4a : At w.drew l.blk 0 ((accCs xs).take (i * 5)) := by
        rw [← List.take_append_drop (i * 5) (accCs xs), At.append] at e4'
        exact e4'.1
      refine ⟨At.set_out (At.set_out e4a (.inl (by omega))) (.inl (by omega)), ?_⟩
      rw [ht, Nat.zero_add]
      exact At.set_out (At.set_in (Plain.drew e3) (by omega)) (.inl (by omega))
    have hl : (xs.take i ++ xs.drop j).length = xs.length - (j - i) := by simp; omega
    refine { keep := keep_setCells (keep_setCells (keep_drew (Keep.refl _ _)) (.inl hmem)) (.inl hmem), i := fun b hb => hb, iw := fun b hb => .inl hb, ilt := fun b hb' => ?_, outs := ?_, muts := rfl, nodup := by simp, fresh := fun b hb' => ?_ }
    · rw [(setCells_rest _ _ _ _).2.2.2, (setCells_rest _ _ _ _).2.2.2]
      exact hJ b (hIJ b hb')
    · show ResV _ I (.own tAccount) (xs.take i ++ xs.drop j) _ _
      rw [← hl]
      exact out_row (Plain.setCells hP1) (by rw [hl]; omega) hat
    · simp only [List.mem_singleton] at hb'
      subst hb'
      refine ⟨.inr (by simp [e6]), ?_, fun hi => hnj _ hmem (hIJ _ hi)⟩
      rw [(setCells_rest _ _ _ _).2.2.2, (setCells_rest _ _ _ _).2.2.2]
      exact hb
  · cases hr
end Go.Proofs.Ytmggpiijahiaiaa.Ev
/- slices.Insert of accounts: its contract. -/
namespace Go.Proofs.Ytmggpiijahiaiaa.Ev
open Go Go.Proofs
set_option linter.unusedVariables false
set_option linter.unusedSimpArgs false
theorem Plain.lt {w : World} {b N : Nat} (h : Plain w b N) : b < w.heap.size := by
  obtain ⟨cs, te, k1, k2⟩ := h
  exact (Array.getElem?_eq_some_iff.1 k1).1
theorem ins_post {w w' : World} {I : Bs} {ls : List Loc} {ys : List AccountD} {b c : Nat} (hk : Keep (· ∈ ([] : List Nat) ++ ls.flatMap Loc.blks) w w') (hP : Plain w' b (c * 5)) (hc : ys.length ≤ c) (ha : At w' b 0 (accCs ys))
    (hf : w.heap.size ≤ b ∨ b ∈ ls.flatMap Loc.blks) (hI : ∀ b, I b → b < w.heap.size) (hni : ¬ I b) : PostR w w' I [] ls slices_Insert_Account_sig (ys, ()) (.slice (some ⟨b, 0, none⟩) ys.length c) I [b] := by
  refine { keep := hk, i := fun b hb => hb, iw := fun b hb => .inl hb, ilt := fun b hb => Nat.lt_of_lt_of_le (hI b hb) hk.size, outs := ?_, muts := rfl, nodup := by simp, fresh := fun b' hb' => ?_ }
  · exact out_row hP hc ha
  · simp only [List.mem_singleton] at hb'
    subst hb'
    exact ⟨hf, hP.lt, hni⟩
theorem At.parts {w : World} {b i n : Nat} {cs : List Value} (h : At w b 0 cs) (hl : cs.length = n * 5) (hi : i ≤ n) : At w b 0 (cs.take (i * 5)) ∧ At w b (i * 5) (cs.drop (i * 5)) := by
  rw [← List.take_append_drop (i * 5) cs, At.append] at h
  refine ⟨h.1, ?_⟩
  have := h.2
  rwa [List.length_take, hl, Nat.zero_add, Nat.min_eq_left (by omega)] at this
theorem slices_Insert_Account_meets : Meets Try.prog 87 slices_Insert_Account_sig := by
  intro w I J xs vs bs ls hIJ hJ ha hnd hnj r hr
  obtain ⟨l, rest, ls', rfl, rfl, hrow, v1, rest1, rfl, hp1, l2, rest2, ls2, rfl, rfl, hrow2, rfl, rfl, rfl⟩ := ha
  obtain ⟨xs, i, v, ⟨⟩⟩ := xs
  obtain rfl := pv_int hp1
  change slices_Insert_Account_fn xs i v = some r at hr
  unfold slices_Insert_Account_fn at hr
  split at hr
  · rename_i hc
    obtain ⟨c1, c2, c3, c4⟩ := hc
    obtain ⟨i, rfl⟩ : ∃ n : Nat, @Eq Int i n := ⟨Int.toNat i, (Int.toNat_of_nonneg c1).symm⟩
    rw [Int.toNat_natCast] at hr
    obtain rfl := Option.some.inj hr
    have c2 : i ≤ xs.length := by have := c2; omega
    have hn2 : l2.nil = false := by
      cases h : l2.nil with
      | false => rfl
      | true =>
        have h0 := hrow2.2.1 h
        change v = [] at h0
        rw [h0] at c4
        simp at c4
    obtain ⟨_, f2, f3, f4, f5, f6⟩ := row_cells hrow2 hn2
    change At w l2.blk 0 (accCs v) at f4
    change l2.sl = .slice (some ⟨l2.blk, 0, none⟩) v.length l2.cap at f5
    change v.length ≤ l2.cap at f2
    have hvl := accCs_len v
    have f4' : ∀ t u, (accCs v)[t]? = some u → w.cell? ⟨l2.blk, t, none⟩ = some u := fun t u ht => by have := f4 t u ht; rwa [Nat.zero_add] at this
    have hI : ∀ b, I b → b < w.heap.size := fun b hb => hJ b (hIJ b hb)
    have hlen := accCs_len xs
    have hys : (xs.take i ++ v ++ xs.drop i).length = xs.length + v.length := by simp; omega
    have hcells : accCs (xs.take i ++ v ++ xs.drop i) = (accCs xs).take (i * 5) ++ accCs v ++ (accCs xs).drop (i * 5) := by rw [accCs_append, accCs_append, accCs_take, accCs_drop]
    have ht : ((accCs xs).take (i * 5)).length = i * 5 := by rw [List.length_take, hlen]; omega
    have hd : ((accCs xs).drop (i * 5)).length = (xs.length - i) * 5 := by rw [List.length_drop, hlen, Nat.sub_mul]
    show Calls Try.prog 87 #[l.sl, .int .i64 i, l2.sl] w _
    rw [f5]
    have hnew : ¬ I w.heap.size := fun h => by have := hI _ h; omega
    cases hn : l.nil with
    | true =>
      have h0 := hrow.2.1 hn
      change xs = [] at h0
      subst h0
      obtain rfl : i = 0 := by simpa using c2
      have e5 : l.sl = .slice none 0 0 := by simp [Loc.sl, hn]
      rw [e5]
      refine (ins_end_grow none 0 0 l2.blk v.length l2.cap [] (accCs v) w c4 (Nat.le_refl _) (by omega) (by simpa using c3) rfl hvl (fun _ => rfl) (fun a ha => by cases ha) f4' (accCs_one v)).mono ?_
      rintro e w' ⟨rfl, rfl⟩
      refine ⟨_, rfl, I, [w.heap.size], ?_⟩
      simp only [Nat.zero_add, List.nil_append, List.take_nil, List.drop_nil, List.append_nil]
      obtain ⟨G, hG⟩ : ∃ G, G = grownCap w v.length 0 71 := ⟨_, rfl⟩
      have hGn : v.length ≤ G := by rw [hG]; exact grownCap_ge w _ _ _
      rw [← hG]
      refine ins_post (keep_alloc (keep_drew (Keep.refl _ _))) ⟨_, 71, by show (w.heap.push _)[w.heap.size]? = _; exact Array.getElem?_push_size, ?_⟩ hGn ?_ (.inl (Nat.le_refl _)) hI hnew
      · rw [Array.size_append, zc_size]
        simp [hvl, accZ, Value.cells]
        omega
      · intro t u htu
        rw [Nat.zero_add, World.cell?_alloc_at (w := w.drew) _ _ w.heap.size t rfl]
        rw [Array.getElem?_append_left (by have := (List.getElem?_eq_some_iff.1 htu).1; simpa using this)]
        simpa using htu
    | false =>
      obtain ⟨_, e2, e3, e4, e5, e6⟩ := row_cells hrow hn
      change xs.length ≤ l.cap at e2
      change At w l.blk 0 (accCs xs) at e4
      change l.sl = .slice (some ⟨l.blk, 0, none⟩) xs.length l.cap at e5
      have e4' : ∀ t u, (accCs xs)[t]? = some u → w.cell? ⟨l.blk, t, none⟩ = some u := fun t u ht => by have := e4 t u ht; rwa [Nat.zero_add] at this
      have hne : l2.blk ≠ l.blk := by
        have := hnd
        simp [e6, f6] at this
        exact fun h => this h.symm
      have hmem : l.blk ∈ [l, l2].flatMap Loc.blks := by simp [e6]
      have hmem' : l.blk ∈ ([] : List Nat) ++ [l, l2].flatMap Loc.blks := by simp [e6]
      have hnI : ¬ I l.blk := fun h => hnj _ hmem' (hIJ _ h)
      rw [e5]
      by_cases hi : i = xs.length
      · subst hi
        by_cases hroom : xs.length + v.length ≤ l.cap
        · refine (ins_end_room l.blk xs.length l.cap l2.blk v.length l2.cap (accCs v) w c4 hroom c3 hvl e3 f4' (accCs_one v)).mono ?_
          rintro e w' ⟨rfl, rfl⟩
          refine ⟨_, rfl, I, [l.blk], ?_⟩
          rw [← hys]
          refine ins_post (keep_setCells (Keep.refl _ _) (.inl hmem')) (Plain.setCells e3) (by rw [hys]; exact hroom) ?_ (.inr hmem) hI hnI
          rw [hcells, List.append_assoc, At.append, ht, Nat.zero_add, show (accCs xs).drop (xs.length * 5) = [] by rw [← hlen]; simp, List.append_nil]
          exact ⟨At.set_out (e4.parts hlen (Nat.le_refl _)).1 (.inl (by omega)), At.set_in e3 (by omega)⟩
        · refine (ins_end_grow (some ⟨l.blk, 0, none⟩) xs.length l.cap l2.blk v.length l2.cap (accCs xs) (accCs v) w c4 e2 (by omega) c3 hlen hvl (fun h => by cases h) (fun a ha => by cases ha; intro t u htu; rw [Addr.add_lit, Nat.zero_add]; exact e4' t u htu) f4' (accCs_one v)).mono ?_
          rintro e w' ⟨rfl, rfl⟩
          refine ⟨_, rfl, I, [w.heap.size], ?_⟩
          obtain ⟨G, hG⟩ : ∃ G, G = grownCap w (xs.length + v.length) l.cap 71 := ⟨_, rfl⟩
          have hGn : xs.length + v.length ≤ G := by rw [hG]; exact grownCap_ge w _ _ _
          rw [← hG]
          rw [← hys] at hGn ⊢
          refine ins_post (keep_alloc (keep_drew (Keep.refl _ _))) ⟨_, 71, by show (w.heap.push _)[w.heap.size]? = _; exact Array.getElem?_push_size, ?_⟩ hGn ?_ (.inl (Nat.le_refl _)) hI hnew
          · rw [Array.size_append, zc_size]
            simp [hvl, hlen, accZ, Value.cells] at hGn ⊢
            omega
          · intro t u htu
            rw [hcells, show (accCs xs).drop (xs.length * 5) = [] by rw [← hlen]; simp, show (accCs xs).take (xs.length * 5) = accCs xs by rw [← hlen]; simp, List.append_nil] at htu
            rw [Nat.zero_add, World.cell?_alloc_at (w := w.drew) _ _ w.heap.size t rfl]
            rw [Array.getElem?_append_left (by have := (List.getElem?_eq_some_iff.1 htu).1; simpa using this)]
            simpa using htu
      · have hi : i < xs.length := by omega
        by_cases hroom : xs.length + v.length ≤ l.cap
        · refine (ins_shift l.blk xs.length l.cap i l2.blk v.length l2.cap (accCs xs) (accCs v) w hi c4 hroom c3 hne hlen hvl e4' e3 f3 f4' (accCs_one xs) (accCs_one v)).mono ?_
          rintro e w' ⟨rfl, rfl⟩
          refine ⟨_, rfl, I, [l.blk], ?_⟩
          rw [← hys]
          have hP1 : Plain (w.drew.setCells l.blk ((i + v.length) * 5) ((accCs xs).drop (i * 5))) l.blk (l.cap * 5) := Plain.setCells (Plain.drew e3)
          refine ins_post (keep_setCells (keep_setCells (keep_drew (Keep.refl _ _)) (.inl hmem')) (.inl hmem')) (Plain.setCells hP1) (by rw [hys]; exact hroom) ?_ (.inr hmem) hI hnI
          rw [hcells, At.append, At.append, ht, Nat.zero_add, List.length_append, ht, hvl]
          refine ⟨⟨At.set_out (At.set_out (At.of_heap (e4.parts hlen c2).1 rfl) (.inl (by omega))) (.inl (by omega)), At.set_in hP1 (by omega)⟩, ?_⟩
          rw [show i * 5 + v.length * 5 = (i + v.length) * 5 by omega, Nat.zero_add]
          have hq : (i + v.length) * 5 + ((accCs xs).drop (i * 5)).length ≤ l.cap * 5 := by rw [hd]; omega
          exact At.set_out (At.set_in (Plain.drew e3) hq) (.inr (by omega))
        · refine (ins_grow l.blk xs.length l.cap i l2.blk v.length l2.cap (accCs xs) (accCs v) w hi c4 e2 (by omega) c3 hlen hvl e4' f4' (accCs_one xs) (accCs_one v)).mono ?_
          rintro e w' ⟨G, ROW, hGn, hRl, hRt, rfl, rfl⟩
          refine ⟨_, rfl, I, [w.heap.size], ?_⟩
          rw [← hys] at hGn ⊢
          have hP0 : Plain (w.alloc (.cells ROW 71)).drew w.heap.size (G * 5) := ⟨ROW, 71, by show (w.heap.push _)[w.heap.size]? = _; exact Array.getElem?_push_size, hRl⟩
          have hP1 : Plain ((w.alloc (.cells ROW 71)).drew.setCells w.heap.size (i * 5) (accCs v)).drew w.heap.size (G * 5) := Plain.drew (Plain.setCells hP0)
          have hk : Keep (· ∈ ([] : List Nat) ++ [l, l2].flatMap Loc.blks) w ((((w.alloc (.cells ROW 71)).drew.setCells w.heap.size (i * 5) (accCs v)).drew).setCells w.heap.size ((i + v.length) * 5) ((accCs xs).drop (i * 5))) :=
            keep_setCells (keep_drew (keep_setCells (keep_drew (keep_alloc (Keep.refl _ _))) (.inr (Nat.le_refl _)))) (.inr (Nat.le_refl _))
          have hA0 : At (w.alloc (.cells ROW 71)).drew w.heap.size 0 ((accCs xs).take (i * 5)) := by
            intro t u htu
            have ht1 : t < i * 5 := by have := (List.getElem?_eq_some_iff.1 htu).1; omega
            rw [List.getElem?_take, if_pos ht1] at htu
            rw [Nat.zero_add]
            show ((w.drew.alloc (.cells ROW 71)).cell? _) = _
            rw [World.cell?_alloc_at (w := w.drew) ROW _ w.heap.size t rfl]
            exact hRt t u ht1 htu
          refine ins_post hk (Plain.setCells hP1) hGn ?_ (.inl (Nat.le_refl _)) hI hnew
          rw [hys] at hGn
          rw [hcells, At.append, At.append, ht, Nat.zero_add, List.length_append, ht, hvl]
          refine ⟨⟨At.set_out (At.of_heap (At.set_out hA0 (.inl (by omega))) rfl) (.inl (by omega)), At.set_out (At.of_heap (At.set_in hP0 (by omega)) rfl) (.inl (by omega))⟩, ?_⟩
          rw [show i * 5 + v.length * 5 = (i + v.length) * 5 by omega, Nat.zero_add]
          have hq : (i + v.length) * 5 + ((accCs xs).drop (i * 5)).length ≤ G * 5 := by rw [hd]; omega
          exact At.set_in hP1 hq
  · cases hr
end Go.Proofs.Ytmggpiijahiaiaa.Ev
namespace Go.Proofs.Ytmggpiijahiaiaa.Ev
open Go
set_option linter.unusedVariables false
set_option linter.unusedSimpArgs false
set_option maxRecDepth 100000
def i_OpenAccount_tab : TTab := [⟨3, (.int .i64), 0⟩, ⟨4, .bool, 0⟩, ⟨40, (.int .u64), 0⟩, ⟨47, (.slice tAccount), 40⟩, ⟨49, tBook, 0⟩, ⟨71, tAccount, 0⟩]
abbrev i_OpenAccount_ps : List Par := [.lent tBook, .lent (.int .u64)]
abbrev i_OpenAccount_outs : Outs := .many [(.pair (.own tAccount) .unit), (.pure (.int .i64))]
abbrev i_OpenAccount_R : Type := ((((List (Int × (Int × (Int × (Int × (Int × Unit)))))) × Unit) × (Int × Unit)) × Unit)
abbrev i_OpenAccount_T : Ty := .pair (Outs.ty i_OpenAccount_outs) (mutsTy i_OpenAccount_ps)
noncomputable def i_OpenAccount_env : Env := { tab := i_OpenAccount_tab, fns := [(68, Try.f68)], sigs := [(49, i_isBook_sig), (67, i_copyBook_sig), (73, i_accountOf_sig), (87, slices_Insert_Account_sig)] }
def i_OpenAccount_anns : List Ann := [⟨68, 200009, [1, 4, 6, 7], []⟩]
inductive i_OpenAccount_H where
  | l0 (v0 : Int) (v1 : Int) (v2 : List AccountD)
noncomputable def i_OpenAccount_cfg : i_OpenAccount_H → Cfg
  | .l0 v0 v1 v2 => { fr := { fn := 68, fb := 0, ss := sl 40 [(1, (.pv false (.int .u64) v0)), (4, (.bptr 0 [])), (6, (.bptr 1 [])), (7, (.pv false (.int .i64) v1))], todo := cutAt (bodyOf Try.f68) [false, false, false, false, true] [] }, cs := [], ob := ofList [.box tBook (.pair .nilv .unit), .box tBook (.pair (.row 2 0) .unit), .row 0 false tAccount v2] }
def i_OpenAccount_body (rec : i_OpenAccount_H → Option i_OpenAccount_R) : i_OpenAccount_H → Option i_OpenAccount_R
  | .l0 v0 v1 v2 =>
    (slices_Insert_Account_fn v2 v1 ((List.replicate 1 (0, 0, 0, 0, 0, ())).set 0 (v0, 0, 0, 0, 0, ()))).bind fun y3 =>
      some (((y3.fst, ()), 0, ()), ())
def i_OpenAccount_start (rec : i_OpenAccount_H → Option i_OpenAccount_R) (x0 : BookD) (x1 : Int) : Option i_OpenAccount_R :=
  (i_copyBook_fn x0).bind fun y0 =>
    (i_accountOf_fn x0 x1).bind fun y1 =>
      (i_isBook_fn x0).bind fun y2 =>
        if (!y2.fst) = true then
          some (((y0.fst.fst, ()), 1, ()), ())
        else
          if (y1.fst.snd.fst) = true then
            some (((y0.fst.fst, ()), 3, ()), ())
          else
            if ((↑(List.length x0.fst) : Int) == 40) = true then
              some (((y0.fst.fst, ()), 1, ()), ())
            else
              (rec (.l0 (x1) (y1.fst.fst) (y0.fst.fst))).bind some
def i_OpenAccount_go : Nat → i_OpenAccount_H → Option i_OpenAccount_R
  | 0, _ => none
  | k + 1, h => i_OpenAccount_body (i_OpenAccount_go k) h
def i_OpenAccount_k (k : Nat) (x0 : BookD) (x1 : Int) : Option i_OpenAccount_R := i_OpenAccount_start (i_OpenAccount_go k) x0 x1
def i_OpenAccount_fn (x0 : BookD) (x1 : Int) : Option i_OpenAccount_R := i_OpenAccount_k (10000000) x0 x1
noncomputable def i_OpenAccount_sig : Sig := { ps := i_OpenAccount_ps, outs := i_OpenAccount_outs, fn := fun x => i_OpenAccount_fn (x.1) (x.2.1) }
theorem i_OpenAccount_l0_t (rec : Cfg → Option i_OpenAccount_R) (v0 : Int) (v1 : Int) (v2 : List AccountD) : Tr.k (ev i_OpenAccount_env i_OpenAccount_anns i_OpenAccount_sig rec 20000 (i_OpenAccount_cfg (.l0 v0 v1 v2))) some = ((slices_Insert_Account_fn v2 v1 ((List.replicate 1 (0, 0, 0, 0, 0, ())).set 0 (v0, 0, 0, 0, 0, ()))).bind fun y3 => some (((y3.fst, ()), 0, ()), ()) : Option i_OpenAccount_R) := by kernel_rfl
theorem i_OpenAccount_l0 (rec : Cfg → Option i_OpenAccount_sig.R.D) (v0 : Int) (v1 : Int) (v2 : List AccountD) : (ev i_OpenAccount_env i_OpenAccount_anns i_OpenAccount_sig rec 20000 (i_OpenAccount_cfg (.l0 v0 v1 v2))).run = i_OpenAccount_body (fun h => rec (i_OpenAccount_cfg h)) (.l0 v0 v1 v2) := (Tr.k_some _).trans ((i_OpenAccount_l0_t rec v0 v1 v2).trans (by first | rfl | (simp only [br_ite]; rfl)))
theorem i_OpenAccount_begin_t (rec : Cfg → Option i_OpenAccount_R) (x0 : BookD) (x1 : Int) : Tr.k (ev i_OpenAccount_env i_OpenAccount_anns i_OpenAccount_sig rec 20000 (entry i_OpenAccount_sig 68 Try.f68 (bodyOf Try.f68) (x0, x1, ()))) some = ((i_copyBook_fn x0).bind fun y0 => (i_accountOf_fn x0 x1).bind fun y1 => (i_isBook_fn x0).bind fun y2 => br (!y2.fst) (some (((y0.fst.fst, ()), 1, ()), ())) (br (y1.fst.snd.fst) (some (((y0.fst.fst, ()), 3, ()), ())) (br ((↑(List.length x0.fst) : Int) == 40) (some (((y0.fst.fst, ()), 1, ()), ())) ((rec (i_OpenAccount_cfg (.l0 (x1) (y1.fst.fst) (y0.fst.fst)))).bind some))) : Option i_OpenAccount_R) := by kernel_rfl
theorem i_OpenAccount_begin (rec : Cfg → Option i_OpenAccount_sig.R.D) (x0 : BookD) (x1 : Int) : (ev i_OpenAccount_env i_OpenAccount_anns i_OpenAccount_sig rec 20000 (entry i_OpenAccount_sig 68 Try.f68 (bodyOf Try.f68) (x0, x1, ()))).run = i_OpenAccount_start (fun h => rec (i_OpenAccount_cfg h)) x0 x1 := (Tr.k_some _).trans ((i_OpenAccount_begin_t rec x0 x1).trans (by first | rfl | (simp only [br_ite]; rfl)))
theorem i_OpenAccount_tab_ok : i_OpenAccount_tab.ok Try.prog = true := by decide +kernel
theorem i_OpenAccount_env_ok : (i_OpenAccount_env).Ok Try.prog where
  mixed := by decide +kernel
  tab := i_OpenAccount_tab_ok
  fns := by
    intro p hp
    simp only [i_OpenAccount_env, List.mem_cons, List.not_mem_nil, or_false] at hp
    subst hp
    · exact ⟨Try.func68, by decide +kernel⟩
  sigs := by
    intro p hp
    simp only [i_OpenAccount_env, List.mem_cons, List.not_mem_nil, or_false] at hp
    rcases hp with rfl | rfl | rfl | rfl
    · exact ⟨i_isBook_meets, _, Try.func49, by decide +kernel⟩
    · exact ⟨i_copyBook_meets, _, Try.func67, by decide +kernel⟩
    · exact ⟨i_accountOf_meets, _, Try.func73, by decide +kernel⟩
    · exact ⟨slices_Insert_Account_meets, _, Try.func87, by decide +kernel⟩
  exts := by
    intro p hp
    simp only [i_OpenAccount_env, List.mem_cons, List.not_mem_nil, or_false] at hp
theorem i_OpenAccount_run (k : Nat) (h : i_OpenAccount_H) : Om i_OpenAccount_env i_OpenAccount_anns i_OpenAccount_sig 20000 k (i_OpenAccount_cfg h) = i_OpenAccount_go k h :=
  Om_go (sg := i_OpenAccount_sig) (cfg := i_OpenAccount_cfg) (body := i_OpenAccount_body) (go := i_OpenAccount_go) (fun _ => rfl) (fun _ _ => rfl) (fun rec h => by
  cases h with
  | l0 v0 v1 v2 => exact i_OpenAccount_l0 rec v0 v1 v2) k h
theorem i_OpenAccount_meets : Meets Try.prog 68 i_OpenAccount_sig := by
  refine meets (anns := i_OpenAccount_anns) (N := 20000) i_OpenAccount_env_ok Try.func68 (body := bodyOf Try.f68) (by rfl) ?_
  rintro ⟨x0, x1, ⟨⟩⟩ r hr
  refine ⟨10000000, ?_⟩
  show (ev i_OpenAccount_env i_OpenAccount_anns i_OpenAccount_sig (Om i_OpenAccount_env i_OpenAccount_anns i_OpenAccount_sig 20000 (10000000)) 20000 (entry i_OpenAccount_sig 68 Try.f68 (bodyOf Try.f68) (x0, x1, ()))).run = some r
  rw [i_OpenAccount_begin]
  have e : (fun h => Om i_OpenAccount_env i_OpenAccount_anns i_OpenAccount_sig 20000 (10000000) (i_OpenAccount_cfg h)) = i_OpenAccount_go (10000000) := funext fun h => i_OpenAccount_run _ h
  rw [e]
  exact hr
end Go.Proofs.Ytmggpiijahiaiaa.Ev
namespace Go.Proofs.Ytmggpiijahiaiaa.Ev
open Go
set_option linter.unusedVariables false
set_option linter.unusedSimpArgs false
set_option maxRecDepth 100000
def i_CloseAccount_tab : TTab := [⟨3, (.int .i64), 0⟩, ⟨4, .bool, 0⟩, ⟨40, (.int .u64), 0⟩, ⟨47, (.slice tAccount), 40⟩, ⟨49, tBook, 0⟩, ⟨71, tAccount, 0⟩, ⟨100, .opq, 0⟩, ⟨101, .opq, 0⟩]
abbrev i_CloseAccount_ps : List Par := [.lent tBook, .lent (.int .u64)]
abbrev i_CloseAccount_outs : Outs := .many [(.pair (.own tAccount) .unit), (.pure (.int .i64))]
abbrev i_CloseAccount_R : Type := ((((List (Int × (Int × (Int × (Int × (Int × Unit)))))) × Unit) × (Int × Unit)) × Unit)
abbrev i_CloseAccount_T : Ty := .pair (Outs.ty i_CloseAccount_outs) (mutsTy i_CloseAccount_ps)
noncomputable def i_CloseAccount_env : Env := { tab := i_CloseAccount_tab, fns := [(69, Try.f69), (88, Try.f88), (89, Try.f89)], sigs := [(49, i_isBook_sig), (67, i_copyBook_sig), (73, i_accountOf_sig), (96, slices_Delete_Account_sig)] }
def i_CloseAccount_anns : List Ann := [⟨69, 300008, [4], []⟩, ⟨88, 200005, [2, 3, 6, 8, 9, 10], []⟩, ⟨88, 300013, [1, 2, 3, 6], []⟩, ⟨88, 300015, [1, 2, 3, 6, 8], []⟩, ⟨88, 300021, [2, 3, 6, 8], []⟩, ⟨88, 300032, [3, 6, 8, 9], []⟩, ⟨88, 300036, [6, 11], []⟩, ⟨88, 300050, [6, 8], []⟩]
inductive i_CloseAccount_H where
  | l0 (v0 : Int) (v1 : Bool) (v2 : BookD) (v3 : List AccountD)
noncomputable def i_CloseAccount_cfg : i_CloseAccount_H → Cfg
  | .l0 v0 v1 v2 v3 => { fr := { fn := 88, fb := 25231360, ss := sl 53 [(2, (.fn 89 [])), (3, (.bptr 0 [])), (6, (.bptr 1 [])), (8, (.bptr 2 [])), (9, (.pv false (.int .i64) v0)), (10, (.pv false .bool v1))], todo := cutAt (bodyOf Try.f88) [false, false, false, false, true, true] [] }, cs := [{ fn := 69, fb := 0, ss := sl 11 [(4, (.bptr 4 []))], todo := callAt (bodyOf Try.f69) [false, true] 2 [] }], ob := ofList [.box tBook (.pv true tBook v2), .box tBook (.pair .nilv .unit), .box tBook (.pair (.row 3 0) .unit), .row 0 false tAccount v3, .box tBook (.pair .nilv .unit)] }
def i_CloseAccount_body (rec : i_CloseAccount_H → Option i_CloseAccount_R) : i_CloseAccount_H → Option i_CloseAccount_R
  | .l0 v0 v1 v2 v3 =>
    if (!v1) = true then
      some (((v3, ()), 2, ()), ())
    else
      if (decide (0 ≤ v0)) = true then
        if (decide (v0 < (↑v3.length : Int))) = true then
          if ((v3.getD v0.toNat (0, 0, 0, 0, 0, ())).snd.snd.snd.snd.fst != 0) = true then
            (i_copyBook_fn v2).bind fun y3 =>
              some (((y3.fst.fst, ()), 6, ()), ())
          else
            if ((v3.getD v0.toNat (0, 0, 0, 0, 0, ())).snd.fst != 0) = true then
              (i_copyBook_fn v2).bind fun y4 =>
                some (((y4.fst.fst, ()), 4, ()), ())
            else
              if (decide (0 ≤ v0)) = true then
                if (decide (v0 < (↑(v3.set v0.toNat ((v3.getD v0.toNat (0, 0, 0, 0, 0, ())).fst, (v3.getD v0.toNat (0, 0, 0, 0, 0, ())).snd.fst, (v3.getD v0.toNat (0, 0, 0, 0, 0, ())).snd.snd.fst, (v3.getD v0.toNat (0, 0, 0, 0, 0, ())).snd.snd.snd.fst, -1, (v3.getD v0.toNat (0, 0, 0, 0, 0, ())).snd.snd.snd.snd.snd)).length : Int))) = true then
                  if (((v3.set v0.toNat ((v3.getD v0.toNat (0, 0, 0, 0, 0, ())).fst, (v3.getD v0.toNat (0, 0, 0, 0, 0, ())).snd.fst, (v3.getD v0.toNat (0, 0, 0, 0, 0, ())).snd.snd.fst, (v3.getD v0.toNat (0, 0, 0, 0, 0, ())).snd.snd.snd.fst, -1, (v3.getD v0.toNat (0, 0, 0, 0, 0, ())).snd.snd.snd.snd.snd)).getD v0.toNat (0, 0, 0, 0, 0, ())).snd.snd.snd.snd.fst == -1) = true then
                    (slices_Delete_Account_fn (v3.set v0.toNat ((v3.getD v0.toNat (0, 0, 0, 0, 0, ())).fst, (v3.getD v0.toNat (0, 0, 0, 0, 0, ())).snd.fst, (v3.getD v0.toNat (0, 0, 0, 0, 0, ())).snd.snd.fst, (v3.getD v0.toNat (0, 0, 0, 0, 0, ())).snd.snd.snd.fst, -1, (v3.getD v0.toNat (0, 0, 0, 0, 0, ())).snd.snd.snd.snd.snd)) v0 (IntKind.i64.wrap (v0 + 1))).bind fun y5 =>
                      some (((y5.fst, ()), 0, ()), ())
                  else
                    some (((v3.set v0.toNat ((v3.getD v0.toNat (0, 0, 0, 0, 0, ())).fst, (v3.getD v0.toNat (0, 0, 0, 0, 0, ())).snd.fst, (v3.getD v0.toNat (0, 0, 0, 0, 0, ())).snd.snd.fst, (v3.getD v0.toNat (0, 0, 0, 0, 0, ())).snd.snd.snd.fst, -1, (v3.getD v0.toNat (0, 0, 0, 0, 0, ())).snd.snd.snd.snd.snd), ()), 0, ()), ())
                else
                  none
              else
                none
        else
          none
      else
        none
def i_CloseAccount_start (rec : i_CloseAccount_H → Option i_CloseAccount_R) (x0 : BookD) (x1 : Int) : Option i_CloseAccount_R :=
  (i_copyBook_fn x0).bind fun y0 =>
    (i_isBook_fn x0).bind fun y1 =>
      if (!y1.fst) = true then
        some (((y0.fst.fst, ()), 1, ()), ())
      else
        (i_accountOf_fn x0 x1).bind fun y2 =>
          (rec (.l0 (y2.fst.fst) (y2.fst.snd.fst) (x0) (y0.fst.fst))).bind some
def i_CloseAccount_go : Nat → i_CloseAccount_H → Option i_CloseAccount_R
  | 0, _ => none
  | k + 1, h => i_CloseAccount_body (i_CloseAccount_go k) h
def i_CloseAccount_k (k : Nat) (x0 : BookD) (x1 : Int) : Option i_CloseAccount_R := i_CloseAccount_start (i_CloseAccount_go k) x0 x1
def i_CloseAccount_fn (x0 : BookD) (x1 : Int) : Option i_CloseAccount_R := i_CloseAccount_k (10000000) x0 x1
noncomputable def i_CloseAccount_sig : Sig := { ps := i_CloseAccount_ps, outs := i_CloseAccount_outs, fn := fun x => i_CloseAccount_fn (x.1) (x.2.1) }
theorem i_CloseAccount_l0_t (rec : Cfg → Option i_CloseAccount_R) (v0 : Int) (v1 : Bool) (v2 : BookD) (v3 : List AccountD) : Tr.k (ev i_CloseAccount_env i_CloseAccount_anns i_CloseAccount_sig rec 20000 (i_CloseAccount_cfg (.l0 v0 v1 v2 v3))) some = (br (!v1) (some (((v3, ()), 2, ()), ())) (br (decide (0 ≤ v0)) (br (decide (v0 < (↑v3.length : Int))) (br ((v3.getD v0.toNat (0, 0, 0, 0, 0, ())).snd.snd.snd.snd.fst != 0) ((i_copyBook_fn v2).bind fun y3 => some (((y3.fst.fst, ()), 6, ()), ())) (br ((v3.getD v0.toNat (0, 0, 0, 0, 0, ())).snd.fst != 0) ((i_copyBook_fn v2).bind fun y4 => some (((y4.fst.fst, ()), 4, ()), ())) (br (decide (0 ≤ v0)) (br (decide (v0 < (↑(v3.set v0.toNat ((v3.getD v0.toNat (0, 0, 0, 0, 0, ())).fst, (v3.getD v0.toNat (0, 0, 0, 0, 0, ())).snd.fst, (v3.getD v0.toNat (0, 0, 0, 0, 0, ())).snd.snd.fst, (v3.getD v0.toNat (0, 0, 0, 0, 0, ())).snd.snd.snd.fst, -1, (v3.getD v0.toNat (0, 0, 0, 0, 0, ())).snd.snd.snd.snd.snd)).length : Int))) (br (((v3.set v0.toNat ((v3.getD v0.toNat (0, 0, 0, 0, 0, ())).fst, (v3.getD v0.toNat (0, 0, 0, 0, 0, ())).snd.fst, (v3.getD v0.toNat (0, 0, 0, 0, 0, ())).snd.snd.fst, (v3.getD v0.toNat (0, 0, 0, 0, 0, ())).snd.snd.snd.fst, -1, (v3.getD v0.toNat (0, 0, 0, 0, 0, ())).snd.snd.snd.snd.snd)).getD v0.toNat (0, 0, 0, 0, 0, ())).snd.snd.snd.snd.fst == -1) ((slices_Delete_Account_fn (v3.set v0.toNat ((v3.getD v0.toNat (0, 0, 0, 0, 0, ())).fst, (v3.getD v0.toNat (0, 0, 0, 0, 0, ())).snd.fst, (v3.getD v0.toNat (0, 0, 0, 0, 0, ())).snd.snd.fst, (v3.getD v0.toNat (0, 0, 0, 0, 0, ())).snd.snd.snd.fst, -1, (v3.getD v0.toNat (0, 0, 0, 0, 0, ())).snd.snd.snd.snd.snd)) v0 (IntKind.i64.wrap (v0 + 1))).bind fun y5 => some (((y5.fst, ()), 0, ()), ())) (some (((v3.set v0.toNat ((v3.getD v0.toNat (0, 0, 0, 0, 0, ())).fst, (v3.getD v0.toNat (0, 0, 0, 0, 0, ())).snd.fst, (v3.getD v0.toNat (0, 0, 0, 0, 0, ())).snd.snd.fst, (v3.getD v0.toNat (0, 0, 0, 0, 0, ())).snd.snd.snd.fst, -1, (v3.getD v0.toNat (0, 0, 0, 0, 0, ())).snd.snd.snd.snd.snd), ()), 0, ()), ()))) (none)) (none)))) (none)) (none)) : Option i_CloseAccount_R) := by kernel_rfl
theorem i_CloseAccount_l0 (rec : Cfg → Option i_CloseAccount_sig.R.D) (v0 : Int) (v1 : Bool) (v2 : BookD) (v3 : List AccountD) : (ev i_CloseAccount_env i_CloseAccount_anns i_CloseAccount_sig rec 20000 (i_CloseAccount_cfg (.l0 v0 v1 v2 v3))).run = i_CloseAccount_body (fun h => rec (i_CloseAccount_cfg h)) (.l0 v0 v1 v2 v3) := (Tr.k_some _).trans ((i_CloseAccount_l0_t rec v0 v1 v2 v3).trans (by first | rfl | (simp only [br_ite]; rfl)))
theorem i_CloseAccount_begin_t (rec : Cfg → Option i_CloseAccount_R) (x0 : BookD) (x1 : Int) : Tr.k (ev i_CloseAccount_env i_CloseAccount_anns i_CloseAccount_sig rec 20000 (entry i_CloseAccount_sig 69 Try.f69 (bodyOf Try.f69) (x0, x1, ()))) some = ((i_copyBook_fn x0).bind fun y0 => (i_isBook_fn x0).bind fun y1 => br (!y1.fst) (some (((y0.fst.fst, ()), 1, ()), ())) ((i_accountOf_fn x0 x1).bind fun y2 => (rec (i_CloseAccount_cfg (.l0 (y2.fst.fst) (y2.fst.snd.fst) (x0) (y0.fst.fst)))).bind some) : Option i_CloseAccount_R) := by kernel_rfl
theorem i_CloseAccount_begin (rec : Cfg → Option i_CloseAccount_sig.R.D) (x0 : BookD) (x1 : Int) : (ev i_CloseAccount_env i_CloseAccount_anns i_CloseAccount_sig rec 20000 (entry i_CloseAccount_sig 69 Try.f69 (bodyOf Try.f69) (x0, x1, ()))).run = i_CloseAccount_start (fun h => rec (i_CloseAccount_cfg h)) x0 x1 := (Tr.k_some _).trans ((i_CloseAccount_begin_t rec x0 x1).trans (by first | rfl | (simp only [br_ite]; rfl)))
theorem i_CloseAccount_tab_ok : i_CloseAccount_tab.ok Try.prog = true := by decide +kernel
theorem i_CloseAccount_env_ok : (i_CloseAccount_env).Ok Try.prog where
  mixed := by decide +kernel
  tab := i_CloseAccount_tab_ok
  fns := by
    intro p hp
    simp only [i_CloseAccount_env, List.mem_cons, List.not_mem_nil, or_false] at hp
    rcases hp with rfl | rfl | rfl
    · exact ⟨Try.func69, by decide +kernel⟩
    · exact ⟨Try.func88, by decide +kernel⟩
    · exact ⟨Try.func89, by decide +kernel⟩
  sigs := by
    intro p hp
    simp only [i_CloseAccount_env, List.mem_cons, List.not_mem_nil, or_false] at hp
    rcases hp with rfl | rfl | rfl | rfl
    · exact ⟨i_isBook_meets, _, Try.func49, by decide +kernel⟩
    · exact ⟨i_copyBook_meets, _, Try.func67, by decide +kernel⟩
    · exact ⟨i_accountOf_meets, _, Try.func73, by decide +kernel⟩
    · exact ⟨slices_Delete_Account_meets, _, Try.func96, by decide +kernel⟩
  exts := by
    intro p hp
    simp only [i_CloseAccount_env, List.mem_cons, List.not_mem_nil, or_false] at hp
theorem i_CloseAccount_run (k : Nat) (h : i_CloseAccount_H) : Om i_CloseAccount_env i_CloseAccount_anns i_CloseAccount_sig 20000 k (i_CloseAccount_cfg h) = i_CloseAccount_go k h :=
  Om_go (sg := i_CloseAccount_sig) (cfg := i_CloseAccount_cfg) (body := i_CloseAccount_body) (go := i_CloseAccount_go) (fun _ => rfl) (fun _ _ => rfl) (fun rec h => by
  cases h with
  | l0 v0 v1 v2 v3 => exact i_CloseAccount_l0 rec v0 v1 v2 v3) k h
theorem i_CloseAccount_meets : Meets Try.prog 69 i_CloseAccount_sig := by
  refine meets (anns := i_CloseAccount_anns) (N := 20000) i_CloseAccount_env_ok Try.func69 (body := bodyOf Try.f69) (by rfl) ?_
  rintro ⟨x0, x1, ⟨⟩⟩ r hr
  refine ⟨10000000, ?_⟩
  show (ev i_CloseAccount_env i_CloseAccount_anns i_CloseAccount_sig (Om i_CloseAccount_env i_CloseAccount_anns i_CloseAccount_sig 20000 (10000000)) 20000 (entry i_CloseAccount_sig 69 Try.f69 (bodyOf Try.f69) (x0, x1, ()))).run = some r
  rw [i_CloseAccount_begin]
  have e : (fun h => Om i_CloseAccount_env i_CloseAccount_anns i_CloseAccount_sig 20000 (10000000) (i_CloseAccount_cfg h)) = i_CloseAccount_go (10000000) := funext fun h => i_CloseAccount_run _ h
  rw [e]
  exact hr
end Go.Proofs.Ytmggpiijahiaiaa.Ev
namespace Go.Proofs.Ytmggpiijahiaiaa.Ev
open Go
set_option linter.unusedVariables false
set_option linter.unusedSimpArgs false
set_option maxRecDepth 100000
def i_Deposit_tab : TTab := [⟨3, (.int .i64), 0⟩, ⟨4, .bool, 0⟩, ⟨40, (.int .u64), 0⟩, ⟨47, (.slice tAccount), 40⟩, ⟨49, tBook, 0⟩, ⟨71, tAccount, 0⟩, ⟨100, .opq, 0⟩, ⟨101, .opq, 0⟩]
abbrev i_Deposit_ps : List Par := [.lent tBook, .lent (.int .u64), .lent (.int .u64)]
abbrev i_Deposit_outs : Outs := .many [(.pair (.own tAccount) .unit), (.pure (.int .i64))]
abbrev i_Deposit_R : Type := ((((List (Int × (Int × (Int × (Int × (Int × Unit)))))) × Unit) × (Int × Unit)) × Unit)
abbrev i_Deposit_T : Ty := .pair (Outs.ty i_Deposit_outs) (mutsTy i_Deposit_ps)
noncomputable def i_Deposit_env : Env := { tab := i_Deposit_tab, fns := [(70, Try.f70), (88, Try.f88), (90, Try.f90)], sigs := [(49, i_isBook_sig), (67, i_copyBook_sig), (73, i_accountOf_sig), (96, slices_Delete_Account_sig)] }
def i_Deposit_anns : List Ann := [⟨70, 300011, [6], []⟩, ⟨88, 200005, [2, 3, 6, 8, 9, 10], []⟩, ⟨88, 300013, [1, 2, 3, 6], []⟩, ⟨88, 300015, [1, 2, 3, 6, 8], []⟩, ⟨88, 300021, [2, 3, 6, 8], []⟩, ⟨88, 300032, [3, 6, 8, 9], []⟩, ⟨88, 300036, [6, 11], []⟩, ⟨88, 300050, [6, 8], []⟩]
inductive i_Deposit_H where
  | l0 (v0 : Int) (v1 : Bool) (v2 : Int) (v3 : BookD) (v4 : List AccountD)
noncomputable def i_Deposit_cfg : i_Deposit_H → Cfg
  | .l0 v0 v1 v2 v3 v4 => { fr := { fn := 88, fb := 28377088, ss := sl 53 [(2, (.fn 90 [0])), (3, (.bptr 1 [])), (6, (.bptr 2 [])), (8, (.bptr 3 [])), (9, (.pv false (.int .i64) v0)), (10, (.pv false .bool v1))], todo := cutAt (bodyOf Try.f88) [false, false, false, false, true, true] [] }, cs := [{ fn := 70, fb := 0, ss := sl 14 [(6, (.bptr 5 []))], todo := callAt (bodyOf Try.f70) [false, true] 3 [] }], ob := ofList [.box (.int .u64) (.pv false (.int .u64) v2), .box tBook (.pv true tBook v3), .box tBook (.pair .nilv .unit), .box tBook (.pair (.row 4 0) .unit), .row 0 false tAccount v4, .box tBook (.pair .nilv .unit)] }
def i_Deposit_body (rec : i_Deposit_H → Option i_Deposit_R) : i_Deposit_H → Option i_Deposit_R
  | .l0 v0 v1 v2 v3 v4 =>
    if (!v1) = true then
      some (((v4, ()), 2, ()), ())
    else
      if (decide (0 ≤ v0)) = true then
        if (decide (v0 < (↑v4.length : Int))) = true then
          if ((v4.getD v0.toNat (0, 0, 0, 0, 0, ())).snd.snd.snd.snd.fst != 0) = true then
            (i_copyBook_fn v3).bind fun y3 =>
              some (((y3.fst.fst, ()), 6, ()), ())
          else
            if (decide (IntKind.u64.wrap ((v4.getD v0.toNat (0, 0, 0, 0, 0, ())).snd.fst + v2) < (v4.getD v0.toNat (0, 0, 0, 0, 0, ())).snd.fst)) = true then
              (i_copyBook_fn v3).bind fun y4 =>
                some (((y4.fst.fst, ()), 5, ()), ())
            else
              if (decide (0 ≤ v0)) = true then
                if (decide (v0 < (↑(v4.set v0.toNat ((v4.getD v0.toNat (0, 0, 0, 0, 0, ())).fst, IntKind.u64.wrap ((v4.getD v0.toNat (0, 0, 0, 0, 0, ())).snd.fst + v2), (v4.getD v0.toNat (0, 0, 0, 0, 0, ())).snd.snd)).length : Int))) = true then
                  if (((v4.set v0.toNat ((v4.getD v0.toNat (0, 0, 0, 0, 0, ())).fst, IntKind.u64.wrap ((v4.getD v0.toNat (0, 0, 0, 0, 0, ())).snd.fst + v2), (v4.getD v0.toNat (0, 0, 0, 0, 0, ())).snd.snd)).getD v0.toNat (0, 0, 0, 0, 0, ())).snd.snd.snd.snd.fst == -1) = true then
                    (slices_Delete_Account_fn (v4.set v0.toNat ((v4.getD v0.toNat (0, 0, 0, 0, 0, ())).fst, IntKind.u64.wrap ((v4.getD v0.toNat (0, 0, 0, 0, 0, ())).snd.fst + v2), (v4.getD v0.toNat (0, 0, 0, 0, 0, ())).snd.snd)) v0 (IntKind.i64.wrap (v0 + 1))).bind fun y5 =>
                      some (((y5.fst, ()), 0, ()), ())
                  else
                    some (((v4.set v0.toNat ((v4.getD v0.toNat (0, 0, 0, 0, 0, ())).fst, IntKind.u64.wrap ((v4.getD v0.toNat (0, 0, 0, 0, 0, ())).snd.fst + v2), (v4.getD v0.toNat (0, 0, 0, 0, 0, ())).snd.snd), ()), 0, ()), ())
                else
                  none
              else
                none
        else
          none
      else
        none
def i_Deposit_start (rec : i_Deposit_H → Option i_Deposit_R) (x0 : BookD) (x1 : Int) (x2 : Int) : Option i_Deposit_R :=
  (i_copyBook_fn x0).bind fun y0 =>
    (i_isBook_fn x0).bind fun y1 =>
      if (!y1.fst) = true then
        some (((y0.fst.fst, ()), 1, ()), ())
      else
        (i_accountOf_fn x0 x1).bind fun y2 =>
          (rec (.l0 (y2.fst.fst) (y2.fst.snd.fst) (x2) (x0) (y0.fst.fst))).bind some
def i_Deposit_go : Nat → i_Deposit_H → Option i_Deposit_R
  | 0, _ => none
  | k + 1, h => i_Deposit_body (i_Deposit_go k) h
def i_Deposit_k (k : Nat) (x0 : BookD) (x1 : Int) (x2 : Int) : Option i_Deposit_R := i_Deposit_start (i_Deposit_go k) x0 x1 x2
def i_Deposit_fn (x0 : BookD) (x1 : Int) (x2 : Int) : Option i_Deposit_R := i_Deposit_k (10000000) x0 x1 x2
noncomputable def i_Deposit_sig : Sig := { ps := i_Deposit_ps, outs := i_Deposit_outs, fn := fun x => i_Deposit_fn (x.1) (x.2.1) (x.2.2.1) }
theorem i_Deposit_l0_t (rec : Cfg → Option i_Deposit_R) (v0 : Int) (v1 : Bool) (v2 : Int) (v3 : BookD) (v4 : List AccountD) : Tr.k (ev i_Deposit_env i_Deposit_anns i_Deposit_sig rec 20000 (i_Deposit_cfg (.l0 v0 v1 v2 v3 v4))) some = (br (!v1) (some (((v4, ()), 2, ()), ())) (br (decide (0 ≤ v0)) (br (decide (v0 < (↑v4.length : Int))) (br ((v4.getD v0.toNat (0, 0, 0, 0, 0, ())).snd.snd.snd.snd.fst != 0) ((i_copyBook_fn v3).bind fun y3 => some (((y3.fst.fst, ()), 6, ()), ())) (br (decide (IntKind.u64.wrap ((v4.getD v0.toNat (0, 0, 0, 0, 0, ())).snd.fst + v2) < (v4.getD v0.toNat (0, 0, 0, 0, 0, ())).snd.fst)) ((i_copyBook_fn v3).bind fun y4 => some (((y4.fst.fst, ()), 5, ()), ())) (br (decide (0 ≤ v0)) (br (decide (v0 < (↑(v4.set v0.toNat ((v4.getD v0.toNat (0, 0, 0, 0, 0, ())).fst, IntKind.u64.wrap ((v4.getD v0.toNat (0, 0, 0, 0, 0, ())).snd.fst + v2), (v4.getD v0.toNat (0, 0, 0, 0, 0, ())).snd.snd)).length : Int))) (br (((v4.set v0.toNat ((v4.getD v0.toNat (0, 0, 0, 0, 0, ())).fst, IntKind.u64.wrap ((v4.getD v0.toNat (0, 0, 0, 0, 0, ())).snd.fst + v2), (v4.getD v0.toNat (0, 0, 0, 0, 0, ())).snd.snd)).getD v0.toNat (0, 0, 0, 0, 0, ())).snd.snd.snd.snd.fst == -1) ((slices_Delete_Account_fn (v4.set v0.toNat ((v4.getD v0.toNat (0, 0, 0, 0, 0, ())).fst, IntKind.u64.wrap ((v4.getD v0.toNat (0, 0, 0, 0, 0, ())).snd.fst + v2), (v4.getD v0.toNat (0, 0, 0, 0, 0, ())).snd.snd)) v0 (IntKind.i64.wrap (v0 + 1))).bind fun y5 => some (((y5.fst, ()), 0, ()), ())) (some (((v4.set v0.toNat ((v4.getD v0.toNat (0, 0, 0, 0, 0, ())).fst, IntKind.u64.wrap ((v4.getD v0.toNat (0, 0, 0, 0, 0, ())).snd.fst + v2), (v4.getD v0.toNat (0, 0, 0, 0, 0, ())).snd.snd), ()), 0, ()), ()))) (none)) (none)))) (none)) (none)) : Option i_Deposit_R) := by kernel_rfl
theorem i_Deposit_l0 (rec : Cfg → Option i_Deposit_sig.R.D) (v0 : Int) (v1 : Bool) (v2 : Int) (v3 : BookD) (v4 : List AccountD) : (ev i_Deposit_env i_Deposit_anns i_Deposit_sig rec 20000 (i_Deposit_cfg (.l0 v0 v1 v2 v3 v4))).run = i_Deposit_body (fun h => rec (i_Deposit_cfg h)) (.l0 v0 v1 v2 v3 v4) := (Tr.k_some _).trans ((i_Deposit_l0_t rec v0 v1 v2 v3 v4).trans (by first | rfl | (simp only [br_ite]; rfl)))
theorem i_Deposit_begin_t (rec : Cfg → Option i_Deposit_R) (x0 : BookD) (x1 : Int) (x2 : Int) : Tr.k (ev i_Deposit_env i_Deposit_anns i_Deposit_sig rec 20000 (entry i_Deposit_sig 70 Try.f70 (bodyOf Try.f70) (x0, x1, x2, ()))) some = ((i_copyBook_fn x0).bind fun y0 => (i_isBook_fn x0).bind fun y1 => br (!y1.fst) (some (((y0.fst.fst, ()), 1, ()), ())) ((i_accountOf_fn x0 x1).bind fun y2 => (rec (i_Deposit_cfg (.l0 (y2.fst.fst) (y2.fst.snd.fst) (x2) (x0) (y0.fst.fst)))).bind some) : Option i_Deposit_R) := by kernel_rfl
theorem i_Deposit_begin (rec : Cfg → Option i_Deposit_sig.R.D) (x0 : BookD) (x1 : Int) (x2 : Int) : (ev i_Deposit_env i_Deposit_anns i_Deposit_sig rec 20000 (entry i_Deposit_sig 70 Try.f70 (bodyOf Try.f70) (x0, x1, x2, ()))).run = i_Deposit_start (fun h => rec (i_Deposit_cfg h)) x0 x1 x2 := (Tr.k_some _).trans ((i_Deposit_begin_t rec x0 x1 x2).trans (by first | rfl | (simp only [br_ite]; rfl)))
theorem i_Deposit_tab_ok : i_Deposit_tab.ok Try.prog = true := by decide +kernel
theorem i_Deposit_env_ok : (i_Deposit_env).Ok Try.prog where
  mixed := by decide +kernel
  tab := i_Deposit_tab_ok
  fns := by
    intro p hp
    simp only [i_Deposit_env, List.mem_cons, List.not_mem_nil, or_false] at hp
    rcases hp with rfl | rfl | rfl
    · exact ⟨Try.func70, by decide +kernel⟩
    · exact ⟨Try.func88, by decide +kernel⟩
    · exact ⟨Try.func90, by decide +kernel⟩
  sigs := by
    intro p hp
    simp only [i_Deposit_env, List.mem_cons, List.not_mem_nil, or_false] at hp
    rcases hp with rfl | rfl | rfl | rfl
    · exact ⟨i_isBook_meets, _, Try.func49, by decide +kernel⟩
    · exact ⟨i_copyBook_meets, _, Try.func67, by decide +kernel⟩
    · exact ⟨i_accountOf_meets, _, Try.func73, by decide +kernel⟩
    · exact ⟨slices_Delete_Account_meets, _, Try.func96, by decide +kernel⟩
  exts := by
    intro p hp
    simp only [i_Deposit_env, List.mem_cons, List.not_mem_nil, or_false] at hp
theorem i_Deposit_run (k : Nat) (h : i_Deposit_H) : Om i_Deposit_env i_Deposit_anns i_Deposit_sig 20000 k (i_Deposit_cfg h) = i_Deposit_go k h :=
  Om_go (sg := i_Deposit_sig) (cfg := i_Deposit_cfg) (body := i_Deposit_body) (go := i_Deposit_go) (fun _ => rfl) (fun _ _ => rfl) (fun rec h => by
  cases h with
  | l0 v0 v1 v2 v3 v4 => exact i_Deposit_l0 rec v0 v1 v2 v3 v4) k h
theorem i_Deposit_meets : Meets Try.prog 70 i_Deposit_sig := by
  refine meets (anns := i_Deposit_anns) (N := 20000) i_Deposit_env_ok Try.func70 (body := bodyOf Try.f70) (by rfl) ?_
  rintro ⟨x0, x1, x2, ⟨⟩⟩ r hr
  refine ⟨10000000, ?_⟩
  show (ev i_Deposit_env i_Deposit_anns i_Deposit_sig (Om i_Deposit_env i_Deposit_anns i_Deposit_sig 20000 (10000000)) 20000 (entry i_Deposit_sig 70 Try.f70 (bodyOf Try.f70) (x0, x1, x2, ()))).run = some r
  rw [i_Deposit_begin]
  have e : (fun h => Om i_Deposit_env i_Deposit_anns i_Deposit_sig 20000 (10000000) (i_Deposit_cfg h)) = i_Deposit_go (10000000) := funext fun h => i_Deposit_run _ h
  rw [e]
  exact hr
end Go.Proofs.Ytmggpiijahiaiaa.Ev
namespace Go.Proofs.Ytmggpiijahiaiaa.Ev
open Go
set_option linter.unusedVariables false
set_option linter.unusedSimpArgs false
set_option maxRecDepth 100000
def i_Withdraw_tab : TTab := [⟨3, (.int .i64), 0⟩, ⟨4, .bool, 0⟩, ⟨40, (.int .u64), 0⟩, ⟨47, (.slice tAccount), 40⟩, ⟨49, tBook, 0⟩, ⟨71, tAccount, 0⟩, ⟨100, .opq, 0⟩, ⟨101, .opq, 0⟩]
abbrev i_Withdraw_ps : List Par := [.lent tBook, .lent (.int .u64), .lent (.int .u64)]
abbrev i_Withdraw_outs : Outs := .many [(.pair (.own tAccount) .unit), (.pure (.int .i64))]
abbrev i_Withdraw_R : Type := ((((List (Int × (Int × (Int × (Int × (Int × Unit)))))) × Unit) × (Int × Unit)) × Unit)
abbrev i_Withdraw_T : Ty := .pair (Outs.ty i_Withdraw_outs) (mutsTy i_Withdraw_ps)
noncomputable def i_Withdraw_env : Env := { tab := i_Withdraw_tab, fns := [(71, Try.f71), (88, Try.f88), (91, Try.f91)], sigs := [(49, i_isBook_sig), (67, i_copyBook_sig), (73, i_accountOf_sig), (96, slices_Delete_Account_sig)] }
def i_Withdraw_anns : List Ann := [⟨71, 300011, [6], []⟩, ⟨88, 200005, [2, 3, 6, 8, 9, 10], []⟩, ⟨88, 300013, [1, 2, 3, 6], []⟩, ⟨88, 300015, [1, 2, 3, 6, 8], []⟩, ⟨88, 300021, [2, 3, 6, 8], []⟩, ⟨88, 300032, [3, 6, 8, 9], []⟩, ⟨88, 300036, [6, 11], []⟩, ⟨88, 300050, [6, 8], []⟩]
inductive i_Withdraw_H where
  | l0 (v0 : Int) (v1 : Bool) (v2 : Int) (v3 : BookD) (v4 : List AccountD)
noncomputable def i_Withdraw_cfg : i_Withdraw_H → Cfg
  | .l0 v0 v1 v2 v3 v4 => { fr := { fn := 88, fb := 28377088, ss := sl 53 [(2, (.fn 91 [0])), (3, (.bptr 1 [])), (6, (.bptr 2 [])), (8, (.bptr 3 [])), (9, (.pv false (.int .i64) v0)), (10, (.pv false .bool v1))], todo := cutAt (bodyOf Try.f88) [false, false, false, false, true, true] [] }, cs := [{ fn := 71, fb := 0, ss := sl 14 [(6, (.bptr 5 []))], todo := callAt (bodyOf Try.f71) [false, true] 3 [] }], ob := ofList [.box (.int .u64) (.pv false (.int .u64) v2), .box tBook (.pv true tBook v3), .box tBook (.pair .nilv .unit), .box tBook (.pair (.row 4 0) .unit), .row 0 false tAccount v4, .box tBook (.pair .nilv .unit)] }
def i_Withdraw_body (rec : i_Withdraw_H → Option i_Withdraw_R) : i_Withdraw_H → Option i_Withdraw_R
  | .l0 v0 v1 v2 v3 v4 =>
    if (!v1) = true then
      some (((v4, ()), 2, ()), ())
    else
      if (decide (0 ≤ v0)) = true then
        if (decide (v0 < (↑v4.length : Int))) = true then
          if ((v4.getD v0.toNat (0, 0, 0, 0, 0, ())).snd.snd.snd.snd.fst != 0) = true then
            (i_copyBook_fn v3).bind fun y3 =>
              some (((y3.fst.fst, ()), 6, ()), ())
          else
            if (decide ((v4.getD v0.toNat (0, 0, 0, 0, 0, ())).snd.fst < v2)) = true then
              (i_copyBook_fn v3).bind fun y4 =>
                some (((y4.fst.fst, ()), 4, ()), ())
            else
              if (decide (0 ≤ v0)) = true then
                if (decide (v0 < (↑(v4.set v0.toNat ((v4.getD v0.toNat (0, 0, 0, 0, 0, ())).fst, IntKind.u64.wrap ((v4.getD v0.toNat (0, 0, 0, 0, 0, ())).snd.fst - v2), (v4.getD v0.toNat (0, 0, 0, 0, 0, ())).snd.snd)).length : Int))) = true then
                  if (((v4.set v0.toNat ((v4.getD v0.toNat (0, 0, 0, 0, 0, ())).fst, IntKind.u64.wrap ((v4.getD v0.toNat (0, 0, 0, 0, 0, ())).snd.fst - v2), (v4.getD v0.toNat (0, 0, 0, 0, 0, ())).snd.snd)).getD v0.toNat (0, 0, 0, 0, 0, ())).snd.snd.snd.snd.fst == -1) = true then
                    (slices_Delete_Account_fn (v4.set v0.toNat ((v4.getD v0.toNat (0, 0, 0, 0, 0, ())).fst, IntKind.u64.wrap ((v4.getD v0.toNat (0, 0, 0, 0, 0, ())).snd.fst - v2), (v4.getD v0.toNat (0, 0, 0, 0, 0, ())).snd.snd)) v0 (IntKind.i64.wrap (v0 + 1))).bind fun y5 =>
                      some (((y5.fst, ()), 0, ()), ())
                  else
                    some (((v4.set v0.toNat ((v4.getD v0.toNat (0, 0, 0, 0, 0, ())).fst, IntKind.u64.wrap ((v4.getD v0.toNat (0, 0, 0, 0, 0, ())).snd.fst - v2), (v4.getD v0.toNat (0, 0, 0, 0, 0, ())).snd.snd), ()), 0, ()), ())
                else
                  none
              else
                none
        else
          none
      else
        none
def i_Withdraw_start (rec : i_Withdraw_H → Option i_Withdraw_R) (x0 : BookD) (x1 : Int) (x2 : Int) : Option i_Withdraw_R :=
  (i_copyBook_fn x0).bind fun y0 =>
    (i_isBook_fn x0).bind fun y1 =>
      if (!y1.fst) = true then
        some (((y0.fst.fst, ()), 1, ()), ())
      else
        (i_accountOf_fn x0 x1).bind fun y2 =>
          (rec (.l0 (y2.fst.fst) (y2.fst.snd.fst) (x2) (x0) (y0.fst.fst))).bind some
def i_Withdraw_go : Nat → i_Withdraw_H → Option i_Withdraw_R
  | 0, _ => none
  | k + 1, h => i_Withdraw_body (i_Withdraw_go k) h
def i_Withdraw_k (k : Nat) (x0 : BookD) (x1 : Int) (x2 : Int) : Option i_Withdraw_R := i_Withdraw_start (i_Withdraw_go k) x0 x1 x2
def i_Withdraw_fn (x0 : BookD) (x1 : Int) (x2 : Int) : Option i_Withdraw_R := i_Withdraw_k (10000000) x0 x1 x2
noncomputable def i_Withdraw_sig : Sig := { ps := i_Withdraw_ps, outs := i_Withdraw_outs, fn := fun x => i_Withdraw_fn (x.1) (x.2.1) (x.2.2.1) }
theorem i_Withdraw_l0_t (rec : Cfg → Option i_Withdraw_R) (v0 : Int) (v1 : Bool) (v2 : Int) (v3 : BookD) (v4 : List AccountD) : Tr.k (ev i_Withdraw_env i_Withdraw_anns i_Withdraw_sig rec 20000 (i_Withdraw_cfg (.l0 v0 v1 v2 v3 v4))) some = (br (!v1) (some (((v4, ()), 2, ()), ())) (br (decide (0 ≤ v0)) (br (decide (v0 < (↑v4.length : Int))) (br ((v4.getD v0.toNat (0, 0, 0, 0, 0, ())).snd.snd.snd.snd.fst != 0) ((i_copyBook_fn v3).bind fun y3 => some (((y3.fst.fst, ()), 6, ()), ())) (br (decide ((v4.getD v0.toNat (0, 0, 0, 0, 0, ())).snd.fst < v2)) ((i_copyBook_fn v3).bind fun y4 => some (((y4.fst.fst, ()), 4, ()), ())) (br (decide (0 ≤ v0)) (br (decide (v0 < (↑(v4.set v0.toNat ((v4.getD v0.toNat (0, 0, 0, 0, 0, ())).fst, IntKind.u64.wrap ((v4.getD v0.toNat (0, 0, 0, 0, 0, ())).snd.fst - v2), (v4.getD v0.toNat (0, 0, 0, 0, 0, ())).snd.snd)).length : Int))) (br (((v4.set v0.toNat ((v4.getD v0.toNat (0, 0, 0, 0, 0, ())).fst, IntKind.u64.wrap ((v4.getD v0.toNat (0, 0, 0, 0, 0, ())).snd.fst - v2), (v4.getD v0.toNat (0, 0, 0, 0, 0, ())).snd.snd)).getD v0.toNat (0, 0, 0, 0, 0, ())).snd.snd.snd.snd.fst == -1) ((slices_Delete_Account_fn (v4.set v0.toNat ((v4.getD v0.toNat (0, 0, 0, 0, 0, ())).fst, IntKind.u64.wrap ((v4.getD v0.toNat (0, 0, 0, 0, 0, ())).snd.fst - v2), (v4.getD v0.toNat (0, 0, 0, 0, 0, ())).snd.snd)) v0 (IntKind.i64.wrap (v0 + 1))).bind fun y5 => some (((y5.fst, ()), 0, ()), ())) (some (((v4.set v0.toNat ((v4.getD v0.toNat (0, 0, 0, 0, 0, ())).fst, IntKind.u64.wrap ((v4.getD v0.toNat (0, 0, 0, 0, 0, ())).snd.fst - v2), (v4.getD v0.toNat (0, 0, 0, 0, 0, ())).snd.snd), ()), 0, ()), ()))) (none)) (none)))) (none)) (none)) : Option i_Withdraw_R) := by kernel_rfl
theorem i_Withdraw_l0 (rec : Cfg → Option i_Withdraw_sig.R.D) (v0 : Int) (v1 : Bool) (v2 : Int) (v3 : BookD) (v4 : List AccountD) : (ev i_Withdraw_env i_Withdraw_anns i_Withdraw_sig rec 20000 (i_Withdraw_cfg (.l0 v0 v1 v2 v3 v4))).run = i_Withdraw_body (fun h => rec (i_Withdraw_cfg h)) (.l0 v0 v1 v2 v3 v4) := (Tr.k_some _).trans ((i_Withdraw_l0_t rec v0 v1 v2 v3 v4).trans (by first | rfl | (simp only [br_ite]; rfl)))
theorem i_Withdraw_begin_t (rec : Cfg → Option i_Withdraw_R) (x0 : BookD) (x1 : Int) (x2 : Int) : Tr.k (ev i_Withdraw_env i_Withdraw_anns i_Withdraw_sig rec 20000 (entry i_Withdraw_sig 71 Try.f71 (bodyOf Try.f71) (x0, x1, x2, ()))) some = ((i_copyBook_fn x0).bind fun y0 => (i_isBook_fn x0).bind fun y1 => br (!y1.fst) (some (((y0.fst.fst, ()), 1, ()), ())) ((i_accountOf_fn x0 x1).bind fun y2 => (rec (i_Withdraw_cfg (.l0 (y2.fst.fst) (y2.fst.snd.fst) (x2) (x0) (y0.fst.fst)))).bind some) : Option i_Withdraw_R) := by kernel_rfl
theorem i_Withdraw_begin (rec : Cfg → Option i_Withdraw_sig.R.D) (x0 : BookD) (x1 : Int) (x2 : Int) : (ev i_Withdraw_env i_Withdraw_anns i_Withdraw_sig rec 20000 (entry i_Withdraw_sig 71 Try.f71 (bodyOf Try.f71) (x0, x1, x2, ()))).run = i_Withdraw_start (fun h => rec (i_Withdraw_cfg h)) x0 x1 x2 := (Tr.k_some _).trans ((i_Withdraw_begin_t rec x0 x1 x2).trans (by first | rfl | (simp only [br_ite]; rfl)))
theorem i_Withdraw_tab_ok : i_Withdraw_tab.ok Try.prog = true := by decide +kernel
theorem i_Withdraw_env_ok : (i_Withdraw_env).Ok Try.prog where
  mixed := by decide +kernel
  tab := i_Withdraw_tab_ok
  fns := by
    intro p hp
    simp only [i_Withdraw_env, List.mem_cons, List.not_mem_nil, or_false] at hp
    rcases hp with rfl | rfl | rfl
    · exact ⟨Try.func71, by decide +kernel⟩
    · exact ⟨Try.func88, by decide +kernel⟩
    · exact ⟨Try.func91, by decide +kernel⟩
  sigs := by
    intro p hp
    simp only [i_Withdraw_env, List.mem_cons, List.not_mem_nil, or_false] at hp
    rcases hp with rfl | rfl | rfl | rfl
    · exact ⟨i_isBook_meets, _, Try.func49, by decide +kernel⟩
    · exact ⟨i_copyBook_meets, _, Try.func67, by decide +kernel⟩
    · exact ⟨i_accountOf_meets, _, Try.func73, by decide +kernel⟩
    · exact ⟨slices_Delete_Account_meets, _, Try.func96, by decide +kernel⟩
  exts := by
    intro p hp
    simp only [i_Withdraw_env, List.mem_cons, List.not_mem_nil, or_false] at hp
theorem i_Withdraw_run (k : Nat) (h : i_Withdraw_H) : Om i_Withdraw_env i_Withdraw_anns i_Withdraw_sig 20000 k (i_Withdraw_cfg h) = i_Withdraw_go k h :=
  Om_go (sg := i_Withdraw_sig) (cfg := i_Withdraw_cfg) (body := i_Withdraw_body) (go := i_Withdraw_go) (fun _ => rfl) (fun _ _ => rfl) (fun rec h => by
  cases h with
  | l0 v0 v1 v2 v3 v4 => exact i_Withdraw_l0 rec v0 v1 v2 v3 v4) k h
theorem i_Withdraw_meets : Meets Try.prog 71 i_Withdraw_sig := by
  refine meets (anns := i_Withdraw_anns) (N := 20000) i_Withdraw_env_ok Try.func71 (body := bodyOf Try.f71) (by rfl) ?_
  rintro ⟨x0, x1, x2, ⟨⟩⟩ r hr
  refine ⟨10000000, ?_⟩
  show (ev i_Withdraw_env i_Withdraw_anns i_Withdraw_sig (Om i_Withdraw_env i_Withdraw_anns i_Withdraw_sig 20000 (10000000)) 20000 (entry i_Withdraw_sig 71 Try.f71 (bodyOf Try.f71) (x0, x1, x2, ()))).run = some r
  rw [i_Withdraw_begin]
  have e : (fun h => Om i_Withdraw_env i_Withdraw_anns i_Withdraw_sig 20000 (10000000) (i_Withdraw_cfg h)) = i_Withdraw_go (10000000) := funext fun h => i_Withdraw_run _ h
  rw [e]
  exact hr
end Go.Proofs.Ytmggpiijahiaiaa.Ev
namespace Go.Proofs.Ytmggpiijahiaiaa.Ev
open Go
set_option linter.unusedVariables false
set_option linter.unusedSimpArgs false
set_option maxRecDepth 100000
def i_MoveMoney_tab : TTab := [⟨3, (.int .i64), 0⟩, ⟨4, .bool, 0⟩, ⟨40, (.int .u64), 0⟩, ⟨47, (.slice tAccount), 40⟩, ⟨49, tBook, 0⟩, ⟨71, tAccount, 0⟩]
abbrev i_MoveMoney_ps : List Par := [.lent tBook, .lent (.int .u64), .lent (.int .u64), .lent (.int .u64)]
abbrev i_MoveMoney_outs : Outs := .many [(.pair (.own tAccount) .unit), (.pure (.int .i64))]
abbrev i_MoveMoney_R : Type := ((((List (Int × (Int × (Int × (Int × (Int × Unit)))))) × Unit) × (Int × Unit)) × Unit)
abbrev i_MoveMoney_T : Ty := .pair (Outs.ty i_MoveMoney_outs) (mutsTy i_MoveMoney_ps)
noncomputable def i_MoveMoney_env : Env := { tab := i_MoveMoney_tab, fns := [(72, Try.f72)], sigs := [(49, i_isBook_sig), (67, i_copyBook_sig), (73, i_accountOf_sig)] }
def i_MoveMoney_anns : List Ann := [⟨72, 100029, [3, 4, 8, 10, 11, 12, 13, 14, 29], []⟩, ⟨72, 100039, [3, 4, 8, 10, 11, 13, 39], []⟩, ⟨72, 100047, [3, 4, 8, 10, 11, 13, 47], []⟩, ⟨72, 200004, [1, 2, 3, 4, 8, 10, 11, 12, 13, 14], []⟩]
inductive i_MoveMoney_H where
  | l0 (v0 : Int) (v1 : Int) (v2 : Int) (v3 : Int) (v4 : Bool) (v5 : Int) (v6 : Bool) (v7 : BookD) (v8 : List AccountD)
  | l1 (v0 : Int) (v1 : Int) (v2 : Bool) (v3 : Int) (v4 : Bool) (v5 : Bool) (v6 : BookD) (v7 : List AccountD)
  | l2 (v0 : Int) (v1 : Int) (v2 : Int) (v3 : Bool) (v4 : BookD) (v5 : List AccountD)
  | l3 (v0 : Int) (v1 : Int) (v2 : Int) (v3 : Bool) (v4 : BookD) (v5 : List AccountD)
noncomputable def i_MoveMoney_cfg : i_MoveMoney_H → Cfg
  | .l0 v0 v1 v2 v3 v4 v5 v6 v7 v8 => { fr := { fn := 72, fb := 0, ss := sl 108 [(1, (.pv false (.int .u64) v0)), (2, (.pv false (.int .u64) v1)), (3, (.pv false (.int .u64) v2)), (4, (.bptr 0 [])), (8, (.bptr 1 [])), (10, (.bptr 2 [])), (11, (.pv false (.int .i64) v3)), (12, (.pv false .bool v4)), (13, (.pv false (.int .i64) v5)), (14, (.pv false .bool v6))], todo := cutAt (bodyOf Try.f72) [false, false, false, false, true, true, true] [] }, cs := [], ob := ofList [.box tBook (.pv true tBook v7), .box tBook (.pair .nilv .unit), .box tBook (.pair (.row 3 0) .unit), .row 0 false tAccount v8] }
  | .l1 v0 v1 v2 v3 v4 v5 v6 v7 => { fr := { fn := 72, fb := 0, ss := sl 108 [(3, (.pv false (.int .u64) v0)), (4, (.bptr 0 [])), (8, (.bptr 1 [])), (10, (.bptr 2 [])), (11, (.pv false (.int .i64) v1)), (12, (.pv false .bool v2)), (13, (.pv false (.int .i64) v3)), (14, (.pv false .bool v4)), (29, (.pv false .bool v5))], todo := cutAt (bodyOf Try.f72) [false, false, false, false, true, true, false] [] }, cs := [], ob := ofList [.box tBook (.pv true tBook v6), .box tBook (.pair .nilv .unit), .box tBook (.pair (.row 3 0) .unit), .row 0 false tAccount v7] }
  | .l2 v0 v1 v2 v3 v4 v5 => { fr := { fn := 72, fb := 0, ss := sl 108 [(3, (.pv false (.int .u64) v0)), (4, (.bptr 0 [])), (8, (.bptr 1 [])), (10, (.bptr 2 [])), (11, (.pv false (.int .i64) v1)), (13, (.pv false (.int .i64) v2)), (39, (.pv false .bool v3))], todo := cutAt (bodyOf Try.f72) [false, false, false, false, true, true, false, false, false] [] }, cs := [], ob := ofList [.box tBook (.pv true tBook v4), .box tBook (.pair .nilv .unit), .box tBook (.pair (.row 3 0) .unit), .row 0 false tAccount v5] }
  | .l3 v0 v1 v2 v3 v4 v5 => { fr := { fn := 72, fb := 0, ss := sl 108 [(3, (.pv false (.int .u64) v0)), (4, (.bptr 0 [])), (8, (.bptr 1 [])), (10, (.bptr 2 [])), (11, (.pv false (.int .i64) v1)), (13, (.pv false (.int .i64) v2)), (47, (.pv false .bool v3))], todo := cutAt (bodyOf Try.f72) [false, false, false, false, true, true, false, false, false, false, false] [] }, cs := [], ob := ofList [.box tBook (.pv true tBook v4), .box tBook (.pair .nilv .unit), .box tBook (.pair (.row 3 0) .unit), .row 0 false tAccount v5] }
def i_MoveMoney_body (rec : i_MoveMoney_H → Option i_MoveMoney_R) : i_MoveMoney_H → Option i_MoveMoney_R
  | .l0 v0 v1 v2 v3 v4 v5 v6 v7 v8 =>
    (i_isBook_fn v7).bind fun y3 =>
      if (!y3.fst) = true then
        (rec (.l1 (v2) (v3) (v4) (v5) (v6) (Bool.true) (v7) (v8))).bind some
      else
        (rec (.l1 (v2) (v3) (v4) (v5) (v6) (v0 == v1) (v7) (v8))).bind some
  | .l1 v0 v1 v2 v3 v4 v5 v6 v7 =>
    if (v5) = true then
      some (((v7, ()), 1, ()), ())
    else
      if (!v2) = true then
        (rec (.l2 (v0) (v1) (v3) (Bool.true) (v6) (v7))).bind some
      else
        (rec (.l2 (v0) (v1) (v3) (!v4) (v6) (v7))).bind some
  | .l2 v0 v1 v2 v3 v4 v5 =>
    if (v3) = true then
      some (((v5, ()), 2, ()), ())
    else
      if (decide (0 ≤ v1)) = true then
        if (decide (v1 < (↑(List.length v4.fst) : Int))) = true then
          if ((List.getD v4.fst v1.toNat (0, 0, 0, 0, 0, ())).snd.snd.snd.snd.fst != 0) = true then
            (rec (.l3 (v0) (v1) (v2) (Bool.true) (v4) (v5))).bind some
          else
            if (decide (0 ≤ v2)) = true then
              if (decide (v2 < (↑(List.length v4.fst) : Int))) = true then
                (rec (.l3 (v0) (v1) (v2) ((List.getD v4.fst v2.toNat (0, 0, 0, 0, 0, ())).snd.snd.snd.snd.fst != 0) (v4) (v5))).bind some
              else
                none
            else
              none
        else
          none
      else
        none
  | .l3 v0 v1 v2 v3 v4 v5 =>
    if (v3) = true then
      some (((v5, ()), 6, ()), ())
    else
      if (decide (0 ≤ v1)) = true then
        if (decide (v1 < (↑(List.length v4.fst) : Int))) = true then
          if (decide ((List.getD v4.fst v1.toNat (0, 0, 0, 0, 0, ())).snd.fst < v0)) = true then
            some (((v5, ()), 4, ()), ())
          else
            if (decide (0 ≤ v2)) = true then
              if (decide (v2 < (↑(List.length v4.fst) : Int))) = true then
                if (decide (IntKind.u64.wrap ((List.getD v4.fst v2.toNat (0, 0, 0, 0, 0, ())).snd.fst + v0) < v0)) = true then
                  some (((v5, ()), 5, ()), ())
                else
                  if (decide (0 ≤ v1)) = true then
                    if (decide (v1 < (↑v5.length : Int))) = true then
                      if (decide (0 ≤ v1)) = true then
                        if (decide (v1 < (↑v5.length : Int))) = true then
                          if (decide (0 ≤ v2)) = true then
                            if (decide (v2 < (↑(v5.set v1.toNat ((v5.getD v1.toNat (0, 0, 0, 0, 0, ())).fst, IntKind.u64.wrap ((v5.getD v1.toNat (0, 0, 0, 0, 0, ())).snd.fst - v0), (v5.getD v1.toNat (0, 0, 0, 0, 0, ())).snd.snd)).length : Int))) = true then
                              if (decide (0 ≤ v2)) = true then
                                if (decide (v2 < (↑(v5.set v1.toNat ((v5.getD v1.toNat (0, 0, 0, 0, 0, ())).fst, IntKind.u64.wrap ((v5.getD v1.toNat (0, 0, 0, 0, 0, ())).snd.fst - v0), (v5.getD v1.toNat (0, 0, 0, 0, 0, ())).snd.snd)).length : Int))) = true then
                                  some ((((v5.set v1.toNat ((v5.getD v1.toNat (0, 0, 0, 0, 0, ())).fst, IntKind.u64.wrap ((v5.getD v1.toNat (0, 0, 0, 0, 0, ())).snd.fst - v0), (v5.getD v1.toNat (0, 0, 0, 0, 0, ())).snd.snd)).set v2.toNat (((v5.set v1.toNat ((v5.getD v1.toNat (0, 0, 0, 0, 0, ())).fst, IntKind.u64.wrap ((v5.getD v1.toNat (0, 0, 0, 0, 0, ())).snd.fst - v0), (v5.getD v1.toNat (0, 0, 0, 0, 0, ())).snd.snd)).getD v2.toNat (0, 0, 0, 0, 0, ())).fst, IntKind.u64.wrap (((v5.set v1.toNat ((v5.getD v1.toNat (0, 0, 0, 0, 0, ())).fst, IntKind.u64.wrap ((v5.getD v1.toNat (0, 0, 0, 0, 0, ())).snd.fst - v0), (v5.getD v1.toNat (0, 0, 0, 0, 0, ())).snd.snd)).getD v2.toNat (0, 0, 0, 0, 0, ())).snd.fst + v0), ((v5.set v1.toNat ((v5.getD v1.toNat (0, 0, 0, 0, 0, ())).fst, IntKind.u64.wrap ((v5.getD v1.toNat (0, 0, 0, 0, 0, ())).snd.fst - v0), (v5.getD v1.toNat (0, 0, 0, 0, 0, ())).snd.snd)).getD v2.toNat (0, 0, 0, 0, 0, ())).snd.snd), ()), 0, ()), ())
                                else
                                  none
                              else
                                none
                            else
                              none
                          else
                            none
                        else
                          none
                      else
                        none
                    else
                      none
                  else
                    none
              else
                none
            else
              none
        else
          none
      else
        none
def i_MoveMoney_start (rec : i_MoveMoney_H → Option i_MoveMoney_R) (x0 : BookD) (x1 : Int) (x2 : Int) (x3 : Int) : Option i_MoveMoney_R :=
  (i_copyBook_fn x0).bind fun y0 =>
    (i_accountOf_fn x0 x1).bind fun y1 =>
      (i_accountOf_fn x0 x2).bind fun y2 =>
        (rec (.l0 (x1) (x2) (x3) (y1.fst.fst) (y1.fst.snd.fst) (y2.fst.fst) (y2.fst.snd.fst) (x0) (y0.fst.fst))).bind some
def i_MoveMoney_go : Nat → i_MoveMoney_H → Option i_MoveMoney_R
  | 0, _ => none
  | k + 1, h => i_MoveMoney_body (i_MoveMoney_go k) h
def i_MoveMoney_k (k : Nat) (x0 : BookD) (x1 : Int) (x2 : Int) (x3 : Int) : Option i_MoveMoney_R := i_MoveMoney_start (i_MoveMoney_go k) x0 x1 x2 x3
def i_MoveMoney_fn (x0 : BookD) (x1 : Int) (x2 : Int) (x3 : Int) : Option i_MoveMoney_R := i_MoveMoney_k (10000000) x0 x1 x2 x3
noncomputable def i_MoveMoney_sig : Sig := { ps := i_MoveMoney_ps, outs := i_MoveMoney_outs, fn := fun x => i_MoveMoney_fn (x.1) (x.2.1) (x.2.2.1) (x.2.2.2.1) }
theorem i_MoveMoney_l0_t (rec : Cfg → Option i_MoveMoney_R) (v0 : Int) (v1 : Int) (v2 : Int) (v3 : Int) (v4 : Bool) (v5 : Int) (v6 : Bool) (v7 : BookD) (v8 : List AccountD) : Tr.k (ev i_MoveMoney_env i_MoveMoney_anns i_MoveMoney_sig rec 20000 (i_MoveMoney_cfg (.l0 v0 v1 v2 v3 v4 v5 v6 v7 v8))) some = ((i_isBook_fn v7).bind fun y3 => br (!y3.fst) ((rec (i_MoveMoney_cfg (.l1 (v2) (v3) (v4) (v5) (v6) (Bool.true) (v7) (v8)))).bind some) ((rec (i_MoveMoney_cfg (.l1 (v2) (v3) (v4) (v5) (v6) (v0 == v1) (v7) (v8)))).bind some) : Option i_MoveMoney_R) := by kernel_rfl
theorem i_MoveMoney_l0 (rec : Cfg → Option i_MoveMoney_sig.R.D) (v0 : Int) (v1 : Int) (v2 : Int) (v3 : Int) (v4 : Bool) (v5 : Int) (v6 : Bool) (v7 : BookD) (v8 : List AccountD) : (ev i_MoveMoney_env i_MoveMoney_anns i_MoveMoney_sig rec 20000 (i_MoveMoney_cfg (.l0 v0 v1 v2 v3 v4 v5 v6 v7 v8))).run = i_MoveMoney_body (fun h => rec (i_MoveMoney_cfg h)) (.l0 v0 v1 v2 v3 v4 v5 v6 v7 v8) := (Tr.k_some _).trans ((i_MoveMoney_l0_t rec v0 v1 v2 v3 v4 v5 v6 v7 v8).trans (by first | rfl | (simp only [br_ite]; rfl)))
theorem i_MoveMoney_l1_t (rec : Cfg → Option i_MoveMoney_R) (v0 : Int) (v1 : Int) (v2 : Bool) (v3 : Int) (v4 : Bool) (v5 : Bool) (v6 : BookD) (v7 : List AccountD) : Tr.k (ev i_MoveMoney_env i_MoveMoney_anns i_MoveMoney_sig rec 20000 (i_MoveMoney_cfg (.l1 v0 v1 v2 v3 v4 v5 v6 v7))) some = (br (v5) (some (((v7, ()), 1, ()), ())) (br (!v2) ((rec (i_MoveMoney_cfg (.l2 (v0) (v1) (v3) (Bool.true) (v6) (v7)))).bind some) ((rec (i_MoveMoney_cfg (.l2 (v0) (v1) (v3) (!v4) (v6) (v7)))).bind some)) : Option i_MoveMoney_R) := by kernel_rfl
theorem i_MoveMoney_l1 (rec : Cfg → Option i_MoveMoney_sig.R.D) (v0 : Int) (v1 : Int) (v2 : Bool) (v3 : Int) (v4 : Bool) (v5 : Bool) (v6 : BookD) (v7 : List AccountD) : (ev i_MoveMoney_env i_MoveMoney_anns i_MoveMoney_sig rec 20000 (i_MoveMoney_cfg (.l1 v0 v1 v2 v3 v4 v5 v6 v7))).run = i_MoveMoney_body (fun h => rec (i_MoveMoney_cfg h)) (.l1 v0 v1 v2 v3 v4 v5 v6 v7) := (Tr.k_some _).trans ((i_MoveMoney_l1_t rec v0 v1 v2 v3 v4 v5 v6 v7).trans (by first | rfl | (simp only [br_ite]; rfl)))
theorem i_MoveMoney_l2_t (rec : Cfg → Option i_MoveMoney_R) (v0 : Int) (v1 : Int) (v2 : Int) (v3 : Bool) (v4 : BookD) (v5 : List AccountD) : Tr.k (ev i_MoveMoney_env i_MoveMoney_anns i_MoveMoney_sig rec 20000 (i_MoveMoney_cfg (.l2 v0 v1 v2 v3 v4 v5))) some = (br (v3) (some (((v5, ()), 2, ()), ())) (br (decide (0 ≤ v1)) (br (decide (v1 < (↑(List.length v4.fst) : Int))) (br ((List.getD v4.fst v1.toNat (0, 0, 0, 0, 0, ())).snd.snd.snd.snd.fst != 0) ((rec (i_MoveMoney_cfg (.l3 (v0) (v1) (v2) (Bool.true) (v4) (v5)))).bind some) (br (decide (0 ≤ v2)) (br (decide (v2 < (↑(List.length v4.fst) : Int))) ((rec (i_MoveMoney_cfg (.l3 (v0) (v1) (v2) ((List.getD v4.fst v2.toNat (0, 0, 0, 0, 0, ())).snd.snd.snd.snd.fst != 0) (v4) (v5)))).bind some) (none)) (none))) (none)) (none)) : Option i_MoveMoney_R) := by kernel_rfl
theorem i_MoveMoney_l2 (rec : Cfg → Option i_MoveMoney_sig.R.D) (v0 : Int) (v1 : Int) (v2 : Int) (v3 : Bool) (v4 : BookD) (v5 : List AccountD) : (ev i_MoveMoney_env i_MoveMoney_anns i_MoveMoney_sig rec 20000 (i_MoveMoney_cfg (.l2 v0 v1 v2 v3 v4 v5))).run = i_MoveMoney_body (fun h => rec (i_MoveMoney_cfg h)) (.l2 v0 v1 v2 v3 v4 v5) := (Tr.k_some _).trans ((i_MoveMoney_l2_t rec v0 v1 v2 v3 v4 v5).trans (by first | rfl | (simp only [br_ite]; rfl)))
theorem i_MoveMoney_l3_t (rec : Cfg → Option i_MoveMoney_R) (v0 : Int) (v1 : Int) (v2 : Int) (v3 : Bool) (v4 : BookD) (v5 : List AccountD) : Tr.k (ev i_MoveMoney_env i_MoveMoney_anns i_MoveMoney_sig rec 20000 (i_MoveMoney_cfg (.l3 v0 v1 v2 v3 v4 v5))) some = (br (v3) (some (((v5, ()), 6, ()), ())) (br (decide (0 ≤ v1)) (br (decide (v1 < (↑(List.length v4.fst) : Int))) (br (decide ((List.getD v4.fst v1.toNat (0, 0, 0, 0, 0, ())).snd.fst < v0)) (some (((v5, ()), 4, ()), ())) (br (decide (0 ≤ v2)) (br (decide (v2 < (↑(List.length v4.fst) : Int))) (br (decide (IntKind.u64.wrap ((List.getD v4.fst v2.toNat (0, 0, 0, 0, 0, ())).snd.fst + v0) < v0)) (some (((v5, ()), 5, ()), ())) (br (decide (0 ≤ v1)) (br (decide (v1 < (↑v5.length : Int))) (br (decide (0 ≤ v1)) (br (decide (v1 < (↑v5.length : Int))) (br (decide (0 ≤ v2)) (br (decide (v2 < (↑(v5.set v1.toNat ((v5.getD v1.toNat (0, 0, 0, 0, 0, ())).fst, IntKind.u64.wrap ((v5.getD v1.toNat (0, 0, 0, 0, 0, ())).snd.fst - v0), (v5.getD v1.toNat (0, 0, 0, 0, 0, ())).snd.snd)).length : Int))) (br (decide (0 ≤ v2)) (br (decide (v2 < (↑(v5.set v1.toNat ((v5.getD v1.toNat (0, 0, 0, 0, 0, ())).fst, IntKind.u64.wrap ((v5.getD v1.toNat (0, 0, 0, 0, 0, ())).snd.fst - v0), (v5.getD v1.toNat (0, 0, 0, 0, 0, ())).snd.snd)).length : Int))) (some ((((v5.set v1.toNat ((v5.getD v1.toNat (0, 0, 0, 0, 0, ())).fst, IntKind.u64.wrap ((v5.getD v1.toNat (0, 0, 0, 0, 0, ())).snd.fst - v0), (v5.getD v1.toNat (0, 0, 0, 0, 0, ())).snd.snd)).set v2.toNat (((v5.set v1.toNat ((v5.getD v1.toNat (0, 0, 0, 0, 0, ())).fst, IntKind.u64.wrap ((v5.getD v1.toNat (0, 0, 0, 0, 0, ())).snd.fst - v0), (v5.getD v1.toNat (0, 0, 0, 0, 0, ())).snd.snd)).getD v2.toNat (0, 0, 0, 0, 0, ())).fst, IntKind.u64.wrap (((v5.set v1.toNat ((v5.getD v1.toNat (0, 0, 0, 0, 0, ())).fst, IntKind.u64.wrap ((v5.getD v1.toNat (0, 0, 0, 0, 0, ())).snd.fst - v0), (v5.getD v1.toNat (0, 0, 0, 0, 0, ())).snd.snd)).getD v2.toNat (0, 0, 0, 0, 0, ())).snd.fst + v0), ((v5.set v1.toNat ((v5.getD v1.toNat (0, 0, 0, 0, 0, ())).fst, IntKind.u64.wrap ((v5.getD v1.toNat (0, 0, 0, 0, 0, ())).snd.fst - v0), (v5.getD v1.toNat (0, 0, 0, 0, 0, ())).snd.snd)).getD v2.toNat (0, 0, 0, 0, 0, ())).snd.snd), ()), 0, ()), ())) (none)) (none)) (none)) (none)) (none)) (none)) (none)) (none))) (none)) (none))) (none)) (none)) : Option i_MoveMoney_R) := by kernel_rfl
theorem i_MoveMoney_l3 (rec : Cfg → Option i_MoveMoney_sig.R.D) (v0 : Int) (v1 : Int) (v2 : Int) (v3 : Bool) (v4 : BookD) (v5 : List AccountD) : (ev i_MoveMoney_env i_MoveMoney_anns i_MoveMoney_sig rec 20000 (i_MoveMoney_cfg (.l3 v0 v1 v2 v3 v4 v5))).run = i_MoveMoney_body (fun h => rec (i_MoveMoney_cfg h)) (.l3 v0 v1 v2 v3 v4 v5) := (Tr.k_some _).trans ((i_MoveMoney_l3_t rec v0 v1 v2 v3 v4 v5).trans (by first | rfl | (simp only [br_ite]; rfl)))
theorem i_MoveMoney_begin_t (rec : Cfg → Option i_MoveMoney_R) (x0 : BookD) (x1 : Int) (x2 : Int) (x3 : Int) : Tr.k (ev i_MoveMoney_env i_MoveMoney_anns i_MoveMoney_sig rec 20000 (entry i_MoveMoney_sig 72 Try.f72 (bodyOf Try.f72) (x0, x1, x2, x3, ()))) some = ((i_copyBook_fn x0).bind fun y0 => (i_accountOf_fn x0 x1).bind fun y1 => (i_accountOf_fn x0 x2).bind fun y2 => (rec (i_MoveMoney_cfg (.l0 (x1) (x2) (x3) (y1.fst.fst) (y1.fst.snd.fst) (y2.fst.fst) (y2.fst.snd.fst) (x0) (y0.fst.fst)))).bind some : Option i_MoveMoney_R) := by kernel_rfl
theorem i_MoveMoney_begin (rec : Cfg → Option i_MoveMoney_sig.R.D) (x0 : BookD) (x1 : Int) (x2 : Int) (x3 : Int) : (ev i_MoveMoney_env i_MoveMoney_anns i_MoveMoney_sig rec 20000 (entry i_MoveMoney_sig 72 Try.f72 (bodyOf Try.f72) (x0, x1, x2, x3, ()))).run = i_MoveMoney_start (fun h => rec (i_MoveMoney_cfg h)) x0 x1 x2 x3 := (Tr.k_some _).trans ((i_MoveMoney_begin_t rec x0 x1 x2 x3).trans (by first | rfl | (simp only [br_ite]; rfl)))
theorem i_MoveMoney_tab_ok : i_MoveMoney_tab.ok Try.prog = true := by decide +kernel
theorem i_MoveMoney_env_ok : (i_MoveMoney_env).Ok Try.prog where
  mixed := by decide +kernel
  tab := i_MoveMoney_tab_ok
  fns := by
    intro p hp
    simp only [i_MoveMoney_env, List.mem_cons, List.not_mem_nil, or_false] at hp
    subst hp
    · exact ⟨Try.func72, by decide +kernel⟩
  sigs := by
    intro p hp
    simp only [i_MoveMoney_env, List.mem_cons, List.not_mem_nil, or_false] at hp
    rcases hp with rfl | rfl | rfl
    · exact ⟨i_isBook_meets, _, Try.func49, by decide +kernel⟩
    · exact ⟨i_copyBook_meets, _, Try.func67, by decide +kernel⟩
    · exact ⟨i_accountOf_meets, _, Try.func73, by decide +kernel⟩
  exts := by
    intro p hp
    simp only [i_MoveMoney_env, List.mem_cons, List.not_mem_nil, or_false] at hp
theorem i_MoveMoney_run (k : Nat) (h : i_MoveMoney_H) : Om i_MoveMoney_env i_MoveMoney_anns i_MoveMoney_sig 20000 k (i_MoveMoney_cfg h) = i_MoveMoney_go k h :=
  Om_go (sg := i_MoveMoney_sig) (cfg := i_MoveMoney_cfg) (body := i_MoveMoney_body) (go := i_MoveMoney_go) (fun _ => rfl) (fun _ _ => rfl) (fun rec h => by
  cases h with
  | l0 v0 v1 v2 v3 v4 v5 v6 v7 v8 => exact i_MoveMoney_l0 rec v0 v1 v2 v3 v4 v5 v6 v7 v8
  | l1 v0 v1 v2 v3 v4 v5 v6 v7 => exact i_MoveMoney_l1 rec v0 v1 v2 v3 v4 v5 v6 v7
  | l2 v0 v1 v2 v3 v4 v5 => exact i_MoveMoney_l2 rec v0 v1 v2 v3 v4 v5
  | l3 v0 v1 v2 v3 v4 v5 => exact i_MoveMoney_l3 rec v0 v1 v2 v3 v4 v5) k h
theorem i_MoveMoney_meets : Meets Try.prog 72 i_MoveMoney_sig := by
  refine meets (anns := i_MoveMoney_anns) (N := 20000) i_MoveMoney_env_ok Try.func72 (body := bodyOf Try.f72) (by rfl) ?_
  rintro ⟨x0, x1, x2, x3, ⟨⟩⟩ r hr
  refine ⟨10000000, ?_⟩
  show (ev i_MoveMoney_env i_MoveMoney_anns i_MoveMoney_sig (Om i_MoveMoney_env i_MoveMoney_anns i_MoveMoney_sig 20000 (10000000)) 20000 (entry i_MoveMoney_sig 72 Try.f72 (bodyOf Try.f72) (x0, x1, x2, x3, ()))).run = some r
  rw [i_MoveMoney_begin]
  have e : (fun h => Om i_MoveMoney_env i_MoveMoney_anns i_MoveMoney_sig 20000 (10000000) (i_MoveMoney_cfg h)) = i_MoveMoney_go (10000000) := funext fun h => i_MoveMoney_run _ h
  rw [e]
  exact hr
end Go.Proofs.Ytmggpiijahiaiaa.Ev
namespace Go.Proofs.Ytmggpiijahiaiaa.Ev
open Go
set_option linter.unusedVariables false
set_option linter.unusedSimpArgs false
set_option maxRecDepth 100000
def s_OpenAccount_tab : TTab := [⟨3, (.int .i64), 0⟩, ⟨4, .bool, 0⟩, ⟨40, (.int .u64), 0⟩, ⟨47, (.slice tAccount), 40⟩, ⟨49, tBook, 0⟩, ⟨71, tAccount, 0⟩]
abbrev s_OpenAccount_ps : List Par := [.lent tBook, .lent (.int .u64)]
abbrev s_OpenAccount_outs : Outs := .many [(.pair (.own tAccount) .unit), (.pure (.int .i64))]
abbrev s_OpenAccount_R : Type := ((((List (Int × (Int × (Int × (Int × (Int × Unit)))))) × Unit) × (Int × Unit)) × Unit)
abbrev s_OpenAccount_T : Ty := .pair (Outs.ty s_OpenAccount_outs) (mutsTy s_OpenAccount_ps)
noncomputable def s_OpenAccount_env : Env := { tab := s_OpenAccount_tab, fns := [(81, Try.f81)], sigs := [(48, s_l10Copy_sig), (80, s_BookOk_sig), (86, s_l10Find_sig)] }
def s_OpenAccount_anns : List Ann := [⟨81, 10, [1, 2, 4, 6, 7, 8], []⟩, ⟨81, 100045, [1, 2, 4, 6, 7, 8, 45], []⟩]
inductive s_OpenAccount_H where
  | l0 (v0 : Int) (v1 : Bool) (v2 : Int) (v3 : BookD)
  | l1 (v0 : Int) (v1 : Bool) (v2 : Int) (v3 : Bool) (v4 : BookD)
  | l2 (v0 : Int) (v1 : Bool) (v2 : Int) (v3 : BookD) (v4 : List AccountD)
  | l3 (v0 : Int) (v1 : Bool) (v2 : Int) (v3 : Bool) (v4 : BookD) (v5 : List AccountD)
noncomputable def s_OpenAccount_cfg : s_OpenAccount_H → Cfg
  | .l0 v0 v1 v2 v3 => { fr := { fn := 81, fb := 0, ss := sl 73 [(1, (.pv false (.int .u64) v0)), (2, (.bptr 0 [])), (4, (.bptr 1 [])), (6, (.bptr 2 [])), (7, (.pv false .bool v1)), (8, (.pv false (.int .i64) v2))], todo := todoAt (bodyOf Try.f81) [false, false, false, false, false, false, true, false, true] [] }, cs := [], ob := ofList [.box tBook (.pv true tBook v3), .box tBook (.pair .nilv .unit), .box tBook (.pair .nilv .unit)] }
  | .l1 v0 v1 v2 v3 v4 => { fr := { fn := 81, fb := 0, ss := sl 73 [(1, (.pv false (.int .u64) v0)), (2, (.bptr 0 [])), (4, (.bptr 1 [])), (6, (.bptr 2 [])), (7, (.pv false .bool v1)), (8, (.pv false (.int .i64) v2)), (45, (.pv false .bool v3))], todo := cutAt (bodyOf Try.f81) [false, false, false, false, false, false, true, false, true, true, false, true, true, true, false] [] }, cs := [], ob := ofList [.box tBook (.pv true tBook v4), .box tBook (.pair .nilv .unit), .box tBook (.pair .nilv .unit)] }
  | .l2 v0 v1 v2 v3 v4 => { fr := { fn := 81, fb := 0, ss := sl 73 [(1, (.pv false (.int .u64) v0)), (2, (.bptr 0 [])), (4, (.bptr 1 [])), (6, (.bptr 2 [])), (7, (.pv false .bool v1)), (8, (.pv false (.int .i64) v2))], todo := todoAt (bodyOf Try.f81) [false, false, false, false, false, false, true, false, true] [] }, cs := [], ob := ofList [.box tBook (.pv true tBook v3), .box tBook (.pair .nilv .unit), .box tBook (.pair (.row 3 0) .unit), .row 0 false tAccount v4] }
  | .l3 v0 v1 v2 v3 v4 v5 => { fr := { fn := 81, fb := 0, ss := sl 73 [(1, (.pv false (.int .u64) v0)), (2, (.bptr 0 [])), (4, (.bptr 1 [])), (6, (.bptr 2 [])), (7, (.pv false .bool v1)), (8, (.pv false (.int .i64) v2)), (45, (.pv false .bool v3))], todo := cutAt (bodyOf Try.f81) [false, false, false, false, false, false, true, false, true, true, false, true, true, true, false] [] }, cs := [], ob := ofList [.box tBook (.pv true tBook v4), .box tBook (.pair .nilv .unit), .box tBook (.pair (.row 3 0) .unit), .row 0 false tAccount v5] }
def s_OpenAccount_body (rec : s_OpenAccount_H → Option s_OpenAccount_R) : s_OpenAccount_H → Option s_OpenAccount_R
  | .l0 v0 v1 v2 v3 =>
    if (decide (v2 < (↑(List.length v3.fst) : Int))) = true then
      if (!v1) = true then
        if (decide (0 ≤ v2)) = true then
          if (decide (v2 < (↑(List.length v3.fst) : Int))) = true then
            (rec (.l1 (v0) (v1) (v2) (decide ((List.getD v3.fst v2.toNat (0, 0, 0, 0, 0, ())).fst > v0)) (v3))).bind some
          else
            none
        else
          none
      else
        (rec (.l1 (v0) (v1) (v2) (Bool.false) (v3))).bind some
    else
      if (!v1) = true then
        some ((((List.replicate 1 (0, 0, 0, 0, 0, ())).set 0 (v0, 0, 0, 0, 0, ()), ()), 0, ()), ())
      else
        some ((([], ()), 0, ()), ())
  | .l1 v0 v1 v2 v3 v4 =>
    if (v3) = true then
      if (decide (0 ≤ v2)) = true then
        if (decide (v2 < (↑(List.length v4.fst) : Int))) = true then
          (rec (.l2 (v0) (Bool.true) (IntKind.i64.wrap (v2 + 1)) (v4) ((List.replicate 1 (0, 0, 0, 0, 0, ())).set 0 (v0, 0, 0, 0, 0, ()) ++ (List.replicate 1 (0, 0, 0, 0, 0, ())).set 0 (List.getD v4.fst v2.toNat (0, 0, 0, 0, 0, ()))))).bind some
        else
          none
      else
        none
    else
      if (decide (0 ≤ v2)) = true then
        if (decide (v2 < (↑(List.length v4.fst) : Int))) = true then
          (rec (.l2 (v0) (v1) (IntKind.i64.wrap (v2 + 1)) (v4) ((List.replicate 1 (0, 0, 0, 0, 0, ())).set 0 (List.getD v4.fst v2.toNat (0, 0, 0, 0, 0, ()))))).bind some
        else
          none
      else
        none
  | .l2 v0 v1 v2 v3 v4 =>
    if (decide (v2 < (↑(List.length v3.fst) : Int))) = true then
      if (!v1) = true then
        if (decide (0 ≤ v2)) = true then
          if (decide (v2 < (↑(List.length v3.fst) : Int))) = true then
            (rec (.l3 (v0) (v1) (v2) (decide ((List.getD v3.fst v2.toNat (0, 0, 0, 0, 0, ())).fst > v0)) (v3) (v4))).bind some
          else
            none
        else
          none
      else
        (rec (.l3 (v0) (v1) (v2) (Bool.false) (v3) (v4))).bind some
    else
      if (!v1) = true then
        if (decide ((v4.length + ((List.replicate 1 (0, 0, 0, 0, 0, ())).set 0 (v0, 0, 0, 0, 0, ())).length) * 40 ≤ 140737488355328)) = true then
          if (decide (v4.length + ((List.replicate 1 (0, 0, 0, 0, 0, ())).set 0 (v0, 0, 0, 0, 0, ())).length ≤ 9223372036854775807)) = true then
            some (((v4 ++ (List.replicate 1 (0, 0, 0, 0, 0, ())).set 0 (v0, 0, 0, 0, 0, ()), ()), 0, ()), ())
          else
            none
        else
          none
      else
        some (((v4, ()), 0, ()), ())
  | .l3 v0 v1 v2 v3 v4 v5 =>
    if (v3) = true then
      if (decide ((v5.length + ((List.replicate 1 (0, 0, 0, 0, 0, ())).set 0 (v0, 0, 0, 0, 0, ())).length) * 40 ≤ 140737488355328)) = true then
        if (decide (v5.length + ((List.replicate 1 (0, 0, 0, 0, 0, ())).set 0 (v0, 0, 0, 0, 0, ())).length ≤ 9223372036854775807)) = true then
          if (decide (0 ≤ v2)) = true then
            if (decide (v2 < (↑(List.length v4.fst) : Int))) = true then
              if (decide (((v5 ++ (List.replicate 1 (0, 0, 0, 0, 0, ())).set 0 (v0, 0, 0, 0, 0, ())).length + ((List.replicate 1 (0, 0, 0, 0, 0, ())).set 0 (List.getD v4.fst v2.toNat (0, 0, 0, 0, 0, ()))).length) * 40 ≤ 140737488355328)) = true then
                if (decide ((v5 ++ (List.replicate 1 (0, 0, 0, 0, 0, ())).set 0 (v0, 0, 0, 0, 0, ())).length + ((List.replicate 1 (0, 0, 0, 0, 0, ())).set 0 (List.getD v4.fst v2.toNat (0, 0, 0, 0, 0, ()))).length ≤ 9223372036854775807)) = true then
                  (rec (.l2 (v0) (Bool.true) (IntKind.i64.wrap (v2 + 1)) (v4) (v5 ++ (List.replicate 1 (0, 0, 0, 0, 0, ())).set 0 (v0, 0, 0, 0, 0, ()) ++ (List.replicate 1 (0, 0, 0, 0, 0, ())).set 0 (List.getD v4.fst v2.toNat (0, 0, 0, 0, 0, ()))))).bind some
                else
                  none
              else
                none
            else
              none
          else
            none
        else
          none
      else
        none
    else
      if (decide (0 ≤ v2)) = true then
        if (decide (v2 < (↑(List.length v4.fst) : Int))) = true then
          if (decide ((v5.length + ((List.replicate 1 (0, 0, 0, 0, 0, ())).set 0 (List.getD v4.fst v2.toNat (0, 0, 0, 0, 0, ()))).length) * 40 ≤ 140737488355328)) = true then
            if (decide (v5.length + ((List.replicate 1 (0, 0, 0, 0, 0, ())).set 0 (List.getD v4.fst v2.toNat (0, 0, 0, 0, 0, ()))).length ≤ 9223372036854775807)) = true then
              (rec (.l2 (v0) (v1) (IntKind.i64.wrap (v2 + 1)) (v4) (v5 ++ (List.replicate 1 (0, 0, 0, 0, 0, ())).set 0 (List.getD v4.fst v2.toNat (0, 0, 0, 0, 0, ()))))).bind some
            else
              none
          else
            none
        else
          none
      else
        none
def s_OpenAccount_start (rec : s_OpenAccount_H → Option s_OpenAccount_R) (x0 : BookD) (x1 : Int) : Option s_OpenAccount_R :=
  (s_BookOk_fn x0).bind fun y0 =>
    if (!y0.fst) = true then
      (s_l10Copy_fn x0).bind fun y1 =>
        some (((y1.fst.fst, ()), 1, ()), ())
    else
      (s_l10Find_fn x0 x1).bind fun y2 =>
        if (decide (y2.fst ≥ 0)) = true then
          (s_l10Copy_fn x0).bind fun y3 =>
            some (((y3.fst.fst, ()), 3, ()), ())
        else
          if ((↑(List.length x0.fst) : Int) == 40) = true then
            (s_l10Copy_fn x0).bind fun y4 =>
              some (((y4.fst.fst, ()), 1, ()), ())
          else
            (rec (.l0 (x1) (Bool.false) (0) (x0))).bind some
def s_OpenAccount_go : Nat → s_OpenAccount_H → Option s_OpenAccount_R
  | 0, _ => none
  | k + 1, h => s_OpenAccount_body (s_OpenAccount_go k) h
def s_OpenAccount_k (k : Nat) (x0 : BookD) (x1 : Int) : Option s_OpenAccount_R := s_OpenAccount_start (s_OpenAccount_go k) x0 x1
def s_OpenAccount_fn (x0 : BookD) (x1 : Int) : Option s_OpenAccount_R := s_OpenAccount_k (10000000) x0 x1
noncomputable def s_OpenAccount_sig : Sig := { ps := s_OpenAccount_ps, outs := s_OpenAccount_outs, fn := fun x => s_OpenAccount_fn (x.1) (x.2.1) }
theorem s_OpenAccount_l0_t (rec : Cfg → Option s_OpenAccount_R) (v0 : Int) (v1 : Bool) (v2 : Int) (v3 : BookD) : Tr.k (ev s_OpenAccount_env s_OpenAccount_anns s_OpenAccount_sig rec 20000 (s_OpenAccount_cfg (.l0 v0 v1 v2 v3))) some = (br (decide (v2 < (↑(List.length v3.fst) : Int))) (br (!v1) (br (decide (0 ≤ v2)) (br (decide (v2 < (↑(List.length v3.fst) : Int))) ((rec (s_OpenAccount_cfg (.l1 (v0) (v1) (v2) (decide ((List.getD v3.fst v2.toNat (0, 0, 0, 0, 0, ())).fst > v0)) (v3)))).bind some) (none)) (none)) ((rec (s_OpenAccount_cfg (.l1 (v0) (v1) (v2) (Bool.false) (v3)))).bind some)) (br (!v1) (some ((((List.replicate 1 (0, 0, 0, 0, 0, ())).set 0 (v0, 0, 0, 0, 0, ()), ()), 0, ()), ())) (some ((([], ()), 0, ()), ()))) : Option s_OpenAccount_R) := by kernel_rfl
theorem s_OpenAccount_l0 (rec : Cfg → Option s_OpenAccount_sig.R.D) (v0 : Int) (v1 : Bool) (v2 : Int) (v3 : BookD) : (ev s_OpenAccount_env s_OpenAccount_anns s_OpenAccount_sig rec 20000 (s_OpenAccount_cfg (.l0 v0 v1 v2 v3))).run = s_OpenAccount_body (fun h => rec (s_OpenAccount_cfg h)) (.l0 v0 v1 v2 v3) := (Tr.k_some _).trans ((s_OpenAccount_l0_t rec v0 v1 v2 v3).trans (by first | rfl | (simp only [br_ite]; rfl)))
theorem s_OpenAccount_l1_t (rec : Cfg → Option s_OpenAccount_R) (v0 : Int) (v1 : Bool) (v2 : Int) (v3 : Bool) (v4 : BookD) : Tr.k (ev s_OpenAccount_env s_OpenAccount_anns s_OpenAccount_sig rec 20000 (s_OpenAccount_cfg (.l1 v0 v1 v2 v3 v4))) some = (br (v3) (br (decide (0 ≤ v2)) (br (decide (v2 < (↑(List.length v4.fst) : Int))) ((rec (s_OpenAccount_cfg (.l2 (v0) (Bool.true) (IntKind.i64.wrap (v2 + 1)) (v4) ((List.replicate 1 (0, 0, 0, 0, 0, ())).set 0 (v0, 0, 0, 0, 0, ()) ++ (List.replicate 1 (0, 0, 0, 0, 0, ())).set 0 (List.getD v4.fst v2.toNat (0, 0, 0, 0, 0, ())))))).bind some) (none)) (none)) (br (decide (0 ≤ v2)) (br (decide (v2 < (↑(List.length v4.fst) : Int))) ((rec (s_OpenAccount_cfg (.l2 (v0) (v1) (IntKind.i64.wrap (v2 + 1)) (v4) ((List.replicate 1 (0, 0, 0, 0, 0, ())).set 0 (List.getD v4.fst v2.toNat (0, 0, 0, 0, 0, ())))))).bind some) (none)) (none)) : Option s_OpenAccount_R) := by kernel_rfl
theorem s_OpenAccount_l1 (rec : Cfg → Option s_OpenAccount_sig.R.D) (v0 : Int) (v1 : Bool) (v2 : Int) (v3 : Bool) (v4 : BookD) : (ev s_OpenAccount_env s_OpenAccount_anns s_OpenAccount_sig rec 20000 (s_OpenAccount_cfg (.l1 v0 v1 v2 v3 v4))).run = s_OpenAccount_body (fun h => rec (s_OpenAccount_cfg h)) (.l1 v0 v1 v2 v3 v4) := (Tr.k_some _).trans ((s_OpenAccount_l1_t rec v0 v1 v2 v3 v4).trans (by first | rfl | (simp only [br_ite]; rfl)))
theorem s_OpenAccount_l2_t (rec : Cfg → Option s_OpenAccount_R) (v0 : Int) (v1 : Bool) (v2 : Int) (v3 : BookD) (v4 : List AccountD) : Tr.k (ev s_OpenAccount_env s_OpenAccount_anns s_OpenAccount_sig rec 20000 (s_OpenAccount_cfg (.l2 v0 v1 v2 v3 v4))) some = (br (decide (v2 < (↑(List.length v3.fst) : Int))) (br (!v1) (br (decide (0 ≤ v2)) (br (decide (v2 < (↑(List.length v3.fst) : Int))) ((rec (s_OpenAccount_cfg (.l3 (v0) (v1) (v2) (decide ((List.getD v3.fst v2.toNat (0, 0, 0, 0, 0, ())).fst > v0)) (v3) (v4)))).bind some) (none)) (none)) ((rec (s_OpenAccount_cfg (.l3 (v0) (v1) (v2) (Bool.false) (v3) (v4)))).bind some)) (br (!v1) (br (decide ((v4.length + ((List.replicate 1 (0, 0, 0, 0, 0, ())).set 0 (v0, 0, 0, 0, 0, ())).length) * 40 ≤ 140737488355328)) (br (decide (v4.length + ((List.replicate 1 (0, 0, 0, 0, 0, ())).set 0 (v0, 0, 0, 0, 0, ())).length ≤ 9223372036854775807)) (some (((v4 ++ (List.replicate 1 (0, 0, 0, 0, 0, ())).set 0 (v0, 0, 0, 0, 0, ()), ()), 0, ()), ())) (none)) (none)) (some (((v4, ()), 0, ()), ()))) : Option s_OpenAccount_R) := by kernel_rfl
theorem s_OpenAccount_l2 (rec : Cfg → Option s_OpenAccount_sig.R.D) (v0 : Int) (v1 : Bool) (v2 : Int) (v3 : BookD) (v4 : List AccountD) : (ev s_OpenAccount_env s_OpenAccount_anns s_OpenAccount_sig rec 20000 (s_OpenAccount_cfg (.l2 v0 v1 v2 v3 v4))).run = s_OpenAccount_body (fun h => rec (s_OpenAccount_cfg h)) (.l2 v0 v1 v2 v3 v4) := (Tr.k_some _).trans ((s_OpenAccount_l2_t rec v0 v1 v2 v3 v4).trans (by first | rfl | (simp only [br_ite]; rfl)))
theorem s_OpenAccount_l3_t (rec : Cfg → Option s_OpenAccount_R) (v0 : Int) (v1 : Bool) (v2 : Int) (v3 : Bool) (v4 : BookD) (v5 : List AccountD) : Tr.k (ev s_OpenAccount_env s_OpenAccount_anns s_OpenAccount_sig rec 20000 (s_OpenAccount_cfg (.l3 v0 v1 v2 v3 v4 v5))) some = (br (v3) (br (decide ((v5.length + ((List.replicate 1 (0, 0, 0, 0, 0, ())).set 0 (v0, 0, 0, 0, 0, ())).length) * 40 ≤ 140737488355328)) (br (decide (v5.length + ((List.replicate 1 (0, 0, 0, 0, 0, ())).set 0 (v0, 0, 0, 0, 0, ())).length ≤ 9223372036854775807)) (br (decide (0 ≤ v2)) (br (decide (v2 < (↑(List.length v4.fst) : Int))) (br (decide (((v5 ++ (List.replicate 1 (0, 0, 0, 0, 0, ())).set 0 (v0, 0, 0, 0, 0, ())).length + ((List.replicate 1 (0, 0, 0, 0, 0, ())).set 0 (List.getD v4.fst v2.toNat (0, 0, 0, 0, 0, ()))).length) * 40 ≤ 140737488355328)) (br (decide ((v5 ++ (List.replicate 1 (0, 0, 0, 0, 0, ())).set 0 (v0, 0, 0, 0, 0, ())).length + ((List.replicate 1 (0, 0, 0, 0, 0, ())).set 0 (List.getD v4.fst v2.toNat (0, 0, 0, 0, 0, ()))).length ≤ 9223372036854775807)) ((rec (s_OpenAccount_cfg (.l2 (v0) (Bool.true) (IntKind.i64.wrap (v2 + 1)) (v4) (v5 ++ (List.replicate 1 (0, 0, 0, 0, 0, ())).set 0 (v0, 0, 0, 0, 0, ()) ++ (List.replicate 1 (0, 0, 0, 0, 0, ())).set 0 (List.getD v4.fst v2.toNat (0, 0, 0, 0, 0, ())))))).bind some) (none)) (none)) (none)) (none)) (none)) (none)) (br (decide (0 ≤ v2)) (br (decide (v2 < (↑(List.length v4.fst) : Int))) (br (decide ((v5.length + ((List.replicate 1 (0, 0, 0, 0, 0, ())).set 0 (List.getD v4.fst v2.toNat (0, 0, 0, 0, 0, ()))).length) * 40 ≤ 140737488355328)) (br (decide (v5.length + ((List.replicate 1 (0, 0, 0, 0, 0, ())).set 0 (List.getD v4.fst v2.toNat (0, 0, 0, 0, 0, ()))).length ≤ 9223372036854775807)) ((rec (s_OpenAccount_cfg (.l2 (v0) (v1) (IntKind.i64.wrap (v2 + 1)) (v4) (v5 ++ (List.replicate 1 (0, 0, 0, 0, 0, ())).set 0 (List.getD v4.fst v2.toNat (0, 0, 0, 0, 0, ())))))).bind some) (none)) (none)) (none)) (none)) : Option s_OpenAccount_R) := by kernel_rfl
theorem s_OpenAccount_l3 (rec : Cfg → Option s_OpenAccount_sig.R.D) (v0 : Int) (v1 : Bool) (v2 : Int) (v3 : Bool) (v4 : BookD) (v5 : List AccountD) : (ev s_OpenAccount_env s_OpenAccount_anns s_OpenAccount_sig rec 20000 (s_OpenAccount_cfg (.l3 v0 v1 v2 v3 v4 v5))).run = s_OpenAccount_body (fun h => rec (s_OpenAccount_cfg h)) (.l3 v0 v1 v2 v3 v4 v5) := (Tr.k_some _).trans ((s_OpenAccount_l3_t rec v0 v1 v2 v3 v4 v5).trans (by first | rfl | (simp only [br_ite]; rfl)))
theorem s_OpenAccount_begin_t (rec : Cfg → Option s_OpenAccount_R) (x0 : BookD) (x1 : Int) : Tr.k (ev s_OpenAccount_env s_OpenAccount_anns s_OpenAccount_sig rec 20000 (entry s_OpenAccount_sig 81 Try.f81 (bodyOf Try.f81) (x0, x1, ()))) some = ((s_BookOk_fn x0).bind fun y0 => br (!y0.fst) ((s_l10Copy_fn x0).bind fun y1 => some (((y1.fst.fst, ()), 1, ()), ())) ((s_l10Find_fn x0 x1).bind fun y2 => br (decide (y2.fst ≥ 0)) ((s_l10Copy_fn x0).bind fun y3 => some (((y3.fst.fst, ()), 3, ()), ())) (br ((↑(List.length x0.fst) : Int) == 40) ((s_l10Copy_fn x0).bind fun y4 => some (((y4.fst.fst, ()), 1, ()), ())) ((rec (s_OpenAccount_cfg (.l0 (x1) (Bool.false) (0) (x0)))).bind some))) : Option s_OpenAccount_R) := by kernel_rfl
theorem s_OpenAccount_begin (rec : Cfg → Option s_OpenAccount_sig.R.D) (x0 : BookD) (x1 : Int) : (ev s_OpenAccount_env s_OpenAccount_anns s_OpenAccount_sig rec 20000 (entry s_OpenAccount_sig 81 Try.f81 (bodyOf Try.f81) (x0, x1, ()))).run = s_OpenAccount_start (fun h => rec (s_OpenAccount_cfg h)) x0 x1 := (Tr.k_some _).trans ((s_OpenAccount_begin_t rec x0 x1).trans (by first | rfl | (simp only [br_ite]; rfl)))
theorem s_OpenAccount_tab_ok : s_OpenAccount_tab.ok Try.prog = true := by decide +kernel
theorem s_OpenAccount_env_ok : (s_OpenAccount_env).Ok Try.prog where
  mixed := by decide +kernel
  tab := s_OpenAccount_tab_ok
  fns := by
    intro p hp
    simp only [s_OpenAccount_env, List.mem_cons, List.not_mem_nil, or_false] at hp
    subst hp
    · exact ⟨Try.func81, by decide +kernel⟩
  sigs := by
    intro p hp
    simp only [s_OpenAccount_env, List.mem_cons, List.not_mem_nil, or_false] at hp
    rcases hp with rfl | rfl | rfl
    · exact ⟨s_l10Copy_meets, _, Try.func48, by decide +kernel⟩
    · exact ⟨s_BookOk_meets, _, Try.func80, by decide +kernel⟩
    · exact ⟨s_l10Find_meets, _, Try.func86, by decide +kernel⟩
  exts := by
    intro p hp
    simp only [s_OpenAccount_env, List.mem_cons, List.not_mem_nil, or_false] at hp
theorem s_OpenAccount_run (k : Nat) (h : s_OpenAccount_H) : Om s_OpenAccount_env s_OpenAccount_anns s_OpenAccount_sig 20000 k (s_OpenAccount_cfg h) = s_OpenAccount_go k h :=
  Om_go (sg := s_OpenAccount_sig) (cfg := s_OpenAccount_cfg) (body := s_OpenAccount_body) (go := s_OpenAccount_go) (fun _ => rfl) (fun _ _ => rfl) (fun rec h => by
  cases h with
  | l0 v0 v1 v2 v3 => exact s_OpenAccount_l0 rec v0 v1 v2 v3
  | l1 v0 v1 v2 v3 v4 => exact s_OpenAccount_l1 rec v0 v1 v2 v3 v4
  | l2 v0 v1 v2 v3 v4 => exact s_OpenAccount_l2 rec v0 v1 v2 v3 v4
  | l3 v0 v1 v2 v3 v4 v5 => exact s_OpenAccount_l3 rec v0 v1 v2 v3 v4 v5) k h
theorem s_OpenAccount_meets : Meets Try.prog 81 s_OpenAccount_sig := by
  refine meets (anns := s_OpenAccount_anns) (N := 20000) s_OpenAccount_env_ok Try.func81 (body := bodyOf Try.f81) (by rfl) ?_
  rintro ⟨x0, x1, ⟨⟩⟩ r hr
  refine ⟨10000000, ?_⟩
  show (ev s_OpenAccount_env s_OpenAccount_anns s_OpenAccount_sig (Om s_OpenAccount_env s_OpenAccount_anns s_OpenAccount_sig 20000 (10000000)) 20000 (entry s_OpenAccount_sig 81 Try.f81 (bodyOf Try.f81) (x0, x1, ()))).run = some r
  rw [s_OpenAccount_begin]
  have e : (fun h => Om s_OpenAccount_env s_OpenAccount_anns s_OpenAccount_sig 20000 (10000000) (s_OpenAccount_cfg h)) = s_OpenAccount_go (10000000) := funext fun h => s_OpenAccount_run _ h
  rw [e]
  exact hr
end Go.Proofs.Ytmggpiijahiaiaa.Ev
namespace Go.Proofs.Ytmggpiijahiaiaa.Ev
open Go
set_option linter.unusedVariables false
set_option linter.unusedSimpArgs false
set_option maxRecDepth 100000
def s_l10Of_tab : TTab := [⟨3, (.int .i64), 0⟩, ⟨4, .bool, 0⟩, ⟨40, (.int .u64), 0⟩, ⟨47, (.slice tAccount), 40⟩, ⟨49, tBook, 0⟩, ⟨71, tAccount, 0⟩]
abbrev s_l10Of_ps : List Par := [.lent tBook, .lent (.int .u64), .lent (.int .i64)]
abbrev s_l10Of_outs : Outs := .many [(.pure tAccount), (.pure (.int .i64))]
abbrev s_l10Of_R : Type := (((Int × (Int × (Int × (Int × (Int × Unit))))) × (Int × Unit)) × Unit)
abbrev s_l10Of_T : Ty := .pair (Outs.ty s_l10Of_outs) (mutsTy s_l10Of_ps)
noncomputable def s_l10Of_env : Env := { tab := s_l10Of_tab, fns := [(92, Try.f92)], sigs := [(80, s_BookOk_sig), (86, s_l10Find_sig)] }
def s_l10Of_anns : List Ann := [⟨92, 200003, [1, 3, 6], []⟩]
inductive s_l10Of_H where
  | l0 (v0 : Int) (v1 : BookD) (v2 : Int) (v3 : Int) (v4 : Int) (v5 : Int) (v6 : Int)
noncomputable def s_l10Of_cfg : s_l10Of_H → Cfg
  | .l0 v0 v1 v2 v3 v4 v5 v6 => { fr := { fn := 92, fb := 0, ss := sl 28 [(1, (.pv false (.int .u64) v0)), (3, (.bptr 0 [])), (6, (.bptr 1 []))], todo := cutAt (bodyOf Try.f92) [false, false, true] [] }, cs := [], ob := ofList [.box tBook (.pv true tBook v1), .box tAccount (.pair (.pv false (.int .u64) v2) (.pair (.pv false (.int .u64) v3) (.pair (.pv false (.int .u64) v4) (.pair (.pv false (.int .u64) v5) (.pair (.pv false (.int .i64) v6) .unit)))))] }
def s_l10Of_body (rec : s_l10Of_H → Option s_l10Of_R) : s_l10Of_H → Option s_l10Of_R
  | .l0 v0 v1 v2 v3 v4 v5 v6 =>
    (s_l10Find_fn v1 v0).bind fun y1 =>
      if (decide (y1.fst < 0)) = true then
        some (((0, 0, 0, 0, 0, ()), 2, ()), ())
      else
        if (decide (0 ≤ y1.fst)) = true then
          if (decide (y1.fst < (↑(List.length v1.fst) : Int))) = true then
            some ((List.getD v1.fst (Int.toNat y1.fst) (0, 0, 0, 0, 0, ()), 0, ()), ())
          else
            none
        else
          none
def s_l10Of_start (rec : s_l10Of_H → Option s_l10Of_R) (x0 : BookD) (x1 : Int) (x2 : Int) : Option s_l10Of_R :=
  (s_BookOk_fn x0).bind fun y0 =>
    if (!y0.fst) = true then
      some (((0, 0, 0, 0, 0, ()), 1, ()), ())
    else
      if (decide (x2 < 1)) = true then
        some (((0, 0, 0, 0, 0, ()), 1, ()), ())
      else
        (rec (.l0 (x1) (x0) (0) (0) (0) (0) (0))).bind some
def s_l10Of_go : Nat → s_l10Of_H → Option s_l10Of_R
  | 0, _ => none
  | k + 1, h => s_l10Of_body (s_l10Of_go k) h
def s_l10Of_k (k : Nat) (x0 : BookD) (x1 : Int) (x2 : Int) : Option s_l10Of_R := s_l10Of_start (s_l10Of_go k) x0 x1 x2
def s_l10Of_fn (x0 : BookD) (x1 : Int) (x2 : Int) : Option s_l10Of_R := s_l10Of_k (10000000) x0 x1 x2
noncomputable def s_l10Of_sig : Sig := { ps := s_l10Of_ps, outs := s_l10Of_outs, fn := fun x => s_l10Of_fn (x.1) (x.2.1) (x.2.2.1) }
theorem s_l10Of_l0_t (rec : Cfg → Option s_l10Of_R) (v0 : Int) (v1 : BookD) (v2 : Int) (v3 : Int) (v4 : Int) (v5 : Int) (v6 : Int) : Tr.k (ev s_l10Of_env s_l10Of_anns s_l10Of_sig rec 20000 (s_l10Of_cfg (.l0 v0 v1 v2 v3 v4 v5 v6))) some = ((s_l10Find_fn v1 v0).bind fun y1 => br (decide (y1.fst < 0)) (some (((0, 0, 0, 0, 0, ()), 2, ()), ())) (br (decide (0 ≤ y1.fst)) (br (decide (y1.fst < (↑(List.length v1.fst) : Int))) (some ((List.getD v1.fst (Int.toNat y1.fst) (0, 0, 0, 0, 0, ()), 0, ()), ())) (none)) (none)) : Option s_l10Of_R) := by kernel_rfl
theorem s_l10Of_l0 (rec : Cfg → Option s_l10Of_sig.R.D) (v0 : Int) (v1 : BookD) (v2 : Int) (v3 : Int) (v4 : Int) (v5 : Int) (v6 : Int) : (ev s_l10Of_env s_l10Of_anns s_l10Of_sig rec 20000 (s_l10Of_cfg (.l0 v0 v1 v2 v3 v4 v5 v6))).run = s_l10Of_body (fun h => rec (s_l10Of_cfg h)) (.l0 v0 v1 v2 v3 v4 v5 v6) := (Tr.k_some _).trans ((s_l10Of_l0_t rec v0 v1 v2 v3 v4 v5 v6).trans (by first | rfl | (simp only [br_ite]; rfl)))
theorem s_l10Of_begin_t (rec : Cfg → Option s_l10Of_R) (x0 : BookD) (x1 : Int) (x2 : Int) : Tr.k (ev s_l10Of_env s_l10Of_anns s_l10Of_sig rec 20000 (entry s_l10Of_sig 92 Try.f92 (bodyOf Try.f92) (x0, x1, x2, ()))) some = ((s_BookOk_fn x0).bind fun y0 => br (!y0.fst) (some (((0, 0, 0, 0, 0, ()), 1, ()), ())) (br (decide (x2 < 1)) (some (((0, 0, 0, 0, 0, ()), 1, ()), ())) ((rec (s_l10Of_cfg (.l0 (x1) (x0) (0) (0) (0) (0) (0)))).bind some)) : Option s_l10Of_R) := by kernel_rfl
theorem s_l10Of_begin (rec : Cfg → Option s_l10Of_sig.R.D) (x0 : BookD) (x1 : Int) (x2 : Int) : (ev s_l10Of_env s_l10Of_anns s_l10Of_sig rec 20000 (entry s_l10Of_sig 92 Try.f92 (bodyOf Try.f92) (x0, x1, x2, ()))).run = s_l10Of_start (fun h => rec (s_l10Of_cfg h)) x0 x1 x2 := (Tr.k_some _).trans ((s_l10Of_begin_t rec x0 x1 x2).trans (by first | rfl | (simp only [br_ite]; rfl)))
theorem s_l10Of_tab_ok : s_l10Of_tab.ok Try.prog = true := by decide +kernel
theorem s_l10Of_env_ok : (s_l10Of_env).Ok Try.prog where
  mixed := by decide +kernel
  tab := s_l10Of_tab_ok
  fns := by
    intro p hp
    simp only [s_l10Of_env, List.mem_cons, List.not_mem_nil, or_false] at hp
    subst hp
    · exact ⟨Try.func92, by decide +kernel⟩
  sigs := by
    intro p hp
    simp only [s_l10Of_env, List.mem_cons, List.not_mem_nil, or_false] at hp
    rcases hp with rfl | rfl
    · exact ⟨s_BookOk_meets, _, Try.func80, by decide +kernel⟩
    · exact ⟨s_l10Find_meets, _, Try.func86, by decide +kernel⟩
  exts := by
    intro p hp
    simp only [s_l10Of_env, List.mem_cons, List.not_mem_nil, or_false] at hp
theorem s_l10Of_run (k : Nat) (h : s_l10Of_H) : Om s_l10Of_env s_l10Of_anns s_l10Of_sig 20000 k (s_l10Of_cfg h) = s_l10Of_go k h :=
  Om_go (sg := s_l10Of_sig) (cfg := s_l10Of_cfg) (body := s_l10Of_body) (go := s_l10Of_go) (fun _ => rfl) (fun _ _ => rfl) (fun rec h => by
  cases h with
  | l0 v0 v1 v2 v3 v4 v5 v6 => exact s_l10Of_l0 rec v0 v1 v2 v3 v4 v5 v6) k h
theorem s_l10Of_meets : Meets Try.prog 92 s_l10Of_sig := by
  refine meets (anns := s_l10Of_anns) (N := 20000) s_l10Of_env_ok Try.func92 (body := bodyOf Try.f92) (by rfl) ?_
  rintro ⟨x0, x1, x2, ⟨⟩⟩ r hr
  refine ⟨10000000, ?_⟩
  show (ev s_l10Of_env s_l10Of_anns s_l10Of_sig (Om s_l10Of_env s_l10Of_anns s_l10Of_sig 20000 (10000000)) 20000 (entry s_l10Of_sig 92 Try.f92 (bodyOf Try.f92) (x0, x1, x2, ()))).run = some r
  rw [s_l10Of_begin]
  have e : (fun h => Om s_l10Of_env s_l10Of_anns s_l10Of_sig 20000 (10000000) (s_l10Of_cfg h)) = s_l10Of_go (10000000) := funext fun h => s_l10Of_run _ h
  rw [e]
  exact hr
end Go.Proofs.Ytmggpiijahiaiaa.Ev
namespace Go.Proofs.Ytmggpiijahiaiaa.Ev
open Go
set_option linter.unusedVariables false
set_option linter.unusedSimpArgs false
set_option maxRecDepth 100000
def s_CloseAccount_tab : TTab := [⟨3, (.int .i64), 0⟩, ⟨4, .bool, 0⟩, ⟨40, (.int .u64), 0⟩, ⟨47, (.slice tAccount), 40⟩, ⟨49, tBook, 0⟩, ⟨71, tAccount, 0⟩]
abbrev s_CloseAccount_ps : List Par := [.lent tBook, .lent (.int .u64)]
abbrev s_CloseAccount_outs : Outs := .many [(.pair (.own tAccount) .unit), (.pure (.int .i64))]
abbrev s_CloseAccount_R : Type := ((((List (Int × (Int × (Int × (Int × (Int × Unit)))))) × Unit) × (Int × Unit)) × Unit)
abbrev s_CloseAccount_T : Ty := .pair (Outs.ty s_CloseAccount_outs) (mutsTy s_CloseAccount_ps)
noncomputable def s_CloseAccount_env : Env := { tab := s_CloseAccount_tab, fns := [(82, Try.f82)], sigs := [(48, s_l10Copy_sig), (92, s_l10Of_sig)] }
def s_CloseAccount_anns : List Ann := [⟨82, 10, [1, 2, 4, 8, 9], []⟩]
inductive s_CloseAccount_H where
  | l0 (v0 : Int) (v1 : Int) (v2 : BookD)
  | l1 (v0 : Int) (v1 : Int) (v2 : BookD) (v3 : List AccountD)
noncomputable def s_CloseAccount_cfg : s_CloseAccount_H → Cfg
  | .l0 v0 v1 v2 => { fr := { fn := 82, fb := 0, ss := sl 61 [(1, (.pv false (.int .u64) v0)), (2, (.bptr 0 [])), (4, (.bptr 1 [])), (8, (.bptr 2 [])), (9, (.pv false (.int .i64) v1))], todo := todoAt (bodyOf Try.f82) [false, false, false, false, true, false, true] [] }, cs := [], ob := ofList [.box tBook (.pv true tBook v2), .box tBook (.pair .nilv .unit), .box tBook (.pair .nilv .unit)] }
  | .l1 v0 v1 v2 v3 => { fr := { fn := 82, fb := 0, ss := sl 61 [(1, (.pv false (.int .u64) v0)), (2, (.bptr 0 [])), (4, (.bptr 1 [])), (8, (.bptr 2 [])), (9, (.pv false (.int .i64) v1))], todo := todoAt (bodyOf Try.f82) [false, false, false, false, true, false, true] [] }, cs := [], ob := ofList [.box tBook (.pv true tBook v2), .box tBook (.pair .nilv .unit), .box tBook (.pair (.row 3 0) .unit), .row 0 false tAccount v3] }
def s_CloseAccount_body (rec : s_CloseAccount_H → Option s_CloseAccount_R) : s_CloseAccount_H → Option s_CloseAccount_R
  | .l0 v0 v1 v2 =>
    if (decide (v1 < (↑(List.length v2.fst) : Int))) = true then
      if (decide (0 ≤ v1)) = true then
        if (decide (v1 < (↑(List.length v2.fst) : Int))) = true then
          if ((List.getD v2.fst v1.toNat (0, 0, 0, 0, 0, ())).fst != v0) = true then
            if (decide (0 ≤ v1)) = true then
              if (decide (v1 < (↑(List.length v2.fst) : Int))) = true then
                (rec (.l1 (v0) (IntKind.i64.wrap (v1 + 1)) (v2) ((List.replicate 1 (0, 0, 0, 0, 0, ())).set 0 (List.getD v2.fst v1.toNat (0, 0, 0, 0, 0, ()))))).bind some
              else
                none
            else
              none
          else
            (rec (.l0 (v0) (IntKind.i64.wrap (v1 + 1)) (v2))).bind some
        else
          none
      else
        none
    else
      some ((([], ()), 0, ()), ())
  | .l1 v0 v1 v2 v3 =>
    if (decide (v1 < (↑(List.length v2.fst) : Int))) = true then
      if (decide (0 ≤ v1)) = true then
        if (decide (v1 < (↑(List.length v2.fst) : Int))) = true then
          if ((List.getD v2.fst v1.toNat (0, 0, 0, 0, 0, ())).fst != v0) = true then
            if (decide (0 ≤ v1)) = true then
              if (decide (v1 < (↑(List.length v2.fst) : Int))) = true then
                if (decide ((v3.length + ((List.replicate 1 (0, 0, 0, 0, 0, ())).set 0 (List.getD v2.fst v1.toNat (0, 0, 0, 0, 0, ()))).length) * 40 ≤ 140737488355328)) = true then
                  if (decide (v3.length + ((List.replicate 1 (0, 0, 0, 0, 0, ())).set 0 (List.getD v2.fst v1.toNat (0, 0, 0, 0, 0, ()))).length ≤ 9223372036854775807)) = true then
                    (rec (.l1 (v0) (IntKind.i64.wrap (v1 + 1)) (v2) (v3 ++ (List.replicate 1 (0, 0, 0, 0, 0, ())).set 0 (List.getD v2.fst v1.toNat (0, 0, 0, 0, 0, ()))))).bind some
                  else
                    none
                else
                  none
              else
                none
            else
              none
          else
            (rec (.l1 (v0) (IntKind.i64.wrap (v1 + 1)) (v2) (v3))).bind some
        else
          none
      else
        none
    else
      some (((v3, ()), 0, ()), ())
def s_CloseAccount_start (rec : s_CloseAccount_H → Option s_CloseAccount_R) (x0 : BookD) (x1 : Int) : Option s_CloseAccount_R :=
  (s_l10Of_fn x0 x1 1).bind fun y0 =>
    if (y0.fst.snd.fst != 0) = true then
      (s_l10Copy_fn x0).bind fun y1 =>
        some (((y1.fst.fst, ()), y0.fst.snd.fst, ()), ())
    else
      if (y0.fst.fst.snd.snd.snd.snd.fst != 0) = true then
        (s_l10Copy_fn x0).bind fun y2 =>
          some (((y2.fst.fst, ()), 6, ()), ())
      else
        if (y0.fst.fst.snd.fst != 0) = true then
          (s_l10Copy_fn x0).bind fun y3 =>
            some (((y3.fst.fst, ()), 4, ()), ())
        else
          (rec (.l0 (x1) (0) (x0))).bind some
def s_CloseAccount_go : Nat → s_CloseAccount_H → Option s_CloseAccount_R
  | 0, _ => none
  | k + 1, h => s_CloseAccount_body (s_CloseAccount_go k) h
def s_CloseAccount_k (k : Nat) (x0 : BookD) (x1 : Int) : Option s_CloseAccount_R := s_CloseAccount_start (s_CloseAccount_go k) x0 x1
def s_CloseAccount_fn (x0 : BookD) (x1 : Int) : Option s_CloseAccount_R := s_CloseAccount_k (10000000) x0 x1
noncomputable def s_CloseAccount_sig : Sig := { ps := s_CloseAccount_ps, outs := s_CloseAccount_outs, fn := fun x => s_CloseAccount_fn (x.1) (x.2.1) }
theorem s_CloseAccount_l0_t (rec : Cfg → Option s_CloseAccount_R) (v0 : Int) (v1 : Int) (v2 : BookD) : Tr.k (ev s_CloseAccount_env s_CloseAccount_anns s_CloseAccount_sig rec 20000 (s_CloseAccount_cfg (.l0 v0 v1 v2))) some = (br (decide (v1 < (↑(List.length v2.fst) : Int))) (br (decide (0 ≤ v1)) (br (decide (v1 < (↑(List.length v2.fst) : Int))) (br ((List.getD v2.fst v1.toNat (0, 0, 0, 0, 0, ())).fst != v0) (br (decide (0 ≤ v1)) (br (decide (v1 < (↑(List.length v2.fst) : Int))) ((rec (s_CloseAccount_cfg (.l1 (v0) (IntKind.i64.wrap (v1 + 1)) (v2) ((List.replicate 1 (0, 0, 0, 0, 0, ())).set 0 (List.getD v2.fst v1.toNat (0, 0, 0, 0, 0, ())))))).bind some) (none)) (none)) ((rec (s_CloseAccount_cfg (.l0 (v0) (IntKind.i64.wrap (v1 + 1)) (v2)))).bind some)) (none)) (none)) (some ((([], ()), 0, ()), ())) : Option s_CloseAccount_R) := by kernel_rfl
theorem s_CloseAccount_l0 (rec : Cfg → Option s_CloseAccount_sig.R.D) (v0 : Int) (v1 : Int) (v2 : BookD) : (ev s_CloseAccount_env s_CloseAccount_anns s_CloseAccount_sig rec 20000 (s_CloseAccount_cfg (.l0 v0 v1 v2))).run = s_CloseAccount_body (fun h => rec (s_CloseAccount_cfg h)) (.l0 v0 v1 v2) := (Tr.k_some _).trans ((s_CloseAccount_l0_t rec v0 v1 v2).trans (by first | rfl | (simp only [br_ite]; rfl)))
theorem s_CloseAccount_l1_t (rec : Cfg → Option s_CloseAccount_R) (v0 : Int) (v1 : Int) (v2 : BookD) (v3 : List AccountD) : Tr.k (ev s_CloseAccount_env s_CloseAccount_anns s_CloseAccount_sig rec 20000 (s_CloseAccount_cfg (.l1 v0 v1 v2 v3))) some = (br (decide (v1 < (↑(List.length v2.fst) : Int))) (br (decide (0 ≤ v1)) (br (decide (v1 < (↑(List.length v2.fst) : Int))) (br ((List.getD v2.fst v1.toNat (0, 0, 0, 0, 0, ())).fst != v0) (br (decide (0 ≤ v1)) (br (decide (v1 < (↑(List.length v2.fst) : Int))) (br (decide ((v3.length + ((List.replicate 1 (0, 0, 0, 0, 0, ())).set 0 (List.getD v2.fst v1.toNat (0, 0, 0, 0, 0, ()))).length) * 40 ≤ 140737488355328)) (br (decide (v3.length + ((List.replicate 1 (0, 0, 0, 0, 0, ())).set 0 (List.getD v2.fst v1.toNat (0, 0, 0, 0, 0, ()))).length ≤ 9223372036854775807)) ((rec (s_CloseAccount_cfg (.l1 (v0) (IntKind.i64.wrap (v1 + 1)) (v2) (v3 ++ (List.replicate 1 (0, 0, 0, 0, 0, ())).set 0 (List.getD v2.fst v1.toNat (0, 0, 0, 0, 0, ())))))).bind some) (none)) (none)) (none)) (none)) ((rec (s_CloseAccount_cfg (.l1 (v0) (IntKind.i64.wrap (v1 + 1)) (v2) (v3)))).bind some)) (none)) (none)) (some (((v3, ()), 0, ()), ())) : Option s_CloseAccount_R) := by kernel_rfl
theorem s_CloseAccount_l1 (rec : Cfg → Option s_CloseAccount_sig.R.D) (v0 : Int) (v1 : Int) (v2 : BookD) (v3 : List AccountD) : (ev s_CloseAccount_env s_CloseAccount_anns s_CloseAccount_sig rec 20000 (s_CloseAccount_cfg (.l1 v0 v1 v2 v3))).run = s_CloseAccount_body (fun h => rec (s_CloseAccount_cfg h)) (.l1 v0 v1 v2 v3) := (Tr.k_some _).trans ((s_CloseAccount_l1_t rec v0 v1 v2 v3).trans (by first | rfl | (simp only [br_ite]; rfl)))
theorem s_CloseAccount_begin_t (rec : Cfg → Option s_CloseAccount_R) (x0 : BookD) (x1 : Int) : Tr.k (ev s_CloseAccount_env s_CloseAccount_anns s_CloseAccount_sig rec 20000 (entry s_CloseAccount_sig 82 Try.f82 (bodyOf Try.f82) (x0, x1, ()))) some = ((s_l10Of_fn x0 x1 1).bind fun y0 => br (y0.fst.snd.fst != 0) ((s_l10Copy_fn x0).bind fun y1 => some (((y1.fst.fst, ()), y0.fst.snd.fst, ()), ())) (br (y0.fst.fst.snd.snd.snd.snd.fst != 0) ((s_l10Copy_fn x0).bind fun y2 => some (((y2.fst.fst, ()), 6, ()), ())) (br (y0.fst.fst.snd.fst != 0) ((s_l10Copy_fn x0).bind fun y3 => some (((y3.fst.fst, ()), 4, ()), ())) ((rec (s_CloseAccount_cfg (.l0 (x1) (0) (x0)))).bind some))) : Option s_CloseAccount_R) := by kernel_rfl
theorem s_CloseAccount_begin (rec : Cfg → Option s_CloseAccount_sig.R.D) (x0 : BookD) (x1 : Int) : (ev s_CloseAccount_env s_CloseAccount_anns s_CloseAccount_sig rec 20000 (entry s_CloseAccount_sig 82 Try.f82 (bodyOf Try.f82) (x0, x1, ()))).run = s_CloseAccount_start (fun h => rec (s_CloseAccount_cfg h)) x0 x1 := (Tr.k_some _).trans ((s_CloseAccount_begin_t rec x0 x1).trans (by first | rfl | (simp only [br_ite]; rfl)))
theorem s_CloseAccount_tab_ok : s_CloseAccount_tab.ok Try.prog = true := by decide +kernel
theorem s_CloseAccount_env_ok : (s_CloseAccount_env).Ok Try.prog where
  mixed := by decide +kernel
  tab := s_CloseAccount_tab_ok
  fns := by
    intro p hp
    simp only [s_CloseAccount_env, List.mem_cons, List.not_mem_nil, or_false] at hp
    subst hp
    · exact ⟨Try.func82, by decide +kernel⟩
  sigs := by
    intro p hp
    simp only [s_CloseAccount_env, List.mem_cons, List.not_mem_nil, or_false] at hp
    rcases hp with rfl | rfl
    · exact ⟨s_l10Copy_meets, _, Try.func48, by decide +kernel⟩
    · exact ⟨s_l10Of_meets, _, Try.func92, by decide +kernel⟩
  exts := by
    intro p hp
    simp only [s_CloseAccount_env, List.mem_cons, List.not_mem_nil, or_false] at hp
theorem s_CloseAccount_run (k : Nat) (h : s_CloseAccount_H) : Om s_CloseAccount_env s_CloseAccount_anns s_CloseAccount_sig 20000 k (s_CloseAccount_cfg h) = s_CloseAccount_go k h :=
  Om_go (sg := s_CloseAccount_sig) (cfg := s_CloseAccount_cfg) (body := s_CloseAccount_body) (go := s_CloseAccount_go) (fun _ => rfl) (fun _ _ => rfl) (fun rec h => by
  cases h with
  | l0 v0 v1 v2 => exact s_CloseAccount_l0 rec v0 v1 v2
  | l1 v0 v1 v2 v3 => exact s_CloseAccount_l1 rec v0 v1 v2 v3) k h
theorem s_CloseAccount_meets : Meets Try.prog 82 s_CloseAccount_sig := by
  refine meets (anns := s_CloseAccount_anns) (N := 20000) s_CloseAccount_env_ok Try.func82 (body := bodyOf Try.f82) (by rfl) ?_
  rintro ⟨x0, x1, ⟨⟩⟩ r hr
  refine ⟨10000000, ?_⟩
  show (ev s_CloseAccount_env s_CloseAccount_anns s_CloseAccount_sig (Om s_CloseAccount_env s_CloseAccount_anns s_CloseAccount_sig 20000 (10000000)) 20000 (entry s_CloseAccount_sig 82 Try.f82 (bodyOf Try.f82) (x0, x1, ()))).run = some r
  rw [s_CloseAccount_begin]
  have e : (fun h => Om s_CloseAccount_env s_CloseAccount_anns s_CloseAccount_sig 20000 (10000000) (s_CloseAccount_cfg h)) = s_CloseAccount_go (10000000) := funext fun h => s_CloseAccount_run _ h
  rw [e]
  exact hr
end Go.Proofs.Ytmggpiijahiaiaa.Ev
namespace Go.Proofs.Ytmggpiijahiaiaa.Ev
open Go
set_option linter.unusedVariables false
set_option linter.unusedSimpArgs false
set_option maxRecDepth 100000
def s_Deposit_tab : TTab := [⟨3, (.int .i64), 0⟩, ⟨4, .bool, 0⟩, ⟨40, (.int .u64), 0⟩, ⟨49, tBook, 0⟩, ⟨71, tAccount, 0⟩]
abbrev s_Deposit_ps : List Par := [.lent tBook, .lent (.int .u64), .lent (.int .u64)]
abbrev s_Deposit_outs : Outs := .many [(.pair (.own tAccount) .unit), (.pure (.int .i64))]
abbrev s_Deposit_R : Type := ((((List (Int × (Int × (Int × (Int × (Int × Unit)))))) × Unit) × (Int × Unit)) × Unit)
abbrev s_Deposit_T : Ty := .pair (Outs.ty s_Deposit_outs) (mutsTy s_Deposit_ps)
noncomputable def s_Deposit_env : Env := { tab := s_Deposit_tab, fns := [(83, Try.f83)], sigs := [(48, s_l10Copy_sig), (92, s_l10Of_sig), (93, s_l10With_sig)] }
def s_Deposit_anns : List Ann := []
inductive s_Deposit_H where
  | none
noncomputable def s_Deposit_cfg : s_Deposit_H → Cfg
  | .none => { fr := { fn := 0, fb := 0, ss := [], todo := [] }, cs := [], ob := fun _ => none }
def s_Deposit_body (rec : s_Deposit_H → Option s_Deposit_R) : s_Deposit_H → Option s_Deposit_R
  | .none => none
def s_Deposit_start (rec : s_Deposit_H → Option s_Deposit_R) (x0 : BookD) (x1 : Int) (x2 : Int) : Option s_Deposit_R :=
  (s_l10Of_fn x0 x1 1).bind fun y0 =>
    if (y0.fst.snd.fst != 0) = true then
      (s_l10Copy_fn x0).bind fun y1 =>
        some (((y1.fst.fst, ()), y0.fst.snd.fst, ()), ())
    else
      if (y0.fst.fst.snd.snd.snd.snd.fst != 0) = true then
        (s_l10Copy_fn x0).bind fun y2 =>
          some (((y2.fst.fst, ()), 6, ()), ())
      else
        if (decide (x2 > IntKind.u64.wrap (18446744073709551615 - y0.fst.fst.snd.fst))) = true then
          (s_l10Copy_fn x0).bind fun y3 =>
            some (((y3.fst.fst, ()), 5, ()), ())
        else
          (s_l10With_fn x0 (y0.fst.fst.fst, IntKind.u64.wrap (y0.fst.fst.snd.fst + x2), y0.fst.fst.snd.snd)).bind fun y4 =>
            some (((y4.fst.fst, ()), 0, ()), ())
def s_Deposit_go : Nat → s_Deposit_H → Option s_Deposit_R
  | 0, _ => none
  | k + 1, h => s_Deposit_body (s_Deposit_go k) h
def s_Deposit_k (k : Nat) (x0 : BookD) (x1 : Int) (x2 : Int) : Option s_Deposit_R := s_Deposit_start (s_Deposit_go k) x0 x1 x2
def s_Deposit_fn (x0 : BookD) (x1 : Int) (x2 : Int) : Option s_Deposit_R := s_Deposit_k (1) x0 x1 x2
noncomputable def s_Deposit_sig : Sig := { ps := s_Deposit_ps, outs := s_Deposit_outs, fn := fun x => s_Deposit_fn (x.1) (x.2.1) (x.2.2.1) }
theorem s_Deposit_begin_t (rec : Cfg → Option s_Deposit_R) (x0 : BookD) (x1 : Int) (x2 : Int) : Tr.k (ev s_Deposit_env s_Deposit_anns s_Deposit_sig rec 20000 (entry s_Deposit_sig 83 Try.f83 (bodyOf Try.f83) (x0, x1, x2, ()))) some = ((s_l10Of_fn x0 x1 1).bind fun y0 => br (y0.fst.snd.fst != 0) ((s_l10Copy_fn x0).bind fun y1 => some (((y1.fst.fst, ()), y0.fst.snd.fst, ()), ())) (br (y0.fst.fst.snd.snd.snd.snd.fst != 0) ((s_l10Copy_fn x0).bind fun y2 => some (((y2.fst.fst, ()), 6, ()), ())) (br (decide (x2 > IntKind.u64.wrap (18446744073709551615 - y0.fst.fst.snd.fst))) ((s_l10Copy_fn x0).bind fun y3 => some (((y3.fst.fst, ()), 5, ()), ())) ((s_l10With_fn x0 (y0.fst.fst.fst, IntKind.u64.wrap (y0.fst.fst.snd.fst + x2), y0.fst.fst.snd.snd)).bind fun y4 => some (((y4.fst.fst, ()), 0, ()), ())))) : Option s_Deposit_R) := by kernel_rfl
theorem s_Deposit_begin (rec : Cfg → Option s_Deposit_sig.R.D) (x0 : BookD) (x1 : Int) (x2 : Int) : (ev s_Deposit_env s_Deposit_anns s_Deposit_sig rec 20000 (entry s_Deposit_sig 83 Try.f83 (bodyOf Try.f83) (x0, x1, x2, ()))).run = s_Deposit_start (fun h => rec (s_Deposit_cfg h)) x0 x1 x2 := (Tr.k_some _).trans ((s_Deposit_begin_t rec x0 x1 x2).trans (by first | rfl | (simp only [br_ite]; rfl)))
theorem s_Deposit_tab_ok : s_Deposit_tab.ok Try.prog = true := by decide +kernel
theorem s_Deposit_env_ok : (s_Deposit_env).Ok Try.prog where
  mixed := by decide +kernel
  tab := s_Deposit_tab_ok
  fns := by
    intro p hp
    simp only [s_Deposit_env, List.mem_cons, List.not_mem_nil, or_false] at hp
    subst hp
    · exact ⟨Try.func83, by decide +kernel⟩
  sigs := by
    intro p hp
    simp only [s_Deposit_env, List.mem_cons, List.not_mem_nil, or_false] at hp
    rcases hp with rfl | rfl | rfl
    · exact ⟨s_l10Copy_meets, _, Try.func48, by decide +kernel⟩
    · exact ⟨s_l10Of_meets, _, Try.func92, by decide +kernel⟩
    · exact ⟨s_l10With_meets, _, Try.func93, by decide +kernel⟩
  exts := by
    intro p hp
    simp only [s_Deposit_env, List.mem_cons, List.not_mem_nil, or_false] at hp
theorem s_Deposit_meets : Meets Try.prog 83 s_Deposit_sig := by
  refine meets (anns := s_Deposit_anns) (N := 20000) s_Deposit_env_ok Try.func83 (body := bodyOf Try.f83) (by rfl) ?_
  rintro ⟨x0, x1, x2, ⟨⟩⟩ r hr
  refine ⟨1, ?_⟩
  show (ev s_Deposit_env s_Deposit_anns s_Deposit_sig (Om s_Deposit_env s_Deposit_anns s_Deposit_sig 20000 (1)) 20000 (entry s_Deposit_sig 83 Try.f83 (bodyOf Try.f83) (x0, x1, x2, ()))).run = some r
  rw [s_Deposit_begin]
  exact hr
end Go.Proofs.Ytmggpiijahiaiaa.Ev
namespace Go.Proofs.Ytmggpiijahiaiaa.Ev
open Go
set_option linter.unusedVariables false
set_option linter.unusedSimpArgs false
set_option maxRecDepth 100000
def s_Withdraw_tab : TTab := [⟨3, (.int .i64), 0⟩, ⟨4, .bool, 0⟩, ⟨40, (.int .u64), 0⟩, ⟨49, tBook, 0⟩, ⟨71, tAccount, 0⟩]
abbrev s_Withdraw_ps : List Par := [.lent tBook, .lent (.int .u64), .lent (.int .u64)]
abbrev s_Withdraw_outs : Outs := .many [(.pair (.own tAccount) .unit), (.pure (.int .i64))]
abbrev s_Withdraw_R : Type := ((((List (Int × (Int × (Int × (Int × (Int × Unit)))))) × Unit) × (Int × Unit)) × Unit)
abbrev s_Withdraw_T : Ty := .pair (Outs.ty s_Withdraw_outs) (mutsTy s_Withdraw_ps)
noncomputable def s_Withdraw_env : Env := { tab := s_Withdraw_tab, fns := [(84, Try.f84)], sigs := [(48, s_l10Copy_sig), (92, s_l10Of_sig), (93, s_l10With_sig)] }
def s_Withdraw_anns : List Ann := []
inductive s_Withdraw_H where
  | none
noncomputable def s_Withdraw_cfg : s_Withdraw_H → Cfg
  | .none => { fr := { fn := 0, fb := 0, ss := [], todo := [] }, cs := [], ob := fun _ => none }
def s_Withdraw_body (rec : s_Withdraw_H → Option s_Withdraw_R) : s_Withdraw_H → Option s_Withdraw_R
  | .none => none
def s_Withdraw_start (rec : s_Withdraw_H → Option s_Withdraw_R) (x0 : BookD) (x1 : Int) (x2 : Int) : Option s_Withdraw_R :=
  (s_l10Of_fn x0 x1 1).bind fun y0 =>
    if (y0.fst.snd.fst != 0) = true then
      (s_l10Copy_fn x0).bind fun y1 =>
        some (((y1.fst.fst, ()), y0.fst.snd.fst, ()), ())
    else
      if (y0.fst.fst.snd.snd.snd.snd.fst != 0) = true then
        (s_l10Copy_fn x0).bind fun y2 =>
          some (((y2.fst.fst, ()), 6, ()), ())
      else
        if (decide (x2 > y0.fst.fst.snd.fst)) = true then
          (s_l10Copy_fn x0).bind fun y3 =>
            some (((y3.fst.fst, ()), 4, ()), ())
        else
          (s_l10With_fn x0 (y0.fst.fst.fst, IntKind.u64.wrap (y0.fst.fst.snd.fst - x2), y0.fst.fst.snd.snd)).bind fun y4 =>
            some (((y4.fst.fst, ()), 0, ()), ())
def s_Withdraw_go : Nat → s_Withdraw_H → Option s_Withdraw_R
  | 0, _ => none
  | k + 1, h => s_Withdraw_body (s_Withdraw_go k) h
def s_Withdraw_k (k : Nat) (x0 : BookD) (x1 : Int) (x2 : Int) : Option s_Withdraw_R := s_Withdraw_start (s_Withdraw_go k) x0 x1 x2
def s_Withdraw_fn (x0 : BookD) (x1 : Int) (x2 : Int) : Option s_Withdraw_R := s_Withdraw_k (1) x0 x1 x2
noncomputable def s_Withdraw_sig : Sig := { ps := s_Withdraw_ps, outs := s_Withdraw_outs, fn := fun x => s_Withdraw_fn (x.1) (x.2.1) (x.2.2.1) }
theorem s_Withdraw_begin_t (rec : Cfg → Option s_Withdraw_R) (x0 : BookD) (x1 : Int) (x2 : Int) : Tr.k (ev s_Withdraw_env s_Withdraw_anns s_Withdraw_sig rec 20000 (entry s_Withdraw_sig 84 Try.f84 (bodyOf Try.f84) (x0, x1, x2, ()))) some = ((s_l10Of_fn x0 x1 1).bind fun y0 => br (y0.fst.snd.fst != 0) ((s_l10Copy_fn x0).bind fun y1 => some (((y1.fst.fst, ()), y0.fst.snd.fst, ()), ())) (br (y0.fst.fst.snd.snd.snd.snd.fst != 0) ((s_l10Copy_fn x0).bind fun y2 => some (((y2.fst.fst, ()), 6, ()), ())) (br (decide (x2 > y0.fst.fst.snd.fst)) ((s_l10Copy_fn x0).bind fun y3 => some (((y3.fst.fst, ()), 4, ()), ())) ((s_l10With_fn x0 (y0.fst.fst.fst, IntKind.u64.wrap (y0.fst.fst.snd.fst - x2), y0.fst.fst.snd.snd)).bind fun y4 => some (((y4.fst.fst, ()), 0, ()), ())))) : Option s_Withdraw_R) := by kernel_rfl
theorem s_Withdraw_begin (rec : Cfg → Option s_Withdraw_sig.R.D) (x0 : BookD) (x1 : Int) (x2 : Int) : (ev s_Withdraw_env s_Withdraw_anns s_Withdraw_sig rec 20000 (entry s_Withdraw_sig 84 Try.f84 (bodyOf Try.f84) (x0, x1, x2, ()))).run = s_Withdraw_start (fun h => rec (s_Withdraw_cfg h)) x0 x1 x2 := (Tr.k_some _).trans ((s_Withdraw_begin_t rec x0 x1 x2).trans (by first | rfl | (simp only [br_ite]; rfl)))
theorem s_Withdraw_tab_ok : s_Withdraw_tab.ok Try.prog = true := by decide +kernel
theorem s_Withdraw_env_ok : (s_Withdraw_env).Ok Try.prog where
  mixed := by decide +kernel
  tab := s_Withdraw_tab_ok
  fns := by
    intro p hp
    simp only [s_Withdraw_env, List.mem_cons, List.not_mem_nil, or_false] at hp
    subst hp
    · exact ⟨Try.func84, by decide +kernel⟩
  sigs := by
    intro p hp
    simp only [s_Withdraw_env, List.mem_cons, List.not_mem_nil, or_false] at hp
    rcases hp with rfl | rfl | rfl
    · exact ⟨s_l10Copy_meets, _, Try.func48, by decide +kernel⟩
    · exact ⟨s_l10Of_meets, _, Try.func92, by decide +kernel⟩
    · exact ⟨s_l10With_meets, _, Try.func93, by decide +kernel⟩
  exts := by
    intro p hp
    simp only [s_Withdraw_env, List.mem_cons, List.not_mem_nil, or_false] at hp
theorem s_Withdraw_meets : Meets Try.prog 84 s_Withdraw_sig := by
  refine meets (anns := s_Withdraw_anns) (N := 20000) s_Withdraw_env_ok Try.func84 (body := bodyOf Try.f84) (by rfl) ?_
  rintro ⟨x0, x1, x2, ⟨⟩⟩ r hr
  refine ⟨1, ?_⟩
  show (ev s_Withdraw_env s_Withdraw_anns s_Withdraw_sig (Om s_Withdraw_env s_Withdraw_anns s_Withdraw_sig 20000 (1)) 20000 (entry s_Withdraw_sig 84 Try.f84 (bodyOf Try.f84) (x0, x1, x2, ()))).run = some r
  rw [s_Withdraw_begin]
  exact hr
end Go.Proofs.Ytmggpiijahiaiaa.Ev
namespace Go.Proofs.Ytmggpiijahiaiaa.Ev
open Go
set_option linter.unusedVariables false
set_option linter.unusedSimpArgs false
set_option maxRecDepth 100000
def s_MoveMoney_tab : TTab := [⟨3, (.int .i64), 0⟩, ⟨4, .bool, 0⟩, ⟨40, (.int .u64), 0⟩, ⟨49, tBook, 0⟩, ⟨71, tAccount, 0⟩]
abbrev s_MoveMoney_ps : List Par := [.lent tBook, .lent (.int .u64), .lent (.int .u64), .lent (.int .u64)]
abbrev s_MoveMoney_outs : Outs := .many [(.pair (.own tAccount) .unit), (.pure (.int .i64))]
abbrev s_MoveMoney_R : Type := ((((List (Int × (Int × (Int × (Int × (Int × Unit)))))) × Unit) × (Int × Unit)) × Unit)
abbrev s_MoveMoney_T : Ty := .pair (Outs.ty s_MoveMoney_outs) (mutsTy s_MoveMoney_ps)
noncomputable def s_MoveMoney_env : Env := { tab := s_MoveMoney_tab, fns := [(85, Try.f85)], sigs := [(48, s_l10Copy_sig), (92, s_l10Of_sig), (93, s_l10With_sig)] }
def s_MoveMoney_anns : List Ann := [⟨85, 100026, [3, 4, 8, 10, 11, 12, 13, 26], []⟩, ⟨85, 100036, [3, 4, 8, 10, 12, 36], []⟩, ⟨85, 100045, [3, 4, 8, 10, 12, 45], []⟩]
inductive s_MoveMoney_H where
  | l0 (v0 : Int) (v1 : Int) (v2 : Int) (v3 : Bool) (v4 : BookD) (v5 : AccountD) (v6 : AccountD)
  | l1 (v0 : Int) (v1 : Bool) (v2 : BookD) (v3 : AccountD) (v4 : AccountD)
  | l2 (v0 : Int) (v1 : Bool) (v2 : BookD) (v3 : AccountD) (v4 : AccountD)
noncomputable def s_MoveMoney_cfg : s_MoveMoney_H → Cfg
  | .l0 v0 v1 v2 v3 v4 v5 v6 => { fr := { fn := 85, fb := 0, ss := sl 86 [(3, (.pv false (.int .u64) v0)), (4, (.bptr 0 [])), (8, (.bptr 1 [])), (10, (.bptr 2 [])), (11, (.pv false (.int .i64) v1)), (12, (.bptr 3 [])), (13, (.pv false (.int .i64) v2)), (26, (.pv false .bool v3))], todo := cutAt (bodyOf Try.f85) [false, false, false, true, true, false] [] }, cs := [], ob := ofList [.box tBook (.pv true tBook v4), .box tBook (.pair .nilv .unit), .box tAccount (.pv false tAccount v5), .box tAccount (.pv false tAccount v6)] }
  | .l1 v0 v1 v2 v3 v4 => { fr := { fn := 85, fb := 0, ss := sl 86 [(3, (.pv false (.int .u64) v0)), (4, (.bptr 0 [])), (8, (.bptr 1 [])), (10, (.bptr 2 [])), (12, (.bptr 3 [])), (36, (.pv false .bool v1))], todo := cutAt (bodyOf Try.f85) [false, false, false, true, true, false, false, false] [] }, cs := [], ob := ofList [.box tBook (.pv true tBook v2), .box tBook (.pair .nilv .unit), .box tAccount (.pv false tAccount v3), .box tAccount (.pv false tAccount v4)] }
  | .l2 v0 v1 v2 v3 v4 => { fr := { fn := 85, fb := 0, ss := sl 86 [(3, (.pv false (.int .u64) v0)), (4, (.bptr 0 [])), (8, (.bptr 1 [])), (10, (.bptr 2 [])), (12, (.bptr 3 [])), (45, (.pv false .bool v1))], todo := cutAt (bodyOf Try.f85) [false, false, false, true, true, false, false, false, false, false] [] }, cs := [], ob := ofList [.box tBook (.pv true tBook v2), .box tBook (.pair .nilv .unit), .box tAccount (.pv false tAccount v3), .box tAccount (.pv false tAccount v4)] }
def s_MoveMoney_body (rec : s_MoveMoney_H → Option s_MoveMoney_R) : s_MoveMoney_H → Option s_MoveMoney_R
  | .l0 v0 v1 v2 v3 v4 v5 v6 =>
    if (v3) = true then
      (s_l10Copy_fn v4).bind fun y2 =>
        some (((y2.fst.fst, ()), 1, ()), ())
    else
      if (v1 != 0) = true then
        (rec (.l1 (v0) (Bool.true) (v4) (v5) (v6))).bind some
      else
        (rec (.l1 (v0) (v2 != 0) (v4) (v5) (v6))).bind some
  | .l1 v0 v1 v2 v3 v4 =>
    if (v1) = true then
      (s_l10Copy_fn v2).bind fun y3 =>
        some (((y3.fst.fst, ()), 2, ()), ())
    else
      if (v3.snd.snd.snd.snd.fst != 0) = true then
        (rec (.l2 (v0) (Bool.true) (v2) (v3) (v4))).bind some
      else
        (rec (.l2 (v0) (v4.snd.snd.snd.snd.fst != 0) (v2) (v3) (v4))).bind some
  | .l2 v0 v1 v2 v3 v4 =>
    if (v1) = true then
      (s_l10Copy_fn v2).bind fun y4 =>
        some (((y4.fst.fst, ()), 6, ()), ())
    else
      if (decide (v0 > v3.snd.fst)) = true then
        (s_l10Copy_fn v2).bind fun y5 =>
          some (((y5.fst.fst, ()), 4, ()), ())
      else
        if (decide (v0 > IntKind.u64.wrap (18446744073709551615 - v4.snd.fst))) = true then
          (s_l10Copy_fn v2).bind fun y6 =>
            some (((y6.fst.fst, ()), 5, ()), ())
        else
          (s_l10With_fn v2 (v3.fst, IntKind.u64.wrap (v3.snd.fst - v0), v3.snd.snd)).bind fun y7 =>
            (s_l10With_fn (y7.fst.fst, ()) (v4.fst, IntKind.u64.wrap (v4.snd.fst + v0), v4.snd.snd)).bind fun y8 =>
              some (((y8.fst.fst, ()), 0, ()), ())
def s_MoveMoney_start (rec : s_MoveMoney_H → Option s_MoveMoney_R) (x0 : BookD) (x1 : Int) (x2 : Int) (x3 : Int) : Option s_MoveMoney_R :=
  (s_l10Of_fn x0 x1 1).bind fun y0 =>
    (s_l10Of_fn x0 x2 1).bind fun y1 =>
      if (y0.fst.snd.fst == 1) = true then
        (rec (.l0 (x3) (y0.fst.snd.fst) (y1.fst.snd.fst) (Bool.true) (x0) (y0.fst.fst) (y1.fst.fst))).bind some
      else
        (rec (.l0 (x3) (y0.fst.snd.fst) (y1.fst.snd.fst) (x1 == x2) (x0) (y0.fst.fst) (y1.fst.fst))).bind some
def s_MoveMoney_go : Nat → s_MoveMoney_H → Option s_MoveMoney_R
  | 0, _ => none
  | k + 1, h => s_MoveMoney_body (s_MoveMoney_go k) h
def s_MoveMoney_k (k : Nat) (x0 : BookD) (x1 : Int) (x2 : Int) (x3 : Int) : Option s_MoveMoney_R := s_MoveMoney_start (s_MoveMoney_go k) x0 x1 x2 x3
def s_MoveMoney_fn (x0 : BookD) (x1 : Int) (x2 : Int) (x3 : Int) : Option s_MoveMoney_R := s_MoveMoney_k (10000000) x0 x1 x2 x3
noncomputable def s_MoveMoney_sig : Sig := { ps := s_MoveMoney_ps, outs := s_MoveMoney_outs, fn := fun x => s_MoveMoney_fn (x.1) (x.2.1) (x.2.2.1) (x.2.2.2.1) }
theorem s_MoveMoney_l0_t (rec : Cfg → Option s_MoveMoney_R) (v0 : Int) (v1 : Int) (v2 : Int) (v3 : Bool) (v4 : BookD) (v5 : AccountD) (v6 : AccountD) : Tr.k (ev s_MoveMoney_env s_MoveMoney_anns s_MoveMoney_sig rec 20000 (s_MoveMoney_cfg (.l0 v0 v1 v2 v3 v4 v5 v6))) some = (br (v3) ((s_l10Copy_fn v4).bind fun y2 => some (((y2.fst.fst, ()), 1, ()), ())) (br (v1 != 0) ((rec (s_MoveMoney_cfg (.l1 (v0) (Bool.true) (v4) (v5) (v6)))).bind some) ((rec (s_MoveMoney_cfg (.l1 (v0) (v2 != 0) (v4) (v5) (v6)))).bind some)) : Option s_MoveMoney_R) := by kernel_rfl
theorem s_MoveMoney_l0 (rec : Cfg → Option s_MoveMoney_sig.R.D) (v0 : Int) (v1 : Int) (v2 : Int) (v3 : Bool) (v4 : BookD) (v5 : AccountD) (v6 : AccountD) : (ev s_MoveMoney_env s_MoveMoney_anns s_MoveMoney_sig rec 20000 (s_MoveMoney_cfg (.l0 v0 v1 v2 v3 v4 v5 v6))).run = s_MoveMoney_body (fun h => rec (s_MoveMoney_cfg h)) (.l0 v0 v1 v2 v3 v4 v5 v6) := (Tr.k_some _).trans ((s_MoveMoney_l0_t rec v0 v1 v2 v3 v4 v5 v6).trans (by first | rfl | (simp only [br_ite]; rfl)))
theorem s_MoveMoney_l1_t (rec : Cfg → Option s_MoveMoney_R) (v0 : Int) (v1 : Bool) (v2 : BookD) (v3 : AccountD) (v4 : AccountD) : Tr.k (ev s_MoveMoney_env s_MoveMoney_anns s_MoveMoney_sig rec 20000 (s_MoveMoney_cfg (.l1 v0 v1 v2 v3 v4))) some = (br (v1) ((s_l10Copy_fn v2).bind fun y3 => some (((y3.fst.fst, ()), 2, ()), ())) (br (v3.snd.snd.snd.snd.fst != 0) ((rec (s_MoveMoney_cfg (.l2 (v0) (Bool.true) (v2) (v3) (v4)))).bind some) ((rec (s_MoveMoney_cfg (.l2 (v0) (v4.snd.snd.snd.snd.fst != 0) (v2) (v3) (v4)))).bind some)) : Option s_MoveMoney_R) := by kernel_rfl
theorem s_MoveMoney_l1 (rec : Cfg → Option s_MoveMoney_sig.R.D) (v0 : Int) (v1 : Bool) (v2 : BookD) (v3 : AccountD) (v4 : AccountD) : (ev s_MoveMoney_env s_MoveMoney_anns s_MoveMoney_sig rec 20000 (s_MoveMoney_cfg (.l1 v0 v1 v2 v3 v4))).run = s_MoveMoney_body (fun h => rec (s_MoveMoney_cfg h)) (.l1 v0 v1 v2 v3 v4) := (Tr.k_some _).trans ((s_MoveMoney_l1_t rec v0 v1 v2 v3 v4).trans (by first | rfl | (simp only [br_ite]; rfl)))
theorem s_MoveMoney_l2_t (rec : Cfg → Option s_MoveMoney_R) (v0 : Int) (v1 : Bool) (v2 : BookD) (v3 : AccountD) (v4 : AccountD) : Tr.k (ev s_MoveMoney_env s_MoveMoney_anns s_MoveMoney_sig rec 20000 (s_MoveMoney_cfg (.l2 v0 v1 v2 v3 v4))) some = (br (v1) ((s_l10Copy_fn v2).bind fun y4 => some (((y4.fst.fst, ()), 6, ()), ())) (br (decide (v0 > v3.snd.fst)) ((s_l10Copy_fn v2).bind fun y5 => some (((y5.fst.fst, ()), 4, ()), ())) (br (decide (v0 > IntKind.u64.wrap (18446744073709551615 - v4.snd.fst))) ((s_l10Copy_fn v2).bind fun y6 => some (((y6.fst.fst, ()), 5, ()), ())) ((s_l10With_fn v2 (v3.fst, IntKind.u64.wrap (v3.snd.fst - v0), v3.snd.snd)).bind fun y7 => (s_l10With_fn (y7.fst.fst, ()) (v4.fst, IntKind.u64.wrap (v4.snd.fst + v0), v4.snd.snd)).bind fun y8 => some (((y8.fst.fst, ()), 0, ()), ())))) : Option s_MoveMoney_R) := by kernel_rfl
theorem s_MoveMoney_l2 (rec : Cfg → Option s_MoveMoney_sig.R.D) (v0 : Int) (v1 : Bool) (v2 : BookD) (v3 : AccountD) (v4 : AccountD) : (ev s_MoveMoney_env s_MoveMoney_anns s_MoveMoney_sig rec 20000 (s_MoveMoney_cfg (.l2 v0 v1 v2 v3 v4))).run = s_MoveMoney_body (fun h => rec (s_MoveMoney_cfg h)) (.l2 v0 v1 v2 v3 v4) := (Tr.k_some _).trans ((s_MoveMoney_l2_t rec v0 v1 v2 v3 v4).trans (by first | rfl | (simp only [br_ite]; rfl)))
theorem s_MoveMoney_begin_t (rec : Cfg → Option s_MoveMoney_R) (x0 : BookD) (x1 : Int) (x2 : Int) (x3 : Int) : Tr.k (ev s_MoveMoney_env s_MoveMoney_anns s_MoveMoney_sig rec 20000 (entry s_MoveMoney_sig 85 Try.f85 (bodyOf Try.f85) (x0, x1, x2, x3, ()))) some = ((s_l10Of_fn x0 x1 1).bind fun y0 => (s_l10Of_fn x0 x2 1).bind fun y1 => br (y0.fst.snd.fst == 1) ((rec (s_MoveMoney_cfg (.l0 (x3) (y0.fst.snd.fst) (y1.fst.snd.fst) (Bool.true) (x0) (y0.fst.fst) (y1.fst.fst)))).bind some) ((rec (s_MoveMoney_cfg (.l0 (x3) (y0.fst.snd.fst) (y1.fst.snd.fst) (x1 == x2) (x0) (y0.fst.fst) (y1.fst.fst)))).bind some) : Option s_MoveMoney_R) := by kernel_rfl
theorem s_MoveMoney_begin (rec : Cfg → Option s_MoveMoney_sig.R.D) (x0 : BookD) (x1 : Int) (x2 : Int) (x3 : Int) : (ev s_MoveMoney_env s_MoveMoney_anns s_MoveMoney_sig rec 20000 (entry s_MoveMoney_sig 85 Try.f85 (bodyOf Try.f85) (x0, x1, x2, x3, ()))).run = s_MoveMoney_start (fun h => rec (s_MoveMoney_cfg h)) x0 x1 x2 x3 := (Tr.k_some _).trans ((s_MoveMoney_begin_t rec x0 x1 x2 x3).trans (by first | rfl | (simp only [br_ite]; rfl)))
theorem s_MoveMoney_tab_ok : s_MoveMoney_tab.ok Try.prog = true := by decide +kernel
theorem s_MoveMoney_env_ok : (s_MoveMoney_env).Ok Try.prog where
  mixed := by decide +kernel
  tab := s_MoveMoney_tab_ok
  fns := by
    intro p hp
    simp only [s_MoveMoney_env, List.mem_cons, List.not_mem_nil, or_false] at hp
    subst hp
    · exact ⟨Try.func85, by decide +kernel⟩
  sigs := by
    intro p hp
    simp only [s_MoveMoney_env, List.mem_cons, List.not_mem_nil, or_false] at hp
    rcases hp with rfl | rfl | rfl
    · exact ⟨s_l10Copy_meets, _, Try.func48, by decide +kernel⟩
    · exact ⟨s_l10Of_meets, _, Try.func92, by decide +kernel⟩
    · exact ⟨s_l10With_meets, _, Try.func93, by decide +kernel⟩
  exts := by
    intro p hp
    simp only [s_MoveMoney_env, List.mem_cons, List.not_mem_nil, or_false] at hp
theorem s_MoveMoney_run (k : Nat) (h : s_MoveMoney_H) : Om s_MoveMoney_env s_MoveMoney_anns s_MoveMoney_sig 20000 k (s_MoveMoney_cfg h) = s_MoveMoney_go k h :=
  Om_go (sg := s_MoveMoney_sig) (cfg := s_MoveMoney_cfg) (body := s_MoveMoney_body) (go := s_MoveMoney_go) (fun _ => rfl) (fun _ _ => rfl) (fun rec h => by
  cases h with
  | l0 v0 v1 v2 v3 v4 v5 v6 => exact s_MoveMoney_l0 rec v0 v1 v2 v3 v4 v5 v6
  | l1 v0 v1 v2 v3 v4 => exact s_MoveMoney_l1 rec v0 v1 v2 v3 v4
  | l2 v0 v1 v2 v3 v4 => exact s_MoveMoney_l2 rec v0 v1 v2 v3 v4) k h
theorem s_MoveMoney_meets : Meets Try.prog 85 s_MoveMoney_sig := by
  refine meets (anns := s_MoveMoney_anns) (N := 20000) s_MoveMoney_env_ok Try.func85 (body := bodyOf Try.f85) (by rfl) ?_
  rintro ⟨x0, x1, x2, x3, ⟨⟩⟩ r hr
  refine ⟨10000000, ?_⟩
  show (ev s_MoveMoney_env s_MoveMoney_anns s_MoveMoney_sig (Om s_MoveMoney_env s_MoveMoney_anns s_MoveMoney_sig 20000 (10000000)) 20000 (entry s_MoveMoney_sig 85 Try.f85 (bodyOf Try.f85) (x0, x1, x2, x3, ()))).run = some r
  rw [s_MoveMoney_begin]
  have e : (fun h => Om s_MoveMoney_env s_MoveMoney_anns s_MoveMoney_sig 20000 (10000000) (s_MoveMoney_cfg h)) = s_MoveMoney_go (10000000) := funext fun h => s_MoveMoney_run _ h
  rw [e]
  exact hr
end Go.Proofs.Ytmggpiijahiaiaa.Ev
/- The plain law of the books: what is done with an account; the program and the reference do the same. -/
namespace Go.Proofs.Ytmggpiijahiaiaa.Ev
open Go Go.IntWalk
set_option linter.unusedVariables false
set_option linter.unusedSimpArgs false

theorem beq40 {l : List AccountD} : ((l.length : Int) == 40) = decide (l.length = 40) := by
  by_cases h : l.length = 40
  · simp [h]
  · have : ¬ ((l.length : Int) = 40) := by omega
    simp [h, this]
theorem ok_len {l : List AccountD} (h : okBook l = true) : l.length ≤ 40 := by
  unfold okBook at h
  rw [Bool.and_eq_true] at h
  exact of_decide_eq_true h.2
theorem getD_set_same {l : List AccountD} {i : Nat} (h : i < l.length) (a : AccountD) : (l.set i a).getD i (0, 0, 0, 0, 0, ()) = a := by
  rw [List.getD_eq_getElem?_getD, List.getElem?_set_self h]; rfl

/-! ### A new account -/
def insA (id : Int) (l : List AccountD) : List AccountD := l.take (accPos id l) ++ [(id, 0, 0, 0, 0, ())] ++ l.drop (accPos id l)
def openM (l : List AccountD) (id : Int) : List AccountD × Int :=
  if okBook l = true then (if accIn id l = true then (l, 3) else if l.length = 40 then (l, 1) else (insA id l, 0)) else (l, 1)
theorem iOpen_ok {l : List AccountD} (hl : l.length ≤ 1048576) (hr : bookR l) (id : Int) : i_OpenAccount_fn (l, ()) id = some ((((openM l id).1, ()), (openM l id).2, ()), ()) := by
  unfold i_OpenAccount_fn i_OpenAccount_k i_OpenAccount_start openM
  obtain ⟨k, hk⟩ : ∃ k, (10000000 : Nat) = k + 1 := ⟨9999999, rfl⟩
  rw [hk]
  simp only [copyBook_ok hl, accountOf_ok hl, isBook_ok hl hr, Option.bind_some, beq40, bindSome, i_OpenAccount_go, i_OpenAccount_body, one_set]
  by_cases h1 : okBook l = true
  · by_cases h2 : accIn id l = true
    · simp [h1, h2]
    · by_cases h3 : l.length = 40
      · simp [h1, h2, h3]
      · have hp := pos_le id l
        have h40 := ok_len h1
        have e : slices_Insert_Account_fn l (accPos id l) [(id, 0, 0, 0, 0, ())] = some (insA id l, ()) := by
          unfold slices_Insert_Account_fn insA
          rw [if_pos ⟨by omega, by omega, by simp; omega, by simp⟩, Int.toNat_natCast]
        simp [h1, h2, h3, e]
  · simp [h1]
def insG (n : AccountD) : List AccountD → List AccountD
  | [] => [n]
  | a :: r => if n.1 < a.1 then n :: a :: r else a :: insG n r
theorem insG_eq {id : Int} : ∀ {l : List AccountD}, accIn id l = false → insG (id, 0, 0, 0, 0, ()) l = insA id l := by
  intro l
  induction l with
  | nil => intro _; rfl
  | cons a r ih =>
    intro h
    simp only [accIn] at h
    unfold insA
    simp only [insG, accPos]
    by_cases c : a.1 < id
    · rw [if_pos c] at h
      rw [if_neg (by omega), ih h, if_pos c]
      rfl
    · rw [if_neg c] at h
      have e := of_decide_eq_false h
      rw [if_pos (by omega), if_neg c]
      rfl
theorem sOpen_go2 {l : List AccountD} {id : Int} (hl : l.length ≤ 40) : ∀ (n k i : Nat) (v : List AccountD), 2 * n < k → i + n = l.length → v.length = i + 1 → s_OpenAccount_go k (.l2 id true i (l, ()) v) = some (((v ++ l.drop i, ()), 0, ()), ()) := by
  intro n
  induction n with
  | zero =>
    intro k i v hk hi hv
    obtain ⟨k, rfl⟩ : ∃ k', k = k' + 1 := ⟨k - 1, by omega⟩
    have c : ¬ ((i : Int) < (l.length : Int)) := by omega
    simp only [s_OpenAccount_go, s_OpenAccount_body, c, decide_false, Bool.false_eq_true, if_false, Bool.not_true]
    rw [List.drop_of_length_le (by omega), List.append_nil]
  | succ n ih =>
    intro k i v hk hi hv
    obtain ⟨k, rfl⟩ : ∃ k', k = k' + 2 := ⟨k - 2, by omega⟩
    have c : (i : Int) < (l.length : Int) := by omega
    have c0 : (0 : Int) ≤ (i : Int) := by omega
    have b1 : (v.length + 1) * 40 ≤ 140737488355328 := by omega
    have b2 : v.length + 1 ≤ 9223372036854775807 := by omega
    have e := ih k (i + 1) (v ++ [l.getD i zA]) (by omega) (by omega) (by simp [hv])
    simp only [s_OpenAccount_go, s_OpenAccount_body, c, c0, decide_true, if_true, Int.toNat_natCast, wrapS (i := i) (n := l.length) (by omega) (by omega), bindSome, one_set, List.length_singleton, b1, b2, e, Bool.not_true, Bool.false_eq_true, if_false]
    rw [dropG (l := l) (i := i) (by omega) zA, List.append_assoc]
    rfl
theorem sOpen_go1 {l : List AccountD} {id : Int} (hl : l.length ≤ 40) : ∀ (n k i : Nat) (v : List AccountD), 2 * n < k → i + n = l.length → v.length = i → s_OpenAccount_go k (.l2 id false i (l, ()) v) = some (((v ++ insG (id, 0, 0, 0, 0, ()) (l.drop i), ()), 0, ()), ()) := by
  intro n
  induction n with
  | zero =>
    intro k i v hk hi hv
    obtain ⟨k, rfl⟩ : ∃ k', k = k' + 1 := ⟨k - 1, by omega⟩
    have c : ¬ ((i : Int) < (l.length : Int)) := by omega
    have b1 : (v.length + 1) * 40 ≤ 140737488355328 := by omega
    have b2 : v.length + 1 ≤ 9223372036854775807 := by omega
    simp only [s_OpenAccount_go, s_OpenAccount_body, c, decide_false, Bool.false_eq_true, if_false, Bool.not_false, if_true, one_set, List.length_singleton, b1, b2, decide_true]
    rw [List.drop_of_length_le (by omega)]
    rfl
  | succ n ih =>
    intro k i v hk hi hv
    obtain ⟨k, rfl⟩ : ∃ k', k = k' + 2 := ⟨k - 2, by omega⟩
    have c : (i : Int) < (l.length : Int) := by omega
    have c0 : (0 : Int) ≤ (i : Int) := by omega
    have b3 : (v.length + 1 + 1) * 40 ≤ 140737488355328 := by omega
    have b4 : v.length + 1 + 1 ≤ 9223372036854775807 := by clear b3; omega
    have b1 : (v.length + 1) * 40 ≤ 140737488355328 := by clear b3 b4; omega
    have b2 : v.length + 1 ≤ 9223372036854775807 := by clear b1 b3 b4; omega
    obtain ⟨p, hp⟩ : ∃ p, l.getD i (0, 0, 0, 0, 0, ()) = p := ⟨_, rfl⟩
    have hp' : l.getD i zA = p := hp
    have hlen : ∀ x : AccountD, (v ++ [x]).length = v.length + 1 := fun x => List.length_append
    have e := ih k (i + 1) (v ++ [p]) (by clear b1 b2 b3 b4; omega) (by clear b1 b2 b3 b4; omega) (by simp [hv])
    have e2 := sOpen_go2 (id := id) hl n k (i + 1) (v ++ [(id, 0, 0, 0, 0, ())] ++ [p]) (by clear b1 b2 b3 b4; omega) (by clear b1 b2 b3 b4; omega) (by simp [hv])
    have w := wrapS (i := i) (n := l.length) (by clear b1 b2 b3 b4; omega) (by clear b1 b2 b3 b4; omega)
    simp only [s_OpenAccount_go, s_OpenAccount_body, c, c0, decide_true, if_true, Int.toNat_natCast, w, bindSome, one_set, List.length_singleton, hlen, b1, b2, b3, b4, e, e2, Bool.not_false, hp, decide_eq_true_eq]
    rw [dropG (l := l) (i := i) (by omega) zA, hp', insG]
    by_cases h : p.1 > id
    · rw [if_pos h, if_pos (show id < p.1 from h)]
      simp
    · rw [if_neg h, if_neg (show ¬ id < p.1 from h)]
      simp
theorem sOpen_ok {l : List AccountD} (hl : l.length ≤ 1048576) (hr : bookR l) (id : Int) : s_OpenAccount_fn (l, ()) id = some ((((openM l id).1, ()), (openM l id).2, ()), ()) := by
  unfold s_OpenAccount_fn s_OpenAccount_k s_OpenAccount_start openM
  by_cases h1 : okBook l = true
  · have ho := ord_of_ok h1
    have h40 := ok_len h1
    simp only [sBookOk_ok hl hr, find_ok hl ho, sCopy_ok hl, Option.bind_some, beq40, bindSome, h1]
    by_cases h2 : accIn id l = true
    · have : (accPos id l : Int) ≥ 0 := by omega
      simp [h2, this]
    · by_cases h3 : l.length = 40
      · simp [h2, h3]
      · have h2' : accIn id l = false := by simpa using h2
        have key : s_OpenAccount_go 10000000 (.l0 id false 0 (l, ())) = some (((insG (id, 0, 0, 0, 0, ()) l, ()), 0, ()), ()) := by
          obtain ⟨k, hk, hk2⟩ : ∃ k, (10000000 : Nat) = k + 2 ∧ 9999998 ≤ k := ⟨9999998, rfl, Nat.le_refl _⟩
          rw [hk]
          cases l with
          | nil => rfl
          | cons a r =>
            have c : (0 : Int) < ((a :: r).length : Int) := by simp
            have w : IntKind.i64.wrap ((0 : Int) + 1) = ((1 : Nat) : Int) := by rw [i64_in _ (by omega)]; rfl
            have e := sOpen_go1 (id := id) h40 r.length k 1 [a] (by simp at h40; omega) (by simp; omega) rfl
            have e2 := sOpen_go2 (id := id) h40 r.length k 1 ([(id, 0, 0, 0, 0, ())] ++ [a]) (by simp at h40; omega) (by simp; omega) rfl
            have g : (a :: r).getD (Int.toNat 0) (0, 0, 0, 0, 0, ()) = a := rfl
            simp only [s_OpenAccount_go, s_OpenAccount_body, c, decide_true, if_true, Int.le_refl, one_set, bindSome, Bool.not_false, w, e, e2, g, decide_eq_true_eq, insG]
            by_cases h : a.1 > id
            · rw [if_pos h, if_pos (show id < a.1 from h)]; rfl
            · rw [if_neg h, if_neg (show ¬ id < a.1 from h)]; rfl
        simp only [h2', h3, key, insG_eq h2', Bool.false_eq_true, if_false, decide_false, Bool.not_true, if_true]
        rfl
  · simp [sBookOk_ok hl hr, sCopy_ok hl, h1]

/-! ### What is done with one account -/
theorem of_ok {l : List AccountD} (hl : l.length ≤ 1048576) (hr : bookR l) (id tx : Int) (ht : 1 ≤ tx) : s_l10Of_fn (l, ()) id tx = some (((if okBook l = true ∧ accIn id l = true then l.getD (accPos id l) zA else zA), (if okBook l = true then (if accIn id l = true then 0 else 2) else 1), ()), ()) := by
  unfold s_l10Of_fn s_l10Of_k s_l10Of_start
  obtain ⟨k, hk⟩ : ∃ k, (10000000 : Nat) = k + 1 := ⟨9999999, rfl⟩
  rw [hk]
  have ht' : ¬ tx < 1 := by omega
  by_cases h1 : okBook l = true
  · have ho := ord_of_ok h1
    simp only [sBookOk_ok hl hr, Option.bind_some, bindSome, h1, s_l10Of_go, s_l10Of_body, find_ok hl ho, ht']
    by_cases h2 : accIn id l = true
    · have q1 : ¬ ((accPos id l : Int) < 0) := by omega
      have q2 : (0 : Int) ≤ (accPos id l : Int) := by omega
      have q3 : (accPos id l : Int) < (l.length : Int) := by have := pos_lt h2; omega
      simp only [h2, q1, q2, q3, if_true, decide_true, decide_false, Bool.false_eq_true, if_false, Bool.not_true, and_self, Int.toNat_natCast]
    · simp [h2]
  · simp [sBookOk_ok hl hr, h1]

def closeM (l : List AccountD) (id : Int) : List AccountD × Int :=
  if okBook l = true then (if accIn id l = true then
    (if (l.getD (accPos id l) zA).2.2.2.2.1 = 0 then (if (l.getD (accPos id l) zA).2.1 = 0 then (l.take (accPos id l) ++ l.drop (accPos id l + 1), 0) else (l, 4)) else (l, 6))
    else (l, 2)) else (l, 1)
theorem iClose_ok {l : List AccountD} (hl : l.length ≤ 1048576) (hr : bookR l) (id : Int) : i_CloseAccount_fn (l, ()) id = some ((((closeM l id).1, ()), (closeM l id).2, ()), ()) := by
  unfold i_CloseAccount_fn i_CloseAccount_k i_CloseAccount_start closeM
  obtain ⟨k, hk⟩ : ∃ k, (10000000 : Nat) = k + 1 := ⟨9999999, rfl⟩
  rw [hk]
  simp only [copyBook_ok hl, accountOf_ok hl, isBook_ok hl hr, Option.bind_some, bindSome, i_CloseAccount_go, i_CloseAccount_body]
  by_cases h1 : okBook l = true
  case neg => simp [h1]
  by_cases h2 : accIn id l = true
  case neg => simp [h1, h2]
  have hp := pos_lt h2
  have q1 : (0 : Int) ≤ (accPos id l : Int) := by omega
  have q2 : (accPos id l : Int) < (l.length : Int) := by omega
  obtain ⟨p, hp1⟩ : ∃ p, l.getD (accPos id l) (0, 0, 0, 0, 0, ()) = p := ⟨_, rfl⟩
  have hp2 : l.getD (accPos id l) zA = p := hp1
  have w : IntKind.i64.wrap ((accPos id l : Int) + 1) = ((accPos id l + 1 : Nat) : Int) := wrapS hp (by omega)
  simp only [h1, h2, q1, q2, if_true, decide_true, Bool.not_true, Bool.false_eq_true, if_false, Int.toNat_natCast, hp1, hp2, List.length_set, getD_set_same hp, w]
  by_cases h3 : p.2.2.2.2.1 = 0
  · by_cases h4 : p.2.1 = 0
    · have e : ∀ a : AccountD, slices_Delete_Account_fn (l.set (accPos id l) a) (accPos id l) ((accPos id l + 1 : Nat) : Int) = some (l.take (accPos id l) ++ l.drop (accPos id l + 1), ()) := by
        intro a
        unfold slices_Delete_Account_fn
        rw [if_pos ⟨by omega, by omega, by rw [List.length_set]; omega⟩, Int.toNat_natCast, Int.toNat_natCast]
        rw [List.take_set_of_le (Nat.le_refl _), List.drop_set_of_lt (by omega)]
      simp only [h3, h4, e, bne_self_eq_false, Bool.false_eq_true, if_false, if_true, beq_self_eq_true, Option.bind_some]
    · simp [h3, h4]
  · simp [h3]
theorem sClose_go1 {l : List AccountD} {id : Int} (hl : l.length ≤ 1048576) : ∀ (n k i : Nat) (v : List AccountD), n < k → i + n = l.length → v.length ≤ i → s_CloseAccount_go k (.l1 id i (l, ()) v) = some (((v ++ (l.drop i).filter (fun a => a.1 != id), ()), 0, ()), ()) := by
  intro n
  induction n with
  | zero =>
    intro k i v hk hi hv
    obtain ⟨k, rfl⟩ : ∃ k', k = k' + 1 := ⟨k - 1, by omega⟩
    have c : ¬ ((i : Int) < (l.length : Int)) := by omega
    simp only [s_CloseAccount_go, s_CloseAccount_body, c, decide_false, Bool.false_eq_true, if_false]
    rw [List.drop_of_length_le (by omega)]
    simp
  | succ n ih =>
    intro k i v hk hi hv
    obtain ⟨k, rfl⟩ : ∃ k', k = k' + 1 := ⟨k - 1, by omega⟩
    have c : (i : Int) < (l.length : Int) := by omega
    have c0 : (0 : Int) ≤ (i : Int) := by omega
    have b1 : (v.length + 1) * 40 ≤ 140737488355328 := by omega
    have b2 : v.length + 1 ≤ 9223372036854775807 := by omega
    obtain ⟨p, hp⟩ : ∃ p, l.getD i (0, 0, 0, 0, 0, ()) = p := ⟨_, rfl⟩
    have hp' : l.getD i zA = p := hp
    have e := ih k (i + 1) (v ++ [p]) (by omega) (by omega) (by simp; omega)
    have e2 := ih k (i + 1) v (by omega) (by omega) (by omega)
    simp only [s_CloseAccount_go, s_CloseAccount_body, c, c0, decide_true, if_true, Int.toNat_natCast, wrapS (i := i) (n := l.length) (by omega) (by omega), bindSome, one_set, List.length_singleton, b1, b2, e, e2, hp]
    rw [dropG (l := l) (i := i) (by omega) zA, hp', List.filter_cons]
    by_cases h : (p.1 != id) = true
    · rw [if_pos h, if_pos h]; simp
    · rw [if_neg h, if_neg h]
theorem sClose_go0 {l : List AccountD} {id : Int} (hl : l.length ≤ 1048576) : ∀ (n k i : Nat), n < k → i + n = l.length → s_CloseAccount_go k (.l0 id i (l, ())) = some ((((l.drop i).filter (fun a => a.1 != id), ()), 0, ()), ()) := by
  intro n
  induction n with
  | zero =>
    intro k i hk hi
    obtain ⟨k, rfl⟩ : ∃ k', k = k' + 1 := ⟨k - 1, by omega⟩
    have c : ¬ ((i : Int) < (l.length : Int)) := by omega
    simp only [s_CloseAccount_go, s_CloseAccount_body, c, decide_false, Bool.false_eq_true, if_false]
    rw [List.drop_of_length_le (by omega)]
    simp
  | succ n ih =>
    intro k i hk hi
    obtain ⟨k, rfl⟩ : ∃ k', k = k' + 1 := ⟨k - 1, by omega⟩
    have c : (i : Int) < (l.length : Int) := by omega
    have c0 : (0 : Int) ≤ (i : Int) := by omega
    obtain ⟨p, hp⟩ : ∃ p, l.getD i (0, 0, 0, 0, 0, ()) = p := ⟨_, rfl⟩
    have hp' : l.getD i zA = p := hp
    have e := ih k (i + 1) (by omega) (by omega)
    have e2 := sClose_go1 (id := id) hl n k (i + 1) [p] (by omega) (by omega) (by simp)
    simp only [s_CloseAccount_go, s_CloseAccount_body, c, c0, decide_true, if_true, Int.toNat_natCast, wrapS (i := i) (n := l.length) (by omega) (by omega), bindSome, one_set, e, e2, hp]
    rw [dropG (l := l) (i := i) (by omega) zA, hp', List.filter_cons]
    by_cases h : (p.1 != id) = true
    · rw [if_pos h, if_pos h]; simp
    · rw [if_neg h, if_neg h]
theorem filter_all {id : Int} : ∀ {p : Int} {l : List AccountD}, ordF p l → id ≤ p → l.filter (fun a => a.1 != id) = l := by
  intro p l
  induction l generalizing p with
  | nil => intro _ _; rfl
  | cons a r ih =>
    intro h hp
    have h1 := h.1
    have : (a.1 != id) = true := by simp; omega
    rw [List.filter_cons, if_pos this, ih h.2 (by omega)]
theorem filter_del {id : Int} : ∀ {p : Int} {l : List AccountD}, ordF p l → accIn id l = true → l.filter (fun a => a.1 != id) = l.take (accPos id l) ++ l.drop (accPos id l + 1) := by
  intro p l
  induction l generalizing p with
  | nil => intro _ h; exact absurd h (by simp [accIn])
  | cons a r ih =>
    intro h ht
    have h1 := h.1
    simp only [accIn] at ht
    simp only [accPos]
    by_cases c : a.1 < id
    · rw [if_pos c] at ht ⊢
      have : (a.1 != id) = true := by simp; omega
      rw [List.filter_cons, if_pos this, ih h.2 ht]
      rfl
    · rw [if_neg c] at ht ⊢
      have e := of_decide_eq_true ht
      have : ¬ (a.1 != id) = true := by simp [e]
      rw [List.filter_cons, if_neg this, filter_all h.2 (by omega)]
      rfl
theorem sClose_ok {l : List AccountD} (hl : l.length ≤ 1048576) (hr : bookR l) (id : Int) : s_CloseAccount_fn (l, ()) id = some ((((closeM l id).1, ()), (closeM l id).2, ()), ()) := by
  unfold s_CloseAccount_fn s_CloseAccount_k s_CloseAccount_start closeM
  simp only [of_ok hl hr id 1 (by omega), sCopy_ok hl, Option.bind_some, bindSome]
  by_cases h1 : okBook l = true
  case neg => simp [h1]
  by_cases h2 : accIn id l = true
  case neg => simp [h1, h2]
  have e := sClose_go0 (id := id) hl l.length 10000000 0 (by omega) (by omega)
  rw [List.drop_zero, filter_del (ord_of_ok h1) h2] at e
  obtain ⟨p, hp⟩ : ∃ p, l.getD (accPos id l) zA = p := ⟨_, rfl⟩
  simp only [h1, h2, and_self, if_true, hp]
  by_cases h3 : p.2.2.2.2.1 = 0
  · by_cases h4 : p.2.1 = 0
    · simp only [h3, h4, bne_self_eq_false, Bool.false_eq_true, if_false, if_true]
      exact e
    · simp [h3, h4]
  · simp [h3]
end Go.Proofs.Ytmggpiijahiaiaa.Ev
namespace Go.Proofs.Ytmggpiijahiaiaa.Ev
open Go
set_option linter.unusedVariables false
set_option linter.unusedSimpArgs false
set_option maxRecDepth 100000
def i_doLedger_tab : TTab := [⟨3, (.int .i64), 0⟩, ⟨4, .bool, 0⟩, ⟨40, (.int .u64), 0⟩, ⟨42, tLedgerCall, 0⟩, ⟨47, (.slice tAccount), 40⟩, ⟨49, tBook, 0⟩, ⟨71, tAccount, 0⟩]
abbrev i_doLedger_ps : List Par := [.lent tBook, .lent tLedgerCall]
abbrev i_doLedger_outs : Outs := .many [(.pair (.own tAccount) .unit), (.pure (.int .i64)), (.pure (.int .u64))]
abbrev i_doLedger_R : Type := ((((List (Int × (Int × (Int × (Int × (Int × Unit)))))) × Unit) × (Int × (Int × Unit))) × Unit)
abbrev i_doLedger_T : Ty := .pair (Outs.ty i_doLedger_outs) (mutsTy i_doLedger_ps)
noncomputable def i_doLedger_env : Env := { tab := i_doLedger_tab, fns := [(47, Try.f47)], sigs := [(49, i_isBook_sig), (67, i_copyBook_sig), (68, i_OpenAccount_sig), (69, i_CloseAccount_sig), (70, i_Deposit_sig), (71, i_Withdraw_sig), (72, i_MoveMoney_sig), (73, i_accountOf_sig)] }
def i_doLedger_anns : List Ann := [⟨47, 200019, [3, 4, 7, 8], []⟩, ⟨47, 200022, [4, 7, 8, 11], []⟩]
inductive i_doLedger_H where
  | l0 (v0 : Int) (v1 : LedgerCallD) (v2 : List AccountD)
  | l1 (v0 : Int) (v1 : Int) (v2 : List AccountD)
noncomputable def i_doLedger_cfg : i_doLedger_H → Cfg
  | .l0 v0 v1 v2 => { fr := { fn := 47, fb := 0, ss := sl 105 [(3, (.bptr 0 [])), (4, (.bptr 1 [])), (7, (.bptr 2 [])), (8, (.pv false (.int .i64) v0))], todo := cutAt (bodyOf Try.f47) [false, false, false, true] [] }, cs := [], ob := ofList [.box tLedgerCall (.pv false tLedgerCall v1), .box tBook (.pair .nilv .unit), .box tBook (.pair (.row 3 0) .unit), .row 0 false tAccount v2] }
  | .l1 v0 v1 v2 => { fr := { fn := 47, fb := 0, ss := sl 105 [(4, (.bptr 0 [])), (7, (.bptr 1 [])), (8, (.pv false (.int .i64) v0)), (11, (.pv false (.int .i64) v1))], todo := cutAt (bodyOf Try.f47) [false, false, false, false, false, true] [] }, cs := [], ob := ofList [.box tBook (.pair .nilv .unit), .box tBook (.pair (.row 2 0) .unit), .row 0 false tAccount v2] }
def i_doLedger_body (rec : i_doLedger_H → Option i_doLedger_R) : i_doLedger_H → Option i_doLedger_R
  | .l0 v0 v1 v2 =>
    (i_accountOf_fn (v2, ()) v1.snd.fst).bind fun y8 =>
      if (v0 != 0) = true then
        some (((v2, ()), v0, 0, ()), ())
      else
        if (!y8.fst.snd.fst) = true then
          some (((v2, ()), v0, 0, ()), ())
        else
          (rec (.l1 (v0) (y8.fst.fst) (v2))).bind some
  | .l1 v0 v1 v2 =>
    if (decide (0 ≤ v1)) = true then
      if (decide (v1 < (↑v2.length : Int))) = true then
        some (((v2, ()), v0, (v2.getD v1.toNat (0, 0, 0, 0, 0, ())).snd.fst, ()), ())
      else
        none
    else
      none
def i_doLedger_start (rec : i_doLedger_H → Option i_doLedger_R) (x0 : BookD) (x1 : LedgerCallD) : Option i_doLedger_R :=
  (i_copyBook_fn x0).bind fun y0 =>
    (i_isBook_fn x0).bind fun y1 =>
      if (y1.fst) = true then
        if (x1.fst == 0) = true then
          (i_OpenAccount_fn x0 x1.snd.fst).bind fun y2 =>
            (rec (.l0 (y2.fst.snd.fst) (x1) (y2.fst.fst.fst))).bind some
        else
          if (x1.fst == 1) = true then
            (i_CloseAccount_fn x0 x1.snd.fst).bind fun y3 =>
              (rec (.l0 (y3.fst.snd.fst) (x1) (y3.fst.fst.fst))).bind some
          else
            if (x1.fst == 2) = true then
              (i_Deposit_fn x0 x1.snd.fst x1.snd.snd.snd.fst).bind fun y4 =>
                (rec (.l0 (y4.fst.snd.fst) (x1) (y4.fst.fst.fst))).bind some
            else
              if (x1.fst == 3) = true then
                (i_Withdraw_fn x0 x1.snd.fst x1.snd.snd.snd.fst).bind fun y5 =>
                  (rec (.l0 (y5.fst.snd.fst) (x1) (y5.fst.fst.fst))).bind some
              else
                if (x1.fst == 4) = true then
                  (i_MoveMoney_fn x0 x1.snd.fst x1.snd.snd.fst x1.snd.snd.snd.fst).bind fun y6 =>
                    (rec (.l0 (y6.fst.snd.fst) (x1) (y6.fst.fst.fst))).bind some
                else
                  if (x1.fst == 5) = true then
                    (i_accountOf_fn x0 x1.snd.fst).bind fun y7 =>
                      if (y7.fst.snd.fst) = true then
                        (rec (.l0 (0) (x1) (y0.fst.fst))).bind some
                      else
                        (rec (.l0 (2) (x1) (y0.fst.fst))).bind some
                  else
                    (rec (.l0 (1) (x1) (y0.fst.fst))).bind some
      else
        (rec (.l0 (1) (x1) (y0.fst.fst))).bind some
def i_doLedger_go : Nat → i_doLedger_H → Option i_doLedger_R
  | 0, _ => none
  | k + 1, h => i_doLedger_body (i_doLedger_go k) h
def i_doLedger_k (k : Nat) (x0 : BookD) (x1 : LedgerCallD) : Option i_doLedger_R := i_doLedger_start (i_doLedger_go k) x0 x1
def i_doLedger_fn (x0 : BookD) (x1 : LedgerCallD) : Option i_doLedger_R := i_doLedger_k (10000000) x0 x1
noncomputable def i_doLedger_sig : Sig := { ps := i_doLedger_ps, outs := i_doLedger_outs, fn := fun x => i_doLedger_fn (x.1) (x.2.1) }
theorem i_doLedger_l0_t (rec : Cfg → Option i_doLedger_R) (v0 : Int) (v1 : LedgerCallD) (v2 : List AccountD) : Tr.k (ev i_doLedger_env i_doLedger_anns i_doLedger_sig rec 20000 (i_doLedger_cfg (.l0 v0 v1 v2))) some = ((i_accountOf_fn (v2, ()) v1.snd.fst).bind fun y8 => br (v0 != 0) (some (((v2, ()), v0, 0, ()), ())) (br (!y8.fst.snd.fst) (some (((v2, ()), v0, 0, ()), ())) ((rec (i_doLedger_cfg (.l1 (v0) (y8.fst.fst) (v2)))).bind some)) : Option i_doLedger_R) := by kernel_rfl
theorem i_doLedger_l0 (rec : Cfg → Option i_doLedger_sig.R.D) (v0 : Int) (v1 : LedgerCallD) (v2 : List AccountD) : (ev i_doLedger_env i_doLedger_anns i_doLedger_sig rec 20000 (i_doLedger_cfg (.l0 v0 v1 v2))).run = i_doLedger_body (fun h => rec (i_doLedger_cfg h)) (.l0 v0 v1 v2) := (Tr.k_some _).trans ((i_doLedger_l0_t rec v0 v1 v2).trans (by first | rfl | (simp only [br_ite]; rfl)))
theorem i_doLedger_l1_t (rec : Cfg → Option i_doLedger_R) (v0 : Int) (v1 : Int) (v2 : List AccountD) : Tr.k (ev i_doLedger_env i_doLedger_anns i_doLedger_sig rec 20000 (i_doLedger_cfg (.l1 v0 v1 v2))) some = (br (decide (0 ≤ v1)) (br (decide (v1 < (↑v2.length : Int))) (some (((v2, ()), v0, (v2.getD v1.toNat (0, 0, 0, 0, 0, ())).snd.fst, ()), ())) (none)) (none) : Option i_doLedger_R) := by kernel_rfl
theorem i_doLedger_l1 (rec : Cfg → Option i_doLedger_sig.R.D) (v0 : Int) (v1 : Int) (v2 : List AccountD) : (ev i_doLedger_env i_doLedger_anns i_doLedger_sig rec 20000 (i_doLedger_cfg (.l1 v0 v1 v2))).run = i_doLedger_body (fun h => rec (i_doLedger_cfg h)) (.l1 v0 v1 v2) := (Tr.k_some _).trans ((i_doLedger_l1_t rec v0 v1 v2).trans (by first | rfl | (simp only [br_ite]; rfl)))
theorem i_doLedger_begin_t (rec : Cfg → Option i_doLedger_R) (x0 : BookD) (x1 : LedgerCallD) : Tr.k (ev i_doLedger_env i_doLedger_anns i_doLedger_sig rec 20000 (entry i_doLedger_sig 47 Try.f47 (bodyOf Try.f47) (x0, x1, ()))) some = ((i_copyBook_fn x0).bind fun y0 => (i_isBook_fn x0).bind fun y1 => br (y1.fst) (br (x1.fst == 0) ((i_OpenAccount_fn x0 x1.snd.fst).bind fun y2 => (rec (i_doLedger_cfg (.l0 (y2.fst.snd.fst) (x1) (y2.fst.fst.fst)))).bind some) (br (x1.fst == 1) ((i_CloseAccount_fn x0 x1.snd.fst).bind fun y3 => (rec (i_doLedger_cfg (.l0 (y3.fst.snd.fst) (x1) (y3.fst.fst.fst)))).bind some) (br (x1.fst == 2) ((i_Deposit_fn x0 x1.snd.fst x1.snd.snd.snd.fst).bind fun y4 => (rec (i_doLedger_cfg (.l0 (y4.fst.snd.fst) (x1) (y4.fst.fst.fst)))).bind some) (br (x1.fst == 3) ((i_Withdraw_fn x0 x1.snd.fst x1.snd.snd.snd.fst).bind fun y5 => (rec (i_doLedger_cfg (.l0 (y5.fst.snd.fst) (x1) (y5.fst.fst.fst)))).bind some) (br (x1.fst == 4) ((i_MoveMoney_fn x0 x1.snd.fst x1.snd.snd.fst x1.snd.snd.snd.fst).bind fun y6 => (rec (i_doLedger_cfg (.l0 (y6.fst.snd.fst) (x1) (y6.fst.fst.fst)))).bind some) (br (x1.fst == 5) ((i_accountOf_fn x0 x1.snd.fst).bind fun y7 => br (y7.fst.snd.fst) ((rec (i_doLedger_cfg (.l0 (0) (x1) (y0.fst.fst)))).bind some) ((rec (i_doLedger_cfg (.l0 (2) (x1) (y0.fst.fst)))).bind some)) ((rec (i_doLedger_cfg (.l0 (1) (x1) (y0.fst.fst)))).bind some))))))) ((rec (i_doLedger_cfg (.l0 (1) (x1) (y0.fst.fst)))).bind some) : Option i_doLedger_R) := by kernel_rfl
theorem i_doLedger_begin (rec : Cfg → Option i_doLedger_sig.R.D) (x0 : BookD) (x1 : LedgerCallD) : (ev i_doLedger_env i_doLedger_anns i_doLedger_sig rec 20000 (entry i_doLedger_sig 47 Try.f47 (bodyOf Try.f47) (x0, x1, ()))).run = i_doLedger_start (fun h => rec (i_doLedger_cfg h)) x0 x1 := (Tr.k_some _).trans ((i_doLedger_begin_t rec x0 x1).trans (by first | rfl | (simp only [br_ite]; rfl)))
theorem i_doLedger_tab_ok : i_doLedger_tab.ok Try.prog = true := by decide +kernel
theorem i_doLedger_env_ok : (i_doLedger_env).Ok Try.prog where
  mixed := by decide +kernel
  tab := i_doLedger_tab_ok
  fns := by
    intro p hp
    simp only [i_doLedger_env, List.mem_cons, List.not_mem_nil, or_false] at hp
    subst hp
    · exact ⟨Try.func47, by decide +kernel⟩
  sigs := by
    intro p hp
    simp only [i_doLedger_env, List.mem_cons, List.not_mem_nil, or_false] at hp
    rcases hp with rfl | rfl | rfl | rfl | rfl | rfl | rfl | rfl
    · exact ⟨i_isBook_meets, _, Try.func49, by decide +kernel⟩
    · exact ⟨i_copyBook_meets, _, Try.func67, by decide +kernel⟩
    · exact ⟨i_OpenAccount_meets, _, Try.func68, by decide +kernel⟩
    · exact ⟨i_CloseAccount_meets, _, Try.func69, by decide +kernel⟩
    · exact ⟨i_Deposit_meets, _, Try.func70, by decide +kernel⟩
    · exact ⟨i_Withdraw_meets, _, Try.func71, by decide +kernel⟩
    · exact ⟨i_MoveMoney_meets, _, Try.func72, by decide +kernel⟩
    · exact ⟨i_accountOf_meets, _, Try.func73, by decide +kernel⟩
  exts := by
    intro p hp
    simp only [i_doLedger_env, List.mem_cons, List.not_mem_nil, or_false] at hp
theorem i_doLedger_run (k : Nat) (h : i_doLedger_H) : Om i_doLedger_env i_doLedger_anns i_doLedger_sig 20000 k (i_doLedger_cfg h) = i_doLedger_go k h :=
  Om_go (sg := i_doLedger_sig) (cfg := i_doLedger_cfg) (body := i_doLedger_body) (go := i_doLedger_go) (fun _ => rfl) (fun _ _ => rfl) (fun rec h => by
  cases h with
  | l0 v0 v1 v2 => exact i_doLedger_l0 rec v0 v1 v2
  | l1 v0 v1 v2 => exact i_doLedger_l1 rec v0 v1 v2) k h
theorem i_doLedger_meets : Meets Try.prog 47 i_doLedger_sig := by
  refine meets (anns := i_doLedger_anns) (N := 20000) i_doLedger_env_ok Try.func47 (body := bodyOf Try.f47) (by rfl) ?_
  rintro ⟨x0, x1, ⟨⟩⟩ r hr
  refine ⟨10000000, ?_⟩
  show (ev i_doLedger_env i_doLedger_anns i_doLedger_sig (Om i_doLedger_env i_doLedger_anns i_doLedger_sig 20000 (10000000)) 20000 (entry i_doLedger_sig 47 Try.f47 (bodyOf Try.f47) (x0, x1, ()))).run = some r
  rw [i_doLedger_begin]
  have e : (fun h => Om i_doLedger_env i_doLedger_anns i_doLedger_sig 20000 (10000000) (i_doLedger_cfg h)) = i_doLedger_go (10000000) := funext fun h => i_doLedger_run _ h
  rw [e]
  exact hr
end Go.Proofs.Ytmggpiijahiaiaa.Ev
namespace Go.Proofs.Ytmggpiijahiaiaa.Ev
open Go
set_option linter.unusedVariables false
set_option linter.unusedSimpArgs false
set_option maxRecDepth 100000
def s_DoLedger_tab : TTab := [⟨3, (.int .i64), 0⟩, ⟨4, .bool, 0⟩, ⟨40, (.int .u64), 0⟩, ⟨42, tLedgerCall, 0⟩, ⟨47, (.slice tAccount), 40⟩, ⟨49, tBook, 0⟩, ⟨71, tAccount, 0⟩]
abbrev s_DoLedger_ps : List Par := [.lent tBook, .lent tLedgerCall]
abbrev s_DoLedger_outs : Outs := .many [(.pair (.own tAccount) .unit), (.pure (.int .i64)), (.pure (.int .u64))]
abbrev s_DoLedger_R : Type := ((((List (Int × (Int × (Int × (Int × (Int × Unit)))))) × Unit) × (Int × (Int × Unit))) × Unit)
abbrev s_DoLedger_T : Ty := .pair (Outs.ty s_DoLedger_outs) (mutsTy s_DoLedger_ps)
noncomputable def s_DoLedger_env : Env := { tab := s_DoLedger_tab, fns := [(66, Try.f66)], sigs := [(48, s_l10Copy_sig), (80, s_BookOk_sig), (81, s_OpenAccount_sig), (82, s_CloseAccount_sig), (83, s_Deposit_sig), (84, s_Withdraw_sig), (85, s_MoveMoney_sig), (86, s_l10Find_sig)] }
def s_DoLedger_anns : List Ann := [⟨66, 200020, [3, 4, 7, 8], []⟩, ⟨66, 200023, [4, 7, 8, 9], []⟩]
inductive s_DoLedger_H where
  | l0 (v0 : Int) (v1 : LedgerCallD) (v2 : List AccountD)
  | l1 (v0 : Int) (v1 : Int) (v2 : List AccountD)
noncomputable def s_DoLedger_cfg : s_DoLedger_H → Cfg
  | .l0 v0 v1 v2 => { fr := { fn := 66, fb := 0, ss := sl 99 [(3, (.bptr 0 [])), (4, (.bptr 1 [])), (7, (.pv false (.int .i64) v0)), (8, (.bptr 2 []))], todo := cutAt (bodyOf Try.f66) [false, false, false, false, false, true] [] }, cs := [], ob := ofList [.box tLedgerCall (.pv false tLedgerCall v1), .box tBook (.pair .nilv .unit), .box tBook (.pair (.row 3 0) .unit), .row 0 false tAccount v2] }
  | .l1 v0 v1 v2 => { fr := { fn := 66, fb := 0, ss := sl 99 [(4, (.bptr 0 [])), (7, (.pv false (.int .i64) v0)), (8, (.bptr 1 [])), (9, (.pv false (.int .i64) v1))], todo := cutAt (bodyOf Try.f66) [false, false, false, false, false, false, false, true] [] }, cs := [], ob := ofList [.box tBook (.pair .nilv .unit), .box tBook (.pair (.row 2 0) .unit), .row 0 false tAccount v2] }
def s_DoLedger_body (rec : s_DoLedger_H → Option s_DoLedger_R) : s_DoLedger_H → Option s_DoLedger_R
  | .l0 v0 v1 v2 =>
    (s_l10Find_fn (v2, ()) v1.snd.fst).bind fun y8 =>
      if (v0 != 0) = true then
        some (((v2, ()), v0, 0, ()), ())
      else
        if (decide (y8.fst < 0)) = true then
          some (((v2, ()), v0, 0, ()), ())
        else
          (rec (.l1 (v0) (y8.fst) (v2))).bind some
  | .l1 v0 v1 v2 =>
    if (decide (0 ≤ v1)) = true then
      if (decide (v1 < (↑v2.length : Int))) = true then
        some (((v2, ()), v0, (v2.getD v1.toNat (0, 0, 0, 0, 0, ())).snd.fst, ()), ())
      else
        none
    else
      none
def s_DoLedger_start (rec : s_DoLedger_H → Option s_DoLedger_R) (x0 : BookD) (x1 : LedgerCallD) : Option s_DoLedger_R :=
  (s_l10Copy_fn x0).bind fun y0 =>
    (s_BookOk_fn x0).bind fun y1 =>
      if (!y1.fst) = true then
        some (((y0.fst.fst, ()), 1, 0, ()), ())
      else
        if (x1.fst == 0) = true then
          (s_OpenAccount_fn x0 x1.snd.fst).bind fun y2 =>
            (rec (.l0 (y2.fst.snd.fst) (x1) (y2.fst.fst.fst))).bind some
        else
          if (x1.fst == 1) = true then
            (s_CloseAccount_fn x0 x1.snd.fst).bind fun y3 =>
              (rec (.l0 (y3.fst.snd.fst) (x1) (y3.fst.fst.fst))).bind some
          else
            if (x1.fst == 2) = true then
              (s_Deposit_fn x0 x1.snd.fst x1.snd.snd.snd.fst).bind fun y4 =>
                (rec (.l0 (y4.fst.snd.fst) (x1) (y4.fst.fst.fst))).bind some
            else
              if (x1.fst == 3) = true then
                (s_Withdraw_fn x0 x1.snd.fst x1.snd.snd.snd.fst).bind fun y5 =>
                  (rec (.l0 (y5.fst.snd.fst) (x1) (y5.fst.fst.fst))).bind some
              else
                if (x1.fst == 4) = true then
                  (s_MoveMoney_fn x0 x1.snd.fst x1.snd.snd.fst x1.snd.snd.snd.fst).bind fun y6 =>
                    (rec (.l0 (y6.fst.snd.fst) (x1) (y6.fst.fst.fst))).bind some
                else
                  if (x1.fst == 5) = true then
                    (s_l10Find_fn x0 x1.snd.fst).bind fun y7 =>
                      if (decide (y7.fst < 0)) = true then
                        (rec (.l0 (2) (x1) (y0.fst.fst))).bind some
                      else
                        (rec (.l0 (0) (x1) (y0.fst.fst))).bind some
                  else
                    (rec (.l0 (1) (x1) (y0.fst.fst))).bind some
def s_DoLedger_go : Nat → s_DoLedger_H → Option s_DoLedger_R
  | 0, _ => none
  | k + 1, h => s_DoLedger_body (s_DoLedger_go k) h
def s_DoLedger_k (k : Nat) (x0 : BookD) (x1 : LedgerCallD) : Option s_DoLedger_R := s_DoLedger_start (s_DoLedger_go k) x0 x1
def s_DoLedger_fn (x0 : BookD) (x1 : LedgerCallD) : Option s_DoLedger_R := s_DoLedger_k (10000000) x0 x1
noncomputable def s_DoLedger_sig : Sig := { ps := s_DoLedger_ps, outs := s_DoLedger_outs, fn := fun x => s_DoLedger_fn (x.1) (x.2.1) }
theorem s_DoLedger_l0_t (rec : Cfg → Option s_DoLedger_R) (v0 : Int) (v1 : LedgerCallD) (v2 : List AccountD) : Tr.k (ev s_DoLedger_env s_DoLedger_anns s_DoLedger_sig rec 20000 (s_DoLedger_cfg (.l0 v0 v1 v2))) some = ((s_l10Find_fn (v2, ()) v1.snd.fst).bind fun y8 => br (v0 != 0) (some (((v2, ()), v0, 0, ()), ())) (br (decide (y8.fst < 0)) (some (((v2, ()), v0, 0, ()), ())) ((rec (s_DoLedger_cfg (.l1 (v0) (y8.fst) (v2)))).bind some)) : Option s_DoLedger_R) := by kernel_rfl
theorem s_DoLedger_l0 (rec : Cfg → Option s_DoLedger_sig.R.D) (v0 : Int) (v1 : LedgerCallD) (v2 : List AccountD) : (ev s_DoLedger_env s_DoLedger_anns s_DoLedger_sig rec 20000 (s_DoLedger_cfg (.l0 v0 v1 v2))).run = s_DoLedger_body (fun h => rec (s_DoLedger_cfg h)) (.l0 v0 v1 v2) := (Tr.k_some _).trans ((s_DoLedger_l0_t rec v0 v1 v2).trans (by first | rfl | (simp only [br_ite]; rfl)))
theorem s_DoLedger_l1_t (rec : Cfg → Option s_DoLedger_R) (v0 : Int) (v1 : Int) (v2 : List AccountD) : Tr.k (ev s_DoLedger_env s_DoLedger_anns s_DoLedger_sig rec 20000 (s_DoLedger_cfg (.l1 v0 v1 v2))) some = (br (decide (0 ≤ v1)) (br (decide (v1 < (↑v2.length : Int))) (some (((v2, ()), v0, (v2.getD v1.toNat (0, 0, 0, 0, 0, ())).snd.fst, ()), ())) (none)) (none) : Option s_DoLedger_R) := by kernel_rfl
theorem s_DoLedger_l1 (rec : Cfg → Option s_DoLedger_sig.R.D) (v0 : Int) (v1 : Int) (v2 : List AccountD) : (ev s_DoLedger_env s_DoLedger_anns s_DoLedger_sig rec 20000 (s_DoLedger_cfg (.l1 v0 v1 v2))).run = s_DoLedger_body (fun h => rec (s_DoLedger_cfg h)) (.l1 v0 v1 v2) := (Tr.k_some _).trans ((s_DoLedger_l1_t rec v0 v1 v2).trans (by first | rfl | (simp only [br_ite]; rfl)))
theorem s_DoLedger_begin_t (rec : Cfg → Option s_DoLedger_R) (x0 : BookD) (x1 : LedgerCallD) : Tr.k (ev s_DoLedger_env s_DoLedger_anns s_DoLedger_sig rec 20000 (entry s_DoLedger_sig 66 Try.f66 (bodyOf Try.f66) (x0, x1, ()))) some = ((s_l10Copy_fn x0).bind fun y0 => (s_BookOk_fn x0).bind fun y1 => br (!y1.fst) (some (((y0.fst.fst, ()), 1, 0, ()), ())) (br (x1.fst == 0) ((s_OpenAccount_fn x0 x1.snd.fst).bind fun y2 => (rec (s_DoLedger_cfg (.l0 (y2.fst.snd.fst) (x1) (y2.fst.fst.fst)))).bind some) (br (x1.fst == 1) ((s_CloseAccount_fn x0 x1.snd.fst).bind fun y3 => (rec (s_DoLedger_cfg (.l0 (y3.fst.snd.fst) (x1) (y3.fst.fst.fst)))).bind some) (br (x1.fst == 2) ((s_Deposit_fn x0 x1.snd.fst x1.snd.snd.snd.fst).bind fun y4 => (rec (s_DoLedger_cfg (.l0 (y4.fst.snd.fst) (x1) (y4.fst.fst.fst)))).bind some) (br (x1.fst == 3) ((s_Withdraw_fn x0 x1.snd.fst x1.snd.snd.snd.fst).bind fun y5 => (rec (s_DoLedger_cfg (.l0 (y5.fst.snd.fst) (x1) (y5.fst.fst.fst)))).bind some) (br (x1.fst == 4) ((s_MoveMoney_fn x0 x1.snd.fst x1.snd.snd.fst x1.snd.snd.snd.fst).bind fun y6 => (rec (s_DoLedger_cfg (.l0 (y6.fst.snd.fst) (x1) (y6.fst.fst.fst)))).bind some) (br (x1.fst == 5) ((s_l10Find_fn x0 x1.snd.fst).bind fun y7 => br (decide (y7.fst < 0)) ((rec (s_DoLedger_cfg (.l0 (2) (x1) (y0.fst.fst)))).bind some) ((rec (s_DoLedger_cfg (.l0 (0) (x1) (y0.fst.fst)))).bind some)) ((rec (s_DoLedger_cfg (.l0 (1) (x1) (y0.fst.fst)))).bind some))))))) : Option s_DoLedger_R) := by kernel_rfl
theorem s_DoLedger_begin (rec : Cfg → Option s_DoLedger_sig.R.D) (x0 : BookD) (x1 : LedgerCallD) : (ev s_DoLedger_env s_DoLedger_anns s_DoLedger_sig rec 20000 (entry s_DoLedger_sig 66 Try.f66 (bodyOf Try.f66) (x0, x1, ()))).run = s_DoLedger_start (fun h => rec (s_DoLedger_cfg h)) x0 x1 := (Tr.k_some _).trans ((s_DoLedger_begin_t rec x0 x1).trans (by first | rfl | (simp only [br_ite]; rfl)))
theorem s_DoLedger_tab_ok : s_DoLedger_tab.ok Try.prog = true := by decide +kernel
theorem s_DoLedger_env_ok : (s_DoLedger_env).Ok Try.prog where
  mixed := by decide +kernel
  tab := s_DoLedger_tab_ok
  fns := by
    intro p hp
    simp only [s_DoLedger_env, List.mem_cons, List.not_mem_nil, or_false] at hp
    subst hp
    · exact ⟨Try.func66, by decide +kernel⟩
  sigs := by
    intro p hp
    simp only [s_DoLedger_env, List.mem_cons, List.not_mem_nil, or_false] at hp
    rcases hp with rfl | rfl | rfl | rfl | rfl | rfl | rfl | rfl
    · exact ⟨s_l10Copy_meets, _, Try.func48, by decide +kernel⟩
    · exact ⟨s_BookOk_meets, _, Try.func80, by decide +kernel⟩
    · exact ⟨s_OpenAccount_meets, _, Try.func81, by decide +kernel⟩
    · exact ⟨s_CloseAccount_meets, _, Try.func82, by decide +kernel⟩
    · exact ⟨s_Deposit_meets, _, Try.func83, by decide +kernel⟩
    · exact ⟨s_Withdraw_meets, _, Try.func84, by decide +kernel⟩
    · exact ⟨s_MoveMoney_meets, _, Try.func85, by decide +kernel⟩
    · exact ⟨s_l10Find_meets, _, Try.func86, by decide +kernel⟩
  exts := by
    intro p hp
    simp only [s_DoLedger_env, List.mem_cons, List.not_mem_nil, or_false] at hp
theorem s_DoLedger_run (k : Nat) (h : s_DoLedger_H) : Om s_DoLedger_env s_DoLedger_anns s_DoLedger_sig 20000 k (s_DoLedger_cfg h) = s_DoLedger_go k h :=
  Om_go (sg := s_DoLedger_sig) (cfg := s_DoLedger_cfg) (body := s_DoLedger_body) (go := s_DoLedger_go) (fun _ => rfl) (fun _ _ => rfl) (fun rec h => by
  cases h with
  | l0 v0 v1 v2 => exact s_DoLedger_l0 rec v0 v1 v2
  | l1 v0 v1 v2 => exact s_DoLedger_l1 rec v0 v1 v2) k h
theorem s_DoLedger_meets : Meets Try.prog 66 s_DoLedger_sig := by
  refine meets (anns := s_DoLedger_anns) (N := 20000) s_DoLedger_env_ok Try.func66 (body := bodyOf Try.f66) (by rfl) ?_
  rintro ⟨x0, x1, ⟨⟩⟩ r hr
  refine ⟨10000000, ?_⟩
  show (ev s_DoLedger_env s_DoLedger_anns s_DoLedger_sig (Om s_DoLedger_env s_DoLedger_anns s_DoLedger_sig 20000 (10000000)) 20000 (entry s_DoLedger_sig 66 Try.f66 (bodyOf Try.f66) (x0, x1, ()))).run = some r
  rw [s_DoLedger_begin]
  have e : (fun h => Om s_DoLedger_env s_DoLedger_anns s_DoLedger_sig 20000 (10000000) (s_DoLedger_cfg h)) = s_DoLedger_go (10000000) := funext fun h => s_DoLedger_run _ h
  rw [e]
  exact hr
end Go.Proofs.Ytmggpiijahiaiaa.Ev
/- The plain law of the books: deposits, withdrawals, moves; and what a call does with a book. -/
namespace Go.Proofs.Ytmggpiijahiaiaa.Ev
open Go Go.IntWalk
set_option linter.unusedVariables false
set_option linter.unusedSimpArgs false

theorem okA_at : ∀ {p : Int} {l : List AccountD} {i : Nat}, okFrom p l = true → i < l.length → okA (l.getD i zA) = true := by
  intro p l
  induction l generalizing p with
  | nil => intro i _ h; simp at h
  | cons a r ih =>
    intro i h hi
    simp only [okFrom, Bool.and_eq_true] at h
    cases i with
    | zero => exact h.1.1
    | succ i => rw [List.getD_cons_succ]; exact ih h.2 (by simpa using hi)
theorem book_okA {l : List AccountD} (h : okBook l = true) {i : Nat} (hi : i < l.length) : okA (l.getD i zA) = true := by
  unfold okBook at h
  rw [Bool.and_eq_true] at h
  exact okA_at h.1 hi
def addB (a : AccountD) (n : Int) : AccountD := (a.1, a.2.1 + n, a.2.2)
def depositM (l : List AccountD) (id n : Int) : List AccountD × Int :=
  if okBook l = true then (if accIn id l = true then
    (if (l.getD (accPos id l) zA).2.2.2.2.1 = 0 then (if (l.getD (accPos id l) zA).2.1 + n ≤ 18446744073709551615 then (l.set (accPos id l) (addB (l.getD (accPos id l) zA) n), 0) else (l, 5)) else (l, 6))
    else (l, 2)) else (l, 1)
def withdrawM (l : List AccountD) (id n : Int) : List AccountD × Int :=
  if okBook l = true then (if accIn id l = true then
    (if (l.getD (accPos id l) zA).2.2.2.2.1 = 0 then (if n ≤ (l.getD (accPos id l) zA).2.1 then (l.set (accPos id l) (addB (l.getD (accPos id l) zA) (-n)), 0) else (l, 4)) else (l, 6))
    else (l, 2)) else (l, 1)
theorem addOver {b n : Int} (hb : u64r b) (hn : u64r n) : (IntKind.u64.wrap (b + n) < b) ↔ ¬ (b + n ≤ 18446744073709551615) := by
  unfold u64r at hb hn
  rw [IntKind.wrap_u64]
  omega
theorem addOver' {b n : Int} (hb : u64r b) (hn : u64r n) : (IntKind.u64.wrap (b + n) < n) ↔ ¬ (b + n ≤ 18446744073709551615) := by
  unfold u64r at hb hn
  rw [IntKind.wrap_u64]
  omega
theorem addOver2 {b n : Int} (hb : u64r b) (hn : u64r n) : (n > IntKind.u64.wrap (18446744073709551615 - b)) ↔ ¬ (b + n ≤ 18446744073709551615) := by
  unfold u64r at hb hn
  rw [IntKind.wrap_u64]
  omega
theorem iDeposit_ok {l : List AccountD} (hl : l.length ≤ 1048576) (hr : bookR l) (id : Int) {n : Int} (hn : u64r n) : i_Deposit_fn (l, ()) id n = some ((((depositM l id n).1, ()), (depositM l id n).2, ()), ()) := by
  unfold i_Deposit_fn i_Deposit_k i_Deposit_start depositM
  obtain ⟨k, hk⟩ : ∃ k, (10000000 : Nat) = k + 1 := ⟨9999999, rfl⟩
  rw [hk]
  simp only [copyBook_ok hl, accountOf_ok hl, isBook_ok hl hr, Option.bind_some, bindSome, i_Deposit_go, i_Deposit_body]
  by_cases h1 : okBook l = true
  case neg => simp [h1]
  by_cases h2 : accIn id l = true
  case neg => simp [h1, h2]
  have hp := pos_lt h2
  have q1 : (0 : Int) ≤ (accPos id l : Int) := by omega
  have q2 : (accPos id l : Int) < (l.length : Int) := by omega
  have ha := bookR_at hr hp
  obtain ⟨p, hp1⟩ : ∃ p, l.getD (accPos id l) (0, 0, 0, 0, 0, ()) = p := ⟨_, rfl⟩
  have hp2 : l.getD (accPos id l) zA = p := hp1
  rw [hp2] at ha
  simp only [h1, h2, q1, q2, if_true, decide_true, Bool.not_true, Bool.false_eq_true, if_false, Int.toNat_natCast, hp1, hp2, List.length_set, getD_set_same hp, decide_eq_true_eq, addOver ha.2.1 hn]
  by_cases h3 : p.2.2.2.2.1 = 0
  · by_cases h4 : p.2.1 + n ≤ 18446744073709551615
    · have w : IntKind.u64.wrap (p.2.1 + n) = p.2.1 + n := u64_in _ ⟨by have := ha.2.1.1; have := hn.1; omega, h4⟩
      simp [h3, h4, w, addB]
    · simp [h3, h4]
  · simp [h3]
theorem sDeposit_ok {l : List AccountD} (hl : l.length ≤ 1048576) (hr : bookR l) (id : Int) {n : Int} (hn : u64r n) : s_Deposit_fn (l, ()) id n = some ((((depositM l id n).1, ()), (depositM l id n).2, ()), ()) := by
  unfold s_Deposit_fn s_Deposit_k s_Deposit_start depositM
  simp only [of_ok hl hr id 1 (by omega), sCopy_ok hl, with_ok hl, Option.bind_some]
  by_cases h1 : okBook l = true
  case neg => simp [h1]
  by_cases h2 : accIn id l = true
  case neg => simp [h1, h2]
  have hp := pos_lt h2
  have ha := bookR_at hr hp
  have hid := pos_id h2
  obtain ⟨p, hp2⟩ : ∃ p, l.getD (accPos id l) zA = p := ⟨_, rfl⟩
  rw [hp2] at ha hid
  simp only [h1, h2, and_self, if_true, hp2, decide_eq_true_eq, addOver2 ha.2.1 hn]
  by_cases h3 : p.2.2.2.2.1 = 0
  · by_cases h4 : p.2.1 + n ≤ 18446744073709551615
    · have w : IntKind.u64.wrap (p.2.1 + n) = p.2.1 + n := u64_in _ ⟨by have := ha.2.1.1; have := hn.1; omega, h4⟩
      have e := with_set (a := (p.1, p.2.1 + n, p.2.2)) (ord_of_ok h1) (by rw [hid]; exact h2)
      simp only [hid] at e
      simp [h3, h4, w, addB, hid, e]
    · simp [h3, h4]
  · simp [h3]
theorem iWithdraw_ok {l : List AccountD} (hl : l.length ≤ 1048576) (hr : bookR l) (id : Int) {n : Int} (hn : u64r n) : i_Withdraw_fn (l, ()) id n = some ((((withdrawM l id n).1, ()), (withdrawM l id n).2, ()), ()) := by
  unfold i_Withdraw_fn i_Withdraw_k i_Withdraw_start withdrawM
  obtain ⟨k, hk⟩ : ∃ k, (10000000 : Nat) = k + 1 := ⟨9999999, rfl⟩
  rw [hk]
  simp only [copyBook_ok hl, accountOf_ok hl, isBook_ok hl hr, Option.bind_some, bindSome, i_Withdraw_go, i_Withdraw_body]
  by_cases h1 : okBook l = true
  case neg => simp [h1]
  by_cases h2 : accIn id l = true
  case neg => simp [h1, h2]
  have hp := pos_lt h2
  have q1 : (0 : Int) ≤ (accPos id l : Int) := by omega
  have q2 : (accPos id l : Int) < (l.length : Int) := by omega
  have ha := bookR_at hr hp
  obtain ⟨p, hp1⟩ : ∃ p, l.getD (accPos id l) (0, 0, 0, 0, 0, ()) = p := ⟨_, rfl⟩
  have hp2 : l.getD (accPos id l) zA = p := hp1
  rw [hp2] at ha
  simp only [h1, h2, q1, q2, if_true, decide_true, Bool.not_true, Bool.false_eq_true, if_false, Int.toNat_natCast, hp1, hp2, List.length_set, getD_set_same hp, decide_eq_true_eq]
  by_cases h3 : p.2.2.2.2.1 = 0
  · by_cases h4 : n ≤ p.2.1
    · have w : IntKind.u64.wrap (p.2.1 - n) = p.2.1 + -n := by
        have := ha.2.1.2; have := hn.1
        rw [u64_in _ ⟨by omega, by omega⟩]; omega
      have h4' : ¬ p.2.1 < n := by omega
      simp [h3, h4, h4', w, addB]
    · have h4' : p.2.1 < n := by omega
      simp [h3, h4, h4']
  · simp [h3]
theorem sWithdraw_ok {l : List AccountD} (hl : l.length ≤ 1048576) (hr : bookR l) (id : Int) {n : Int} (hn : u64r n) : s_Withdraw_fn (l, ()) id n = some ((((withdrawM l id n).1, ()), (withdrawM l id n).2, ()), ()) := by
  unfold s_Withdraw_fn s_Withdraw_k s_Withdraw_start withdrawM
  simp only [of_ok hl hr id 1 (by omega), sCopy_ok hl, with_ok hl, Option.bind_some]
  by_cases h1 : okBook l = true
  case neg => simp [h1]
  by_cases h2 : accIn id l = true
  case neg => simp [h1, h2]
  have hp := pos_lt h2
  have ha := bookR_at hr hp
  have hid := pos_id h2
  obtain ⟨p, hp2⟩ : ∃ p, l.getD (accPos id l) zA = p := ⟨_, rfl⟩
  rw [hp2] at ha hid
  simp only [h1, h2, and_self, if_true, hp2, decide_eq_true_eq]
  by_cases h3 : p.2.2.2.2.1 = 0
  · by_cases h4 : n ≤ p.2.1
    · have w : IntKind.u64.wrap (p.2.1 - n) = p.2.1 + -n := by
        have := ha.2.1.2; have := hn.1
        rw [u64_in _ ⟨by omega, by omega⟩]; omega
      have h4' : ¬ n > p.2.1 := by omega
      have e := with_set (a := (p.1, p.2.1 + -n, p.2.2)) (ord_of_ok h1) (by rw [hid]; exact h2)
      simp only [hid] at e
      simp [h3, h4, h4', w, addB, hid, e]
    · have h4' : n > p.2.1 := by omega
      simp [h3, h4, h4']
  · simp [h3]
def moveM (l : List AccountD) (x y n : Int) : List AccountD × Int :=
  if okBook l = true ∧ x ≠ y then (if accIn x l = true ∧ accIn y l = true then
    (if (l.getD (accPos x l) zA).2.2.2.2.1 = 0 ∧ (l.getD (accPos y l) zA).2.2.2.2.1 = 0 then (if n ≤ (l.getD (accPos x l) zA).2.1 then
      (if (l.getD (accPos y l) zA).2.1 + n ≤ 18446744073709551615 then ((l.set (accPos x l) (addB (l.getD (accPos x l) zA) (-n))).set (accPos y l) (addB (l.getD (accPos y l) zA) n), 0) else (l, 5)) else (l, 4)) else (l, 6))
    else (l, 2)) else (l, 1)
theorem pos_ne {x y : Int} {l : List AccountD} (hx : accIn x l = true) (hy : accIn y l = true) (h : x ≠ y) : accPos x l ≠ accPos y l := by
  intro e
  have h1 := pos_id hx
  have h2 := pos_id hy
  rw [e, h2] at h1
  exact h h1.symm
theorem getD_set_ne {l : List AccountD} {i j : Nat} (h : i ≠ j) (a z : AccountD) : (l.set i a).getD j z = l.getD j z := by
  rw [List.getD_eq_getElem?_getD, List.getD_eq_getElem?_getD, List.getElem?_set_ne h]
theorem iMove_ok {l : List AccountD} (hl : l.length ≤ 1048576) (hr : bookR l) (x y : Int) {n : Int} (hn : u64r n) : i_MoveMoney_fn (l, ()) x y n = some ((((moveM l x y n).1, ()), (moveM l x y n).2, ()), ()) := by
  unfold i_MoveMoney_fn i_MoveMoney_k i_MoveMoney_start moveM
  obtain ⟨k, hk⟩ : ∃ k, (10000000 : Nat) = k + 4 := ⟨9999996, rfl⟩
  rw [hk]
  simp only [copyBook_ok hl, accountOf_ok hl, isBook_ok hl hr, Option.bind_some, bindSome, i_MoveMoney_go, i_MoveMoney_body]
  by_cases h1 : okBook l = true
  case neg => simp [h1]
  by_cases h0 : x = y
  · simp [h1, h0]
  by_cases h2 : accIn x l = true
  case neg => simp [h1, h0, h2]
  by_cases h3 : accIn y l = true
  case neg => simp [h1, h0, h2, h3]
  have hne := pos_ne h2 h3 h0
  have hx := pos_lt h2
  have hy := pos_lt h3
  have q1 : (0 : Int) ≤ (accPos x l : Int) := by omega
  have q2 : (accPos x l : Int) < (l.length : Int) := by omega
  have q3 : (0 : Int) ≤ (accPos y l : Int) := by omega
  have q4 : (accPos y l : Int) < (l.length : Int) := by omega
  have ha := bookR_at hr hx
  have hb := bookR_at hr hy
  obtain ⟨p, hp1⟩ : ∃ p, l.getD (accPos x l) (0, 0, 0, 0, 0, ()) = p := ⟨_, rfl⟩
  have hp2 : l.getD (accPos x l) zA = p := hp1
  obtain ⟨q, hq1⟩ : ∃ q, l.getD (accPos y l) (0, 0, 0, 0, 0, ()) = q := ⟨_, rfl⟩
  have hq2 : l.getD (accPos y l) zA = q := hq1
  rw [hp2] at ha
  rw [hq2] at hb
  have hxy : (x == y) = false := by simp [h0]
  simp only [h1, h2, h3, hxy, q1, q2, q3, q4, if_true, decide_true, Bool.not_true, Bool.false_eq_true, if_false, Int.toNat_natCast, hp1, hp2, hq1, hq2, List.length_set, getD_set_ne hne, decide_eq_true_eq, addOver' hb.2.1 hn, ne_eq, h0, not_false_iff, and_self, and_true]
  by_cases h4 : p.2.2.2.2.1 = 0
  case neg => simp [h4]
  by_cases h5 : q.2.2.2.2.1 = 0
  case neg => simp [h4, h5]
  by_cases h6 : n ≤ p.2.1
  case neg =>
    have h6' : p.2.1 < n := by omega
    simp [h4, h5, h6, h6']
  have h6' : ¬ p.2.1 < n := by omega
  by_cases h7 : q.2.1 + n ≤ 18446744073709551615
  case neg => simp [h4, h5, h6, h6', h7]
  have w1 : IntKind.u64.wrap (p.2.1 - n) = p.2.1 + -n := by
    have := ha.2.1.2; have := hn.1
    rw [u64_in _ ⟨by omega, by omega⟩]; omega
  have w2 : IntKind.u64.wrap (q.2.1 + n) = q.2.1 + n := u64_in _ ⟨by have := hb.2.1.1; have := hn.1; omega, h7⟩
  simp [h4, h5, h6, h6', h7, w1, w2, addB]
theorem sMove_ok {l : List AccountD} (hl : l.length ≤ 1048576) (hr : bookR l) (x y : Int) {n : Int} (hn : u64r n) : s_MoveMoney_fn (l, ()) x y n = some ((((moveM l x y n).1, ()), (moveM l x y n).2, ()), ()) := by
  unfold s_MoveMoney_fn s_MoveMoney_k s_MoveMoney_start moveM
  obtain ⟨k, hk⟩ : ∃ k, (10000000 : Nat) = k + 4 := ⟨9999996, rfl⟩
  rw [hk]
  simp only [of_ok hl hr x 1 (by omega), of_ok hl hr y 1 (by omega), sCopy_ok hl, with_ok hl, Option.bind_some, bindSome, s_MoveMoney_go, s_MoveMoney_body]
  by_cases h1 : okBook l = true
  case neg => simp [h1]
  by_cases h0 : x = y
  · by_cases h2 : accIn y l = true <;> simp [h1, h0, h2]
  have hxy : (x == y) = false := by simp [h0]
  by_cases h2 : accIn x l = true
  case neg => by_cases h3 : accIn y l = true <;> simp [h1, h0, h2, h3, hxy]
  by_cases h3 : accIn y l = true
  case neg => simp [h1, h0, h2, h3, hxy]
  have hne := pos_ne h2 h3 h0
  have hx := pos_lt h2
  have hy := pos_lt h3
  have ha := bookR_at hr hx
  have hb := bookR_at hr hy
  have hidx := pos_id h2
  have hidy := pos_id h3
  obtain ⟨p, hp2⟩ : ∃ p, l.getD (accPos x l) zA = p := ⟨_, rfl⟩
  obtain ⟨q, hq2⟩ : ∃ q, l.getD (accPos y l) zA = q := ⟨_, rfl⟩
  rw [hp2] at ha hidx
  rw [hq2] at hb hidy
  have ho := ord_of_ok h1
  have c0 : ((0 : Int) == 1) = false := rfl
  have c1 : ((0 : Int) != 0) = false := rfl
  simp only [h1, h2, h3, hxy, c0, c1, and_self, if_true, if_false, Bool.false_eq_true, hp2, hq2, decide_eq_true_eq, addOver2 hb.2.1 hn, ne_eq, h0, not_false_iff, and_true]
  by_cases h4 : p.2.2.2.2.1 = 0
  case neg => simp [h4]
  by_cases h5 : q.2.2.2.2.1 = 0
  case neg => simp [h4, h5]
  by_cases h6 : n ≤ p.2.1
  case neg =>
    have h6' : n > p.2.1 := by omega
    simp [h4, h5, h6, h6']
  have h6' : ¬ n > p.2.1 := by omega
  by_cases h7 : q.2.1 + n ≤ 18446744073709551615
  case neg => simp [h4, h5, h6, h6', h7]
  have w1 : IntKind.u64.wrap (p.2.1 - n) = p.2.1 + -n := by
    have := ha.2.1.2; have := hn.1
    rw [u64_in _ ⟨by omega, by omega⟩]; omega
  have w2 : IntKind.u64.wrap (q.2.1 + n) = q.2.1 + n := u64_in _ ⟨by have := hb.2.1.1; have := hn.1; omega, h7⟩
  have e1 := with_set (a := (p.1, p.2.1 + -n, p.2.2)) ho (by rw [hidx]; exact h2)
  simp only [hidx] at e1
  have hg : (l.getD (accPos x l) zA).1 = ((x, p.2.1 + -n, p.2.2) : AccountD).1 := by rw [hp2]; exact hidx
  have ho2 := set_ord ho hg
  have ht := set_there y hg
  have e2 := with_set (a := (q.1, q.2.1 + n, q.2.2)) ho2 (by rw [hidy, ht.1]; exact h3)
  simp only [hidy, ht.2] at e2
  have hl2 : (l.set (accPos x l) (x, p.2.1 + -n, p.2.2)).length ≤ 1048576 := by rw [List.length_set]; exact hl
  simp only [h4, h5, h6, h6', h7, w1, w2, addB, hidx, hidy, e1, with_ok hl2, e2, bne_self_eq_false, Bool.false_eq_true, if_false, if_true, not_true, and_self, Option.bind_some]
end Go.Proofs.Ytmggpiijahiaiaa.Ev
/- The plain law of the books: what a call does with a book, both ways alike. -/
namespace Go.Proofs.Ytmggpiijahiaiaa.Ev
open Go Go.IntWalk
set_option linter.unusedVariables false
set_option linter.unusedSimpArgs false

def callR (c : LedgerCallD) : Prop := u64r c.2.1 ∧ u64r c.2.2.1 ∧ u64r c.2.2.2.1
def coreM (l : List AccountD) (c : LedgerCallD) : List AccountD × Int :=
  if okBook l = true then (if c.1 = 0 then openM l c.2.1 else if c.1 = 1 then closeM l c.2.1 else if c.1 = 2 then depositM l c.2.1 c.2.2.2.1 else if c.1 = 3 then withdrawM l c.2.1 c.2.2.2.1 else
    if c.1 = 4 then moveM l c.2.1 c.2.2.1 c.2.2.2.1 else if c.1 = 5 then (l, if accIn c.2.1 l = true then 0 else 2) else (l, 1)) else (l, 1)
def tailV (o : List AccountD) (code A : Int) : Int := if code = 0 ∧ accIn A o = true then (o.getD (accPos A o) zA).2.1 else 0

theorem bookR_set {l : List AccountD} (h : bookR l) {a : AccountD} (ha : acctR a) (i : Nat) : bookR (l.set i a) := by
  intro b hb
  rcases List.mem_or_eq_of_mem_set hb with h1 | h1
  · exact h b h1
  · exact h1 ▸ ha
theorem addB_R {a : AccountD} {n : Int} (h : acctR a) (hn : u64r (a.2.1 + n)) : acctR (addB a n) := ⟨h.1, hn, h.2.2⟩
theorem ord_low {p q : Int} {l : List AccountD} (h : ordF p l) (hq : q ≤ p) : ordF q l := by
  cases l with
  | nil => trivial
  | cons a r => exact ⟨Int.lt_of_le_of_lt hq h.1, h.2⟩
theorem ord_del : ∀ {p : Int} {l : List AccountD} {i : Nat}, ordF p l → ordF p (l.take i ++ l.drop (i + 1)) := by
  intro p l
  induction l generalizing p with
  | nil => intro i h; simpa using h
  | cons a r ih =>
    intro i h
    cases i with
    | zero => simpa using ord_low h.2 (Int.le_of_lt h.1)
    | succ i => simpa using ⟨h.1, ih (i := i) h.2⟩
theorem insA_cons (id : Int) (a : AccountD) (r : List AccountD) : insA id (a :: r) = if a.1 < id then a :: insA id r else (id, 0, 0, 0, 0, ()) :: a :: r := by
  unfold insA
  by_cases h : a.1 < id <;> simp [accPos, h]
theorem ord_ins {id : Int} : ∀ {p : Int} {l : List AccountD}, ordF p l → p < id → accIn id l = false → ordF p (insA id l) := by
  intro p l
  induction l generalizing p with
  | nil => intro _ h _; exact ⟨h, trivial⟩
  | cons a r ih =>
    intro h hp hi
    rw [insA_cons]
    simp only [accIn] at hi
    split
    · rename_i h1
      rw [if_pos h1] at hi
      exact ⟨h.1, ih h.2 h1 hi⟩
    · rename_i h1
      rw [if_neg h1] at hi
      simp only [decide_eq_false_iff_not] at hi
      exact ⟨hp, show id < a.1 by omega, h.2⟩
def good (o : List AccountD) : Prop := o.length ≤ 40 ∧ bookR o ∧ ordF (-1) o
theorem good_ok {l : List AccountD} (h : okBook l = true) (hr : bookR l) : good l := ⟨ok_len h, hr, ord_of_ok h⟩
theorem good_set {l : List AccountD} (h : good l) {a : AccountD} (ha : acctR a) {i : Nat} (he : (l.getD i zA).1 = a.1) : good (l.set i a) := ⟨by rw [List.length_set]; exact h.1, bookR_set h.2.1 ha i, set_ord h.2.2 he⟩
theorem u64z : u64r 0 := ⟨by decide, by decide⟩
theorem i64z : i64r 0 := ⟨by decide, by decide⟩
theorem open_good {l : List AccountD} (h : okBook l = true) (hr : bookR l) {id : Int} (hi : u64r id) : good (openM l id).1 := by
  have g := good_ok h hr
  unfold openM
  rw [if_pos h]
  split
  · exact g
  · rename_i h1
    split
    · exact g
    · rename_i h2
      have h1' : accIn id l = false := by simpa using h1
      refine ⟨?_, ?_, ord_ins g.2.2 (by have := hi.1; omega) h1'⟩
      · have := g.1
        have := pos_le id l
        simp [insA]
        omega
      · intro a ha
        simp only [insA, List.mem_append, List.mem_singleton] at ha
        rcases ha with (ha | ha) | ha
        · exact hr a (List.mem_of_mem_take ha)
        · subst ha
          exact ⟨hi, u64z, u64z, u64z, i64z⟩
        · exact hr a (List.mem_of_mem_drop ha)
theorem close_good {l : List AccountD} (h : okBook l = true) (hr : bookR l) {id : Int} : good (closeM l id).1 := by
  have g := good_ok h hr
  unfold closeM
  rw [if_pos h]
  repeat' split
  · refine ⟨?_, ?_, ord_del g.2.2⟩
    · have := g.1
      simp
      omega
    · intro a ha
      simp only [List.mem_append] at ha
      rcases ha with ha | ha
      · exact hr a (List.mem_of_mem_take ha)
      · exact hr a (List.mem_of_mem_drop ha)
  all_goals exact g
theorem deposit_good {l : List AccountD} (h : okBook l = true) (hr : bookR l) {id n : Int} (hn : u64r n) : good (depositM l id n).1 := by
  have g := good_ok h hr
  unfold depositM
  rw [if_pos h]
  split
  · rename_i h1
    have hp := bookR_at hr (pos_lt h1)
    split
    · split
      · rename_i h2
        exact good_set g (addB_R hp ⟨by have := hp.2.1.1; have := hn.1; omega, h2⟩) rfl
      · exact g
    · exact g
  · exact g
theorem withdraw_good {l : List AccountD} (h : okBook l = true) (hr : bookR l) {id n : Int} (hn : u64r n) : good (withdrawM l id n).1 := by
  have g := good_ok h hr
  unfold withdrawM
  rw [if_pos h]
  split
  · rename_i h1
    have hp := bookR_at hr (pos_lt h1)
    split
    · split
      · rename_i h2
        exact good_set g (addB_R hp ⟨by omega, by have := hp.2.1.2; have := hn.1; omega⟩) rfl
      · exact g
    · exact g
  · exact g
theorem move_good {l : List AccountD} (h : okBook l = true) (hr : bookR l) {x y n : Int} (hn : u64r n) : good (moveM l x y n).1 := by
  have g := good_ok h hr
  unfold moveM
  split
  · rename_i h0
    split
    · rename_i h1
      have hx := bookR_at hr (pos_lt h1.1)
      have hy := bookR_at hr (pos_lt h1.2)
      split
      · split
        · split
          · rename_i h2 h3
            refine good_set (good_set g (addB_R hx ⟨by omega, by have := hx.2.1.2; have := hn.1; omega⟩) rfl) (addB_R hy ⟨by have := hy.2.1.1; have := hn.1; omega, h3⟩) ?_
            rw [getD_set_ne (pos_ne h1.1 h1.2 h0.2)]
            rfl
          · exact g
        · exact g
      · exact g
    · exact g
  · exact g
theorem core_good {l : List AccountD} (h : okBook l = true) (hr : bookR l) {c : LedgerCallD} (hc : callR c) : good (coreM l c).1 := by
  unfold coreM
  rw [if_pos h]
  split
  · exact open_good h hr hc.1
  · split
    · exact close_good h hr
    · split
      · exact deposit_good h hr hc.2.2
      · split
        · exact withdraw_good h hr hc.2.2
        · split
          · exact move_good h hr hc.2.2
          · split <;> exact good_ok h hr
theorem core_bad {l : List AccountD} (h : ¬ okBook l = true) (c : LedgerCallD) : coreM l c = (l, 1) := by unfold coreM; rw [if_neg h]

theorem iTail {o : List AccountD} (hl : o.length ≤ 1048576) (k : Nat) (v : Int) (c : LedgerCallD) : i_doLedger_go (k + 2) (.l0 v c o) = some (((o, ()), v, tailV o v c.2.1, ()), ()) := by
  rw [i_doLedger_go]
  simp only [i_doLedger_body, accountOf_ok hl, Option.bind_some, bindSome]
  unfold tailV
  by_cases h1 : v = 0
  · by_cases h2 : accIn c.2.1 o = true
    · have hp := pos_lt h2
      rw [i_doLedger_go]
      simp only [i_doLedger_body, h1, h2, Int.toNat_natCast, decide_true, show decide ((0 : Int) ≤ (accPos c.2.1 o : Int)) = true by simp, show decide ((accPos c.2.1 o : Int) < (o.length : Int)) = true by simpa using hp]
      simp
    · simp [h1, h2]
  · simp [h1]
theorem sTail {o : List AccountD} (hl : o.length ≤ 1048576) (ho : ordF (-1) o) (k : Nat) (v : Int) (c : LedgerCallD) : s_DoLedger_go (k + 2) (.l0 v c o) = some (((o, ()), v, tailV o v c.2.1, ()), ()) := by
  rw [s_DoLedger_go]
  simp only [s_DoLedger_body, find_ok hl ho, Option.bind_some, bindSome]
  unfold tailV
  by_cases h1 : v = 0
  · by_cases h2 : accIn c.2.1 o = true
    · have hp := pos_lt h2
      rw [s_DoLedger_go]
      have e : ¬ ((accPos c.2.1 o : Int) < 0) := by omega
      simp only [s_DoLedger_body, h1, h2, if_true, e, Int.toNat_natCast, decide_true, decide_false, show decide ((0 : Int) ≤ (accPos c.2.1 o : Int)) = true by simp, show decide ((accPos c.2.1 o : Int) < (o.length : Int)) = true by simpa using hp]
      simp
    · simp [h1, h2]
  · simp [h1]
theorem beqI (a b : Int) : (a == b) = decide (a = b) := by by_cases h : a = b <;> simp [h]
theorem iLedger_ok {l : List AccountD} (hl : l.length ≤ 40) (hr : bookR l) {c : LedgerCallD} (hc : callR c) : i_doLedger_fn (l, ()) c = some ((((coreM l c).1, ()), (coreM l c).2, tailV (coreM l c).1 (coreM l c).2 c.2.1, ()), ()) := by
  have hl' : l.length ≤ 1048576 := by omega
  unfold i_doLedger_fn i_doLedger_k i_doLedger_start
  obtain ⟨k, hk⟩ : ∃ k, (10000000 : Nat) = k + 2 := ⟨9999998, rfl⟩
  rw [hk]
  simp only [copyBook_ok hl', isBook_ok hl' hr, Option.bind_some, bindSome, beqI]
  by_cases h : okBook l = true
  · have g := core_good h hr hc
    have gl : (coreM l c).1.length ≤ 1048576 := by have := g.1; omega
    revert gl
    unfold coreM
    rw [if_pos h, if_pos h]
    by_cases h0 : c.1 = 0
    · simp only [h0, decide_true, if_true, iOpen_ok hl' hr, Option.bind_some]
      intro gl; rw [iTail gl]
    by_cases h1 : c.1 = 1
    · simp only [h0, h1, decide_true, decide_false, if_true, if_false, Bool.false_eq_true, iClose_ok hl' hr, Option.bind_some, show ¬ ((1 : Int) = 0) by decide]
      intro gl; rw [iTail gl]
    by_cases h2 : c.1 = 2
    · simp only [h2, decide_true, decide_false, if_true, if_false, Bool.false_eq_true, iDeposit_ok hl' hr _ hc.2.2, Option.bind_some, show ¬ ((2 : Int) = 0) by decide, show ¬ ((2 : Int) = 1) by decide]
      intro gl; rw [iTail gl]
    by_cases h3 : c.1 = 3
    · simp only [h3, decide_true, decide_false, if_true, if_false, Bool.false_eq_true, iWithdraw_ok hl' hr _ hc.2.2, Option.bind_some, show ¬ ((3 : Int) = 0) by decide, show ¬ ((3 : Int) = 1) by decide, show ¬ ((3 : Int) = 2) by decide]
      intro gl; rw [iTail gl]
    by_cases h4 : c.1 = 4
    · simp only [h4, decide_true, decide_false, if_true, if_false, Bool.false_eq_true, iMove_ok hl' hr _ _ hc.2.2, Option.bind_some, show ¬ ((4 : Int) = 0) by decide, show ¬ ((4 : Int) = 1) by decide, show ¬ ((4 : Int) = 2) by decide, show ¬ ((4 : Int) = 3) by decide]
      intro gl; rw [iTail gl]
    by_cases h5 : c.1 = 5
    · simp only [h5, decide_true, decide_false, if_true, if_false, Bool.false_eq_true, accountOf_ok hl', Option.bind_some, show ¬ ((5 : Int) = 0) by decide, show ¬ ((5 : Int) = 1) by decide, show ¬ ((5 : Int) = 2) by decide, show ¬ ((5 : Int) = 3) by decide, show ¬ ((5 : Int) = 4) by decide]
      intro gl
      by_cases ha : accIn c.2.1 l = true
      · simp only [ha, if_true]; rw [iTail hl']
      · simp only [ha, if_false, Bool.false_eq_true]; rw [iTail hl']
    · simp only [h0, h1, h2, h3, h4, h5, decide_false, if_false, Bool.false_eq_true]
      intro gl; rw [iTail gl]
  · rw [core_bad h, if_neg h, iTail hl']
theorem sLedger_ok {l : List AccountD} (hl : l.length ≤ 40) (hr : bookR l) {c : LedgerCallD} (hc : callR c) : s_DoLedger_fn (l, ()) c = some ((((coreM l c).1, ()), (coreM l c).2, tailV (coreM l c).1 (coreM l c).2 c.2.1, ()), ()) := by
  have hl' : l.length ≤ 1048576 := by omega
  unfold s_DoLedger_fn s_DoLedger_k s_DoLedger_start
  obtain ⟨k, hk⟩ : ∃ k, (10000000 : Nat) = k + 2 := ⟨9999998, rfl⟩
  rw [hk]
  simp only [sCopy_ok hl', sBookOk_ok hl' hr, Option.bind_some, bindSome, beqI]
  by_cases h : okBook l = true
  · have g := core_good h hr hc
    have gl : (coreM l c).1.length ≤ 1048576 := by have := g.1; omega
    have go := g.2.2
    revert gl go
    unfold coreM
    rw [if_pos h, h]
    simp only [Bool.not_true, Bool.false_eq_true, if_false]
    by_cases h0 : c.1 = 0
    · simp only [h0, decide_true, if_true, sOpen_ok hl' hr, Option.bind_some]
      intro gl go; rw [sTail gl go]
    by_cases h1 : c.1 = 1
    · simp only [h0, h1, decide_true, decide_false, if_true, if_false, Bool.false_eq_true, sClose_ok hl' hr, Option.bind_some, show ¬ ((1 : Int) = 0) by decide]
      intro gl go; rw [sTail gl go]
    by_cases h2 : c.1 = 2
    · simp only [h2, decide_true, decide_false, if_true, if_false, Bool.false_eq_true, sDeposit_ok hl' hr _ hc.2.2, Option.bind_some, show ¬ ((2 : Int) = 0) by decide, show ¬ ((2 : Int) = 1) by decide]
      intro gl go; rw [sTail gl go]
    by_cases h3 : c.1 = 3
    · simp only [h3, decide_true, decide_false, if_true, if_false, Bool.false_eq_true, sWithdraw_ok hl' hr _ hc.2.2, Option.bind_some, show ¬ ((3 : Int) = 0) by decide, show ¬ ((3 : Int) = 1) by decide, show ¬ ((3 : Int) = 2) by decide]
      intro gl go; rw [sTail gl go]
    by_cases h4 : c.1 = 4
    · simp only [h4, decide_true, decide_false, if_true, if_false, Bool.false_eq_true, sMove_ok hl' hr _ _ hc.2.2, Option.bind_some, show ¬ ((4 : Int) = 0) by decide, show ¬ ((4 : Int) = 1) by decide, show ¬ ((4 : Int) = 2) by decide, show ¬ ((4 : Int) = 3) by decide]
      intro gl go; rw [sTail gl go]
    have lo := ord_of_ok h
    by_cases h5 : c.1 = 5
    · simp only [h5, decide_true, decide_false, if_true, if_false, Bool.false_eq_true, find_ok hl' lo, Option.bind_some, show ¬ ((5 : Int) = 0) by decide, show ¬ ((5 : Int) = 1) by decide, show ¬ ((5 : Int) = 2) by decide, show ¬ ((5 : Int) = 3) by decide, show ¬ ((5 : Int) = 4) by decide]
      intro gl go
      by_cases ha : accIn c.2.1 l = true
      · have e : ¬ ((accPos c.2.1 l : Int) < 0) := by omega
        simp only [ha, if_true, e, decide_false, Bool.false_eq_true, if_false]; rw [sTail hl' lo]
      · simp only [ha, if_false, Bool.false_eq_true, show ((-1 : Int) < 0) by decide, decide_true, if_true]; rw [sTail hl' lo]
    · simp only [h0, h1, h2, h3, h4, h5, decide_false, if_false, Bool.false_eq_true]
      intro gl go; rw [sTail gl go]
  · rw [core_bad h]
    simp [h, tailV]
end Go.Proofs.Ytmggpiijahiaiaa.Ev
namespace Go.Proofs.Ytmggpiijahiaiaa.Ev
open Go
set_option linter.unusedVariables false
set_option linter.unusedSimpArgs false
set_option maxRecDepth 100000
def i_isPast_tab : TTab := [⟨3, (.int .i64), 0⟩, ⟨4, .bool, 0⟩, ⟨25, (.slice tPast), 64⟩, ⟨40, (.int .u64), 0⟩, ⟨42, tLedgerCall, 0⟩, ⟨44, tPast, 0⟩]
abbrev i_isPast_ps : List Par := [.lent (.slice tPast)]
abbrev i_isPast_outs : Outs := .one (.pure .bool)
abbrev i_isPast_R : Type := (Bool × Unit)
abbrev i_isPast_T : Ty := .pair (Outs.ty i_isPast_outs) (mutsTy i_isPast_ps)
noncomputable def i_isPast_env : Env := { tab := i_isPast_tab, fns := [(41, Try.f41)], sigs := [] }
def i_isPast_anns : List Ann := [⟨41, 2, [0, 5, 6, 7], []⟩, ⟨41, 100030, [0, 4, 5, 6, 7, 30], []⟩, ⟨41, 100060, [0, 5, 6, 7, 60], []⟩]
inductive i_isPast_H where
  | l0 (v0 : List PastD) (v1 : List PastD) (v2 : Int) (v3 : Int)
  | l1 (v0 : List PastD) (v1 : List PastD) (v2 : Int) (v3 : Int) (v4 : Bool) (v5 : PastD)
  | l2 (v0 : List PastD) (v1 : List PastD) (v2 : Int) (v3 : Int) (v4 : Bool)
noncomputable def i_isPast_cfg : i_isPast_H → Cfg
  | .l0 v0 v1 v2 v3 => { fr := { fn := 41, fb := 0, ss := sl 65 [(0, (.pv true (.slice tPast) v0)), (5, (.pv true (.slice tPast) v1)), (6, (.pv false (.int .i64) v2)), (7, (.pv false (.int .i64) v3))], todo := todoAt (bodyOf Try.f41) [false, true, false, true] [] }, cs := [], ob := ofList [] }
  | .l1 v0 v1 v2 v3 v4 v5 => { fr := { fn := 41, fb := 0, ss := sl 65 [(0, (.pv true (.slice tPast) v0)), (4, (.bptr 0 [])), (5, (.pv true (.slice tPast) v1)), (6, (.pv false (.int .i64) v2)), (7, (.pv false (.int .i64) v3)), (30, (.pv false .bool v4))], todo := cutAt (bodyOf Try.f41) [false, true, false, true, true, false, false, true, true, false, true, false] [] }, cs := [], ob := ofList [.box tPast (.pv false tPast v5)] }
  | .l2 v0 v1 v2 v3 v4 => { fr := { fn := 41, fb := 0, ss := sl 65 [(0, (.pv true (.slice tPast) v0)), (5, (.pv true (.slice tPast) v1)), (6, (.pv false (.int .i64) v2)), (7, (.pv false (.int .i64) v3)), (60, (.pv false .bool v4))], todo := cutAt (bodyOf Try.f41) [false, true, false, true, true, false, false, true, true, false, false, false] [] }, cs := [], ob := ofList [] }
def i_isPast_body (rec : i_isPast_H → Option i_isPast_R) : i_isPast_H → Option i_isPast_R
  | .l0 v0 v1 v2 v3 =>
    if (decide (v3 < v2)) = true then
      if (decide (0 ≤ v3)) = true then
        if (decide (v3 < (↑v1.length : Int))) = true then
          if (decide ((v1.getD v3.toNat ((0, 0, 0, 0, ()), 0, 0, 0, 0, ())).fst.fst < 0)) = true then
            (rec (.l1 (v0) (v1) (v2) (v3) (Bool.true) (v1.getD v3.toNat ((0, 0, 0, 0, ()), 0, 0, 0, 0, ())))).bind some
          else
            if (decide ((v1.getD v3.toNat ((0, 0, 0, 0, ()), 0, 0, 0, 0, ())).fst.fst > 5)) = true then
              (rec (.l1 (v0) (v1) (v2) (v3) (Bool.true) (v1.getD v3.toNat ((0, 0, 0, 0, ()), 0, 0, 0, 0, ())))).bind some
            else
              if (decide ((v1.getD v3.toNat ((0, 0, 0, 0, ()), 0, 0, 0, 0, ())).snd.fst < 0)) = true then
                (rec (.l1 (v0) (v1) (v2) (v3) (Bool.true) (v1.getD v3.toNat ((0, 0, 0, 0, ()), 0, 0, 0, 0, ())))).bind some
              else
                (rec (.l1 (v0) (v1) (v2) (v3) (decide ((v1.getD v3.toNat ((0, 0, 0, 0, ()), 0, 0, 0, 0, ())).snd.fst > 1000000)) (v1.getD v3.toNat ((0, 0, 0, 0, ()), 0, 0, 0, 0, ())))).bind some
        else
          none
      else
        none
    else
      some (decide ((↑v0.length : Int) ≤ 7), ())
  | .l1 v0 v1 v2 v3 v4 v5 =>
    if (v4) = true then
      some (false, ())
    else
      if (v5.snd.snd.fst == -1) = true then
        if (v5.snd.snd.snd.fst != 0) = true then
          (rec (.l2 (v0) (v1) (v2) (v3) (Bool.true))).bind some
        else
          if (v5.snd.snd.snd.snd.fst != 0) = true then
            (rec (.l2 (v0) (v1) (v2) (v3) (Bool.true))).bind some
          else
            if (v5.snd.snd.fst != -1) = true then
              if (decide (v5.snd.snd.fst ≤ v5.snd.fst)) = true then
                (rec (.l2 (v0) (v1) (v2) (v3) (Bool.true))).bind some
              else
                (rec (.l2 (v0) (v1) (v2) (v3) (decide (v5.snd.snd.fst > 1000000)))).bind some
            else
              (rec (.l2 (v0) (v1) (v2) (v3) (Bool.false))).bind some
      else
        if (v5.snd.snd.fst != -1) = true then
          if (decide (v5.snd.snd.fst ≤ v5.snd.fst)) = true then
            (rec (.l2 (v0) (v1) (v2) (v3) (Bool.true))).bind some
          else
            (rec (.l2 (v0) (v1) (v2) (v3) (decide (v5.snd.snd.fst > 1000000)))).bind some
        else
          (rec (.l2 (v0) (v1) (v2) (v3) (Bool.false))).bind some
  | .l2 v0 v1 v2 v3 v4 =>
    if (v4) = true then
      some (false, ())
    else
      (rec (.l0 (v0) (v1) (v2) (IntKind.i64.wrap (v3 + 1)))).bind some
def i_isPast_start (rec : i_isPast_H → Option i_isPast_R) (x0 : (List PastD)) : Option i_isPast_R :=
  (rec (.l0 (x0) (x0) ((↑x0.length : Int)) (0))).bind some
def i_isPast_go : Nat → i_isPast_H → Option i_isPast_R
  | 0, _ => none
  | k + 1, h => i_isPast_body (i_isPast_go k) h
def i_isPast_k (k : Nat) (x0 : (List PastD)) : Option i_isPast_R := i_isPast_start (i_isPast_go k) x0
def i_isPast_fn (x0 : (List PastD)) : Option i_isPast_R := i_isPast_k (x0.length + 10000000) x0
noncomputable def i_isPast_sig : Sig := { ps := i_isPast_ps, outs := i_isPast_outs, fn := fun x => i_isPast_fn (x.1) }
theorem i_isPast_l0_t (rec : Cfg → Option i_isPast_R) (v0 : List PastD) (v1 : List PastD) (v2 : Int) (v3 : Int) : Tr.k (ev i_isPast_env i_isPast_anns i_isPast_sig rec 20000 (i_isPast_cfg (.l0 v0 v1 v2 v3))) some = (br (decide (v3 < v2)) (br (decide (0 ≤ v3)) (br (decide (v3 < (↑v1.length : Int))) (br (decide ((v1.getD v3.toNat ((0, 0, 0, 0, ()), 0, 0, 0, 0, ())).fst.fst < 0)) ((rec (i_isPast_cfg (.l1 (v0) (v1) (v2) (v3) (Bool.true) (v1.getD v3.toNat ((0, 0, 0, 0, ()), 0, 0, 0, 0, ()))))).bind some) (br (decide ((v1.getD v3.toNat ((0, 0, 0, 0, ()), 0, 0, 0, 0, ())).fst.fst > 5)) ((rec (i_isPast_cfg (.l1 (v0) (v1) (v2) (v3) (Bool.true) (v1.getD v3.toNat ((0, 0, 0, 0, ()), 0, 0, 0, 0, ()))))).bind some) (br (decide ((v1.getD v3.toNat ((0, 0, 0, 0, ()), 0, 0, 0, 0, ())).snd.fst < 0)) ((rec (i_isPast_cfg (.l1 (v0) (v1) (v2) (v3) (Bool.true) (v1.getD v3.toNat ((0, 0, 0, 0, ()), 0, 0, 0, 0, ()))))).bind some) ((rec (i_isPast_cfg (.l1 (v0) (v1) (v2) (v3) (decide ((v1.getD v3.toNat ((0, 0, 0, 0, ()), 0, 0, 0, 0, ())).snd.fst > 1000000)) (v1.getD v3.toNat ((0, 0, 0, 0, ()), 0, 0, 0, 0, ()))))).bind some)))) (none)) (none)) (some (decide ((↑v0.length : Int) ≤ 7), ())) : Option i_isPast_R) := by kernel_rfl
theorem i_isPast_l0 (rec : Cfg → Option i_isPast_sig.R.D) (v0 : List PastD) (v1 : List PastD) (v2 : Int) (v3 : Int) : (ev i_isPast_env i_isPast_anns i_isPast_sig rec 20000 (i_isPast_cfg (.l0 v0 v1 v2 v3))).run = i_isPast_body (fun h => rec (i_isPast_cfg h)) (.l0 v0 v1 v2 v3) := (Tr.k_some _).trans ((i_isPast_l0_t rec v0 v1 v2 v3).trans (by first | rfl | (simp only [br_ite]; rfl)))
theorem i_isPast_l1_t (rec : Cfg → Option i_isPast_R) (v0 : List PastD) (v1 : List PastD) (v2 : Int) (v3 : Int) (v4 : Bool) (v5 : PastD) : Tr.k (ev i_isPast_env i_isPast_anns i_isPast_sig rec 20000 (i_isPast_cfg (.l1 v0 v1 v2 v3 v4 v5))) some = (br (v4) (some (false, ())) (br (v5.snd.snd.fst == -1) (br (v5.snd.snd.snd.fst != 0) ((rec (i_isPast_cfg (.l2 (v0) (v1) (v2) (v3) (Bool.true)))).bind some) (br (v5.snd.snd.snd.snd.fst != 0) ((rec (i_isPast_cfg (.l2 (v0) (v1) (v2) (v3) (Bool.true)))).bind some) (br (v5.snd.snd.fst != -1) (br (decide (v5.snd.snd.fst ≤ v5.snd.fst)) ((rec (i_isPast_cfg (.l2 (v0) (v1) (v2) (v3) (Bool.true)))).bind some) ((rec (i_isPast_cfg (.l2 (v0) (v1) (v2) (v3) (decide (v5.snd.snd.fst > 1000000))))).bind some)) ((rec (i_isPast_cfg (.l2 (v0) (v1) (v2) (v3) (Bool.false)))).bind some)))) (br (v5.snd.snd.fst != -1) (br (decide (v5.snd.snd.fst ≤ v5.snd.fst)) ((rec (i_isPast_cfg (.l2 (v0) (v1) (v2) (v3) (Bool.true)))).bind some) ((rec (i_isPast_cfg (.l2 (v0) (v1) (v2) (v3) (decide (v5.snd.snd.fst > 1000000))))).bind some)) ((rec (i_isPast_cfg (.l2 (v0) (v1) (v2) (v3) (Bool.false)))).bind some))) : Option i_isPast_R) := by kernel_rfl
theorem i_isPast_l1 (rec : Cfg → Option i_isPast_sig.R.D) (v0 : List PastD) (v1 : List PastD) (v2 : Int) (v3 : Int) (v4 : Bool) (v5 : PastD) : (ev i_isPast_env i_isPast_anns i_isPast_sig rec 20000 (i_isPast_cfg (.l1 v0 v1 v2 v3 v4 v5))).run = i_isPast_body (fun h => rec (i_isPast_cfg h)) (.l1 v0 v1 v2 v3 v4 v5) := (Tr.k_some _).trans ((i_isPast_l1_t rec v0 v1 v2 v3 v4 v5).trans (by first | rfl | (simp only [br_ite]; rfl)))
theorem i_isPast_l2_t (rec : Cfg → Option i_isPast_R) (v0 : List PastD) (v1 : List PastD) (v2 : Int) (v3 : Int) (v4 : Bool) : Tr.k (ev i_isPast_env i_isPast_anns i_isPast_sig rec 20000 (i_isPast_cfg (.l2 v0 v1 v2 v3 v4))) some = (br (v4) (some (false, ())) ((rec (i_isPast_cfg (.l0 (v0) (v1) (v2) (IntKind.i64.wrap (v3 + 1))))).bind some) : Option i_isPast_R) := by kernel_rfl
theorem i_isPast_l2 (rec : Cfg → Option i_isPast_sig.R.D) (v0 : List PastD) (v1 : List PastD) (v2 : Int) (v3 : Int) (v4 : Bool) : (ev i_isPast_env i_isPast_anns i_isPast_sig rec 20000 (i_isPast_cfg (.l2 v0 v1 v2 v3 v4))).run = i_isPast_body (fun h => rec (i_isPast_cfg h)) (.l2 v0 v1 v2 v3 v4) := (Tr.k_some _).trans ((i_isPast_l2_t rec v0 v1 v2 v3 v4).trans (by first | rfl | (simp only [br_ite]; rfl)))
theorem i_isPast_begin_t (rec : Cfg → Option i_isPast_R) (x0 : (List PastD)) : Tr.k (ev i_isPast_env i_isPast_anns i_isPast_sig rec 20000 (entry i_isPast_sig 41 Try.f41 (bodyOf Try.f41) (x0, ()))) some = ((rec (i_isPast_cfg (.l0 (x0) (x0) ((↑x0.length : Int)) (0)))).bind some : Option i_isPast_R) := by kernel_rfl
theorem i_isPast_begin (rec : Cfg → Option i_isPast_sig.R.D) (x0 : (List PastD)) : (ev i_isPast_env i_isPast_anns i_isPast_sig rec 20000 (entry i_isPast_sig 41 Try.f41 (bodyOf Try.f41) (x0, ()))).run = i_isPast_start (fun h => rec (i_isPast_cfg h)) x0 := (Tr.k_some _).trans ((i_isPast_begin_t rec x0).trans (by first | rfl | (simp only [br_ite]; rfl)))
theorem i_isPast_tab_ok : i_isPast_tab.ok Try.prog = true := by decide +kernel
theorem i_isPast_env_ok : (i_isPast_env).Ok Try.prog where
  mixed := by decide +kernel
  tab := i_isPast_tab_ok
  fns := by
    intro p hp
    simp only [i_isPast_env, List.mem_cons, List.not_mem_nil, or_false] at hp
    subst hp
    · exact ⟨Try.func41, by decide +kernel⟩
  sigs := by
    intro p hp
    simp only [i_isPast_env, List.mem_cons, List.not_mem_nil, or_false] at hp
  exts := by
    intro p hp
    simp only [i_isPast_env, List.mem_cons, List.not_mem_nil, or_false] at hp
theorem i_isPast_run (k : Nat) (h : i_isPast_H) : Om i_isPast_env i_isPast_anns i_isPast_sig 20000 k (i_isPast_cfg h) = i_isPast_go k h :=
  Om_go (sg := i_isPast_sig) (cfg := i_isPast_cfg) (body := i_isPast_body) (go := i_isPast_go) (fun _ => rfl) (fun _ _ => rfl) (fun rec h => by
  cases h with
  | l0 v0 v1 v2 v3 => exact i_isPast_l0 rec v0 v1 v2 v3
  | l1 v0 v1 v2 v3 v4 v5 => exact i_isPast_l1 rec v0 v1 v2 v3 v4 v5
  | l2 v0 v1 v2 v3 v4 => exact i_isPast_l2 rec v0 v1 v2 v3 v4) k h
theorem i_isPast_meets : Meets Try.prog 41 i_isPast_sig := by
  refine meets (anns := i_isPast_anns) (N := 20000) i_isPast_env_ok Try.func41 (body := bodyOf Try.f41) (by rfl) ?_
  rintro ⟨x0, ⟨⟩⟩ r hr
  refine ⟨x0.length + 10000000, ?_⟩
  show (ev i_isPast_env i_isPast_anns i_isPast_sig (Om i_isPast_env i_isPast_anns i_isPast_sig 20000 (x0.length + 10000000)) 20000 (entry i_isPast_sig 41 Try.f41 (bodyOf Try.f41) (x0, ()))).run = some r
  rw [i_isPast_begin]
  have e : (fun h => Om i_isPast_env i_isPast_anns i_isPast_sig 20000 (x0.length + 10000000) (i_isPast_cfg h)) = i_isPast_go (x0.length + 10000000) := funext fun h => i_isPast_run _ h
  rw [e]
  exact hr
end Go.Proofs.Ytmggpiijahiaiaa.Ev
namespace Go.Proofs.Ytmggpiijahiaiaa.Ev
open Go
set_option linter.unusedVariables false
set_option linter.unusedSimpArgs false
set_option maxRecDepth 100000
def s_l01In_tab : TTab := [⟨3, (.int .i64), 0⟩, ⟨4, .bool, 0⟩]
abbrev s_l01In_ps : List Par := [.lent (.int .i64), .lent (.int .i64), .lent (.int .i64)]
abbrev s_l01In_outs : Outs := .one (.pure .bool)
abbrev s_l01In_R : Type := (Bool × Unit)
abbrev s_l01In_T : Ty := .pair (Outs.ty s_l01In_outs) (mutsTy s_l01In_ps)
noncomputable def s_l01In_env : Env := { tab := s_l01In_tab, fns := [(56, Try.f56)], sigs := [] }
def s_l01In_anns : List Ann := []
inductive s_l01In_H where
  | none
noncomputable def s_l01In_cfg : s_l01In_H → Cfg
  | .none => { fr := { fn := 0, fb := 0, ss := [], todo := [] }, cs := [], ob := fun _ => none }
def s_l01In_body (rec : s_l01In_H → Option s_l01In_R) : s_l01In_H → Option s_l01In_R
  | .none => none
def s_l01In_start (rec : s_l01In_H → Option s_l01In_R) (x0 : Int) (x1 : Int) (x2 : Int) : Option s_l01In_R :=
  if (decide (x1 ≤ x0)) = true then
    some (decide (x0 ≤ x2), ())
  else
    some (false, ())
def s_l01In_go : Nat → s_l01In_H → Option s_l01In_R
  | 0, _ => none
  | k + 1, h => s_l01In_body (s_l01In_go k) h
def s_l01In_k (k : Nat) (x0 : Int) (x1 : Int) (x2 : Int) : Option s_l01In_R := s_l01In_start (s_l01In_go k) x0 x1 x2
def s_l01In_fn (x0 : Int) (x1 : Int) (x2 : Int) : Option s_l01In_R := s_l01In_k (1) x0 x1 x2
noncomputable def s_l01In_sig : Sig := { ps := s_l01In_ps, outs := s_l01In_outs, fn := fun x => s_l01In_fn (x.1) (x.2.1) (x.2.2.1) }
theorem s_l01In_begin_t (rec : Cfg → Option s_l01In_R) (x0 : Int) (x1 : Int) (x2 : Int) : Tr.k (ev s_l01In_env s_l01In_anns s_l01In_sig rec 20000 (entry s_l01In_sig 56 Try.f56 (bodyOf Try.f56) (x0, x1, x2, ()))) some = (br (decide (x1 ≤ x0)) (some (decide (x0 ≤ x2), ())) (some (false, ())) : Option s_l01In_R) := by kernel_rfl
theorem s_l01In_begin (rec : Cfg → Option s_l01In_sig.R.D) (x0 : Int) (x1 : Int) (x2 : Int) : (ev s_l01In_env s_l01In_anns s_l01In_sig rec 20000 (entry s_l01In_sig 56 Try.f56 (bodyOf Try.f56) (x0, x1, x2, ()))).run = s_l01In_start (fun h => rec (s_l01In_cfg h)) x0 x1 x2 := (Tr.k_some _).trans ((s_l01In_begin_t rec x0 x1 x2).trans (by first | rfl | (simp only [br_ite]; rfl)))
theorem s_l01In_tab_ok : s_l01In_tab.ok Try.prog = true := by decide +kernel
theorem s_l01In_env_ok : (s_l01In_env).Ok Try.prog where
  mixed := by decide +kernel
  tab := s_l01In_tab_ok
  fns := by
    intro p hp
    simp only [s_l01In_env, List.mem_cons, List.not_mem_nil, or_false] at hp
    subst hp
    · exact ⟨Try.func56, by decide +kernel⟩
  sigs := by
    intro p hp
    simp only [s_l01In_env, List.mem_cons, List.not_mem_nil, or_false] at hp
  exts := by
    intro p hp
    simp only [s_l01In_env, List.mem_cons, List.not_mem_nil, or_false] at hp
theorem s_l01In_meets : Meets Try.prog 56 s_l01In_sig := by
  refine meets (anns := s_l01In_anns) (N := 20000) s_l01In_env_ok Try.func56 (body := bodyOf Try.f56) (by rfl) ?_
  rintro ⟨x0, x1, x2, ⟨⟩⟩ r hr
  refine ⟨1, ?_⟩
  show (ev s_l01In_env s_l01In_anns s_l01In_sig (Om s_l01In_env s_l01In_anns s_l01In_sig 20000 (1)) 20000 (entry s_l01In_sig 56 Try.f56 (bodyOf Try.f56) (x0, x1, x2, ()))).run = some r
  rw [s_l01In_begin]
  exact hr
end Go.Proofs.Ytmggpiijahiaiaa.Ev
