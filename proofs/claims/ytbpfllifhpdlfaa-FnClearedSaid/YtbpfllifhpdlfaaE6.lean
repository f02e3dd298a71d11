/- What the machine's loads, stores and new variables do to its world. -/
import Derived.Test.YtbpfllifhpdlfaaE5
import Derived.Laws.Rows
namespace Go.Proofs.Ytbpfllifhpdlfaa.Ev
open Go
set_option linter.unusedVariables false
set_option linter.unusedSimpArgs false

theorem run_info {P : Program} {t : TypeId} {i : TypeInfo} (h : P.info? t = some i) (w : World) : (typeInfo t).run P w = .ok i w := by
  simp [typeInfo, h]
theorem run_under {P : Program} {t : TypeId} {d : TypeDesc} (h : P.underlying t = some d) (w : World) : (underlying t).run P w = .ok d w := by
  simp [underlying, h]
theorem run_agg {P : Program} {T : Ty} {t : TypeId} (h : (TB P T).1 t = true) (w : World) : (isAgg t).run P w = .ok T.isAgg w := by
  obtain ⟨d, hd, ha⟩ := TB_agg h
  unfold isAgg
  simp only [Sem.run_bind, run_under hd, Result.andThen_ok]
  cases d <;> simp [aggDesc] at ha <;> simp [ha]
theorem run_size {P : Program} {T : Ty} {t : TypeId} (h : (TB P T).1 t = true) (w : World) : (sizeOf t).run P w = .ok T.sz w := by
  obtain ⟨i, z, hi⟩ := TB_info h
  simp [sizeOf, run_info hi.info, hi.size]
theorem run_zero {P : Program} {t : TypeId} {i : TypeInfo} {z : Value} (h : P.info? t = some i) (hz : i.zero = some z) (w : World) : (zeroValue t).run P w = .ok z w := by
  simp [zeroValue, run_info h, hz]

theorem mem_cells {w : World} {b off : Nat} {cs : Array Value} {te : TypeId} {fr : Nat × Nat} (h : w.heap[b]? = some (.cells cs te fr)) (j : Nat) : mem w b off j = cs[off + j]? := by
  simp [mem, World.cell?, h]

theorem run_loadAt {P : Program} {w : World} {T : Ty} {t : TypeId} (ht : (TB P T).1 t = true) {b off : Nat} (hc : ∀ j, j < T.sz → ∃ v, mem w b off j = some v ∧ okCell v) :
    ∃ val, (Instr.loadAt t (.pointer (some ⟨b, off, none⟩))).run P w = .ok val w ∧ Value.isAgg val = T.isAgg ∧ val.cells.size = T.sz ∧ ∀ j, j < T.sz → cv val j = mem w b off j := by
  cases ha : T.isAgg with
  | true =>
    have hl := run_loadCells (P := P) w ⟨b, off, none⟩ T.sz (fun j => (mem w b off j).getD undef) (fun j hj => by
      obtain ⟨v, hv, _⟩ := hc j hj
      rw [hv, Addr.add_lit]
      exact hv)
    refine ⟨.agg ((List.range T.sz).map fun j => (mem w b off j).getD undef).toArray, ?_, rfl, by simp [Value.cells], fun j hj => ?_⟩
    · simp [Instr.loadAt, Instr.sureAddr, loadVar, run_agg ht, ha, run_size ht, hl]
    · obtain ⟨v, hv, _⟩ := hc j hj
      simp [cv, Value.cells, hj, hv]
  | false =>
    have hs : T.sz = 1 := by cases T <;> simp [Ty.isAgg] at ha <;> rfl
    obtain ⟨v, hv, hok⟩ := hc 0 (by omega)
    have hv' : w.cell? ⟨b, off, none⟩ = some v := hv
    refine ⟨v, by simp [Instr.loadAt, Instr.sureAddr, loadVar, run_agg ht, ha, hv'], ?_, ?_, fun j hj => ?_⟩
    · cases v <;> first | rfl | exact hok.elim
    · rw [hs]; cases v <;> first | rfl | exact hok.elim
    · obtain rfl : j = 0 := by omega
      rw [hv]
      cases v <;> first | rfl | exact hok.elim

theorem run_storeAt {P : Program} {w : World} {T : Ty} {t : TypeId} (ht : (TB P T).1 t = true) {b off : Nat} {val : Value} {cs : Array Value} {te : TypeId} (hb : w.heap[b]? = some (.cells cs te (0, 0)))
    (hs : val.cells.size = T.sz) (hr : off + T.sz ≤ cs.size) (hok : ∀ j, j < T.sz → ∃ v, cv val j = some v ∧ okCell v) :
    ∃ cs', (Instr.storeAt t (.pointer (some ⟨b, off, none⟩)) val).run P w = .ok () (w.setRow b cs') ∧ cs'.size = cs.size ∧ (∀ j, j < T.sz → cs'[off + j]? = cv val j) ∧ ∀ j, (j < off ∨ off + T.sz ≤ j) → cs'[j]? = cs[j]? := by
  have hst := run_storeCells_at P b off te val.cells.toList 0 cs w hb (by simp [hs]; omega) (fun v hv => by
    obtain ⟨j, hj, e⟩ := List.getElem_of_mem hv
    obtain ⟨u, hu, ok⟩ := hok j (by simp [hs] at hj; exact hj)
    have : cv val j = some v := by
      simp only [cv]
      rw [← Array.getElem?_toList, List.getElem?_eq_getElem hj, e]
    rw [this] at hu
    injection hu with hu
    exact oneCell_of_ok (hu ▸ ok))
  have hlen : val.cells.toList.length = T.sz := by simp [hs]
  simp only [Nat.add_zero] at hst
  rw [hlen] at hst
  refine ⟨(List.take off cs.toList ++ val.cells.toList ++ List.drop (off + T.sz) cs.toList).toArray, ?_, ?_, fun j hj => ?_, fun j hj => ?_⟩
  · simp [Instr.storeAt, Instr.sureAddr, storeVar, run_size ht, hs, hst]
  · simp only [List.size_toArray, List.length_append, List.length_take, List.length_drop, Array.length_toList, hs]
    omega
  · simp only [List.getElem?_toArray, List.getElem?_append, List.length_append, List.length_take, Array.length_toList, hs]
    rw [if_pos (by omega), if_neg (by omega)]
    simp only [cv, ← Array.getElem?_toList]
    congr 1
    omega
  · simp only [List.getElem?_toArray, List.getElem?_append, List.length_append, List.length_take, Array.length_toList, hs, List.getElem?_take, List.getElem?_drop]
    rcases hj with h | h
    · rw [if_pos (by omega), if_pos (by omega), if_pos h]
      simp
    · rw [if_neg (by omega), ← Array.getElem?_toList]
      congr 1
      omega

theorem heap_setRow_ne (w : World) (g : Nat) (cs : Array Value) {k : Nat} (h : k ≠ g) : (w.setRow g cs).heap[k]? = w.heap[k]? := by
  simp only [World.setRow, Array.getElem?_modify]
  rw [if_neg (by omega)]
theorem heap_setRow_size (w : World) (g : Nat) (cs : Array Value) : (w.setRow g cs).heap.size = w.heap.size := by simp [World.setRow]

theorem run_alloc {P : Program} {t : TypeId} {i : TypeInfo} {z : Value} (h : P.info? t = some i) (hz : i.zero = some z) (w : World) :
    (Instr.alloc t true (.tuple #[])).run P w = .ok (.pointer (some ⟨w.heap.size, 0, none⟩)) (w.alloc (.cells z.cells t)) := by
  simp [Instr.alloc, run_zero h hz, newVar, newRow]
theorem run_box {P : Program} (t : TypeId) (v : Value) (w : World) :
    (Instr.box t v).run P w = .ok (.pointer (some ⟨w.heap.size, 0, none⟩)) (w.alloc (.cells v.cells t)) := by
  simp [Instr.box, newVar, newRow]
theorem heap_alloc_at (w : World) (o : Obj) : (w.alloc o).heap[w.heap.size]? = some o := by
  show (w.heap.push o)[w.heap.size]? = _
  simp
theorem heap_alloc_lt (w : World) (o : Obj) {k : Nat} (h : k < w.heap.size) : (w.alloc o).heap[k]? = w.heap[k]? := by
  show (w.heap.push o)[k]? = _
  rw [Array.getElem?_push, if_neg (by omega)]
theorem Turns.alloc (X : Ctx) (o : Obj) : Turns X (X.w.alloc o) (fun _ => False) := ⟨rfl, rfl, rfl, by show _ ≤ (X.w.heap.push o).size; simp, fun k hk _ => heap_alloc_lt _ _ hk⟩
theorem Turns.drew {X : Ctx} {w : World} {m : Bs} (h : Turns X w m) : Turns X w.drew m := ⟨h.os, h.tape, h.output, h.size, h.block⟩
theorem Turns.setRow (X : Ctx) (g : Nat) (cs : Array Value) : Turns X (X.w.setRow g cs) (fun b => b = g) :=
  ⟨rfl, rfl, rfl, by rw [heap_setRow_size]; exact Nat.le_refl _, fun k _ hk => heap_setRow_ne _ _ _ hk⟩
end Go.Proofs.Ytbpfllifhpdlfaa.Ev
