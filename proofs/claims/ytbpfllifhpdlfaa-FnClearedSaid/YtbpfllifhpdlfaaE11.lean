/- Structs and rows that are written out; slices of slices; a row that is told to last; small operations. -/
import Derived.Test.YtbpfllifhpdlfaaE10
import Derived.Laws.Tables
import Derived.Great.BuildSlice
namespace Go.Proofs.Ytbpfllifhpdlfaa.Ev
open Go
set_option linter.unusedVariables false
set_option linter.unusedSimpArgs false

theorem fold_cells (v : Value) (off : Nat) (cells : Array Value) : (v.cells.zipIdx.foldl (fun cs (c, j) => cs.setIfInBounds (off + j) c) cells).size = cells.size ∧
    ∀ i, i < cells.size → (v.cells.zipIdx.foldl (fun cs (c, j) => cs.setIfInBounds (off + j) c) cells)[i]? = if off ≤ i ∧ i < off + v.cells.size then cv v (i - off) else cells[i]? := by
  have h := fold_get off v.cells.toList 0 cells
  have e : v.cells.zipIdx.foldl (fun cs (c, j) => cs.setIfInBounds (off + j) c) cells = (v.cells.toList.zipIdx 0).foldl (fun cs (x : Value × Nat) => cs.setIfInBounds (off + x.2) x.1) cells := by
    rw [← Array.foldl_toList, Array.toList_zipIdx]
  rw [e]
  refine ⟨h.1, fun i hi => ?_⟩
  rw [h.2 i hi]
  simp only [Nat.add_zero, Array.length_toList, cv, Array.getElem?_toList]

section
variable {P : Program} {E : Fix} {X : Ctx} {tab : TTab}

def PartsR (X : Ctx) : List (Nat × AV) → List (Nat × Value) → Prop
  | [], vs => vs = []
  | (i, a) :: r, vs => ∃ v s, vs = (i, v) :: s ∧ SlotR X a v ∧ PartsR X r s
def valParts (ss : List AV) : List (Nat × Operand) → Option (List (Nat × AV))
  | [] => some []
  | (i, x) :: r => match valOf ss x, valParts ss r with
    | some a, some l => some ((i, a) :: l)
    | _, _ => none
theorem valParts_ok {ss : List AV} {a : Act} (hs : SlotsR X ss a.tmps) : ∀ {l : List (Nat × Operand)} {ps : List (Nat × AV)}, valParts ss l = some ps → PartsR X ps (l.map fun (i, x) => (i, a.eval x)) := by
  intro l
  induction l with
  | nil => intro ps h; simp only [valParts, Option.some.injEq] at h; subst h; rfl
  | cons p l ih =>
    obtain ⟨i, x⟩ := p
    intro ps h
    simp only [valParts] at h
    split at h
    · rename_i b r hb hr
      simp only [Option.some.injEq] at h
      subst h
      exact ⟨_, _, rfl, valOf_ok hs hb, ih hr⟩
    · exact absurd h (by simp)

/-- A struct's fields, written one by one. -/
def buildAV (ob : Objs) (T : Ty) (a : AV) : List (Nat × AV) → Option AV
  | [] => some a
  | (j, v) :: r => match Ty.at (fldPath j) T with
    | some (_, Tj) => if v.fits Tj = true then (match AV.upd (fldPath j) a v with
      | some a' => buildAV ob T a' r
      | none => none) else none
    | none => none
theorem places_ok : ∀ {T : Ty} {off0 : Nat} {fs : List Field}, (TB P T).2 off0 fs = true → ∃ places, fs.mapM (fun f => (P.info? f.type).map fun i => (f.offset, i.size)) = some places ∧
    ∀ j off Tj, Ty.at (fldPath j) T = some (off, Tj) → places[j]? = some (off0 + off, Tj.sz) := by
  intro T
  induction T with
  | pair a b iha ihb =>
    intro off0 fs h
    cases fs with
    | nil => simp [TB] at h
    | cons f r =>
      simp only [TB, Bool.and_eq_true, decide_eq_true_eq] at h
      obtain ⟨⟨h1, h2⟩, h3⟩ := h
      obtain ⟨i, z, hi⟩ := TB_info h2
      obtain ⟨pl, e1, e2⟩ := ihb h3
      refine ⟨(f.offset, i.size) :: pl, by simp [hi.info, e1], fun j off Tj hj => ?_⟩
      cases j with
      | zero =>
        simp only [fldPath, Ty.at, Option.some.injEq, Prod.mk.injEq] at hj
        obtain ⟨rfl, rfl⟩ := hj
        simp [h1, hi.size]
      | succ j =>
        simp only [fldPath, Ty.at] at hj
        cases hb : Ty.at (fldPath j) b with
        | none => simp [hb] at hj
        | some q =>
          obtain ⟨o1, t1⟩ := q
          simp only [hb, Option.some.injEq, Prod.mk.injEq] at hj
          obtain ⟨rfl, rfl⟩ := hj
          have := e2 j o1 t1 hb
          simp only [List.getElem?_cons_succ, this, Nat.add_assoc]
  | unit =>
    intro off0 fs h
    simp only [TB, List.isEmpty_iff] at h
    subst h
    refine ⟨[], rfl, fun j off Tj hj => ?_⟩
    cases j <;> simp [fldPath, Ty.at] at hj
  | _ => intro off0 fs h; simp [TB] at h
theorem buildAV_ok (hij : ∀ b, X.I b → X.J b) {T : Ty} {places : List (Nat × Nat)} (hpl : ∀ j off Tj, Ty.at (fldPath j) T = some (off, Tj) → places[j]? = some (off, Tj.sz)) :
    ∀ {ps : List (Nat × AV)} {vs : List (Nat × Value)} {cells : Array Value} {a a' : AV}, PartsR X ps vs → cells.size = T.sz → AVR X a (fun j => cells[j]?) → a.fits T = true → buildAV X.objs T a ps = some a' →
    ∃ cells', Instr.fill (places.toArray[·]?) cells vs = some cells' ∧ cells'.size = T.sz ∧ AVR X a' (fun j => cells'[j]?) ∧ a'.fits T = true := by
  intro ps
  induction ps with
  | nil =>
    intro vs cells a a' hp hs hr hf h
    obtain rfl : vs = [] := hp
    simp only [buildAV, Option.some.injEq] at h
    subst h
    exact ⟨cells, rfl, hs, hr, hf⟩
  | cons p ps ih =>
    obtain ⟨j, v⟩ := p
    intro vs cells a a' hp hs hr hf h
    obtain ⟨w, r, rfl, hv, hp⟩ := hp
    simp only [buildAV] at h
    split at h
    · rename_i off Tj hat
      split at h
      · rename_i hfit
        split at h
        · rename_i a1 hu
          have hval := slot_val hv hfit
          have hsz : w.cells.size = Tj.sz := hval.2.1.trans (AV.fits_sz hfit)
          have hle := Ty.at_le hat (fldPath_ok hat)
          obtain ⟨f1, f2⟩ := fold_cells w off cells
          obtain ⟨r1, r2⟩ := AV.upd_ok hij (c' := fun k => (w.cells.zipIdx.foldl (fun cs (c, j) => cs.setIfInBounds (off + j) c) cells)[k]?) hr hf hat (fldPath_ok hat) hfit (AVR.congr (fun k hk => by
              rw [AV.fits_sz hfit] at hk
              simp only [shift]
              rw [f2 _ (by omega), if_pos (by omega)]
              congr 1; omega) hval.2.2) (fun k hk hout => by
              show (w.cells.zipIdx.foldl (fun cs (c, j) => cs.setIfInBounds (off + j) c) cells)[k]? = cells[k]?
              rw [f2 _ (by omega), if_neg (by omega)]) hu
          obtain ⟨cells', g1, g2⟩ := ih hp (f1.trans hs) r1 r2 h
          refine ⟨cells', ?_, g2⟩
          have hp' := hpl j off Tj hat
          have e1 : places.toArray[j]? = some (off, Tj.sz) := by simpa using hp'
          unfold Instr.fill
          rw [e1]
          dsimp only
          rw [if_neg (by simp [hsz]; omega)]
          exact g1
        · exact absurd h (by simp)
      · exact absurd h (by simp)
    · exact absurd h (by simp)
def aBuild (tab : TTab) (ob : Objs) (t : TypeId) (ps : List (Nat × AV)) : Option AV :=
  match tab.find t with
  | some ⟨_, .arr n e, _⟩ => match ps with
    | [] => some (.pv false (.arr n e) (Ty.zero (.arr n e)))
    | _ => none
  | some ⟨_, .pair a b, _⟩ => buildAV ob (.pair a b) (zeroAV (.pair a b)) ps
  | some ⟨_, .unit, _⟩ => buildAV ob .unit .unit ps
  | _ => none
theorem slot_agg {a : AV} {cells : Array Value} {T : Ty} (hf : a.fits T = true) (ha : T.isAgg = true) (hs : cells.size = T.sz) (hr : AVR X a (fun j => cells[j]?)) : SlotR X a (.agg cells) := by
  have : ValR X a (.agg cells) := ⟨(AV.fits_agg hf).symm ▸ ha.symm, hs.trans (AV.fits_sz hf).symm, hr⟩
  cases a with
  | undef => trivial
  | tnil => cases T <;> simp [AV.fits] at hf
  | tcons x y => cases T <;> simp [AV.fits] at hf
  | _ => exact this
theorem aBuild_ok (F : Fits E X) (hT : tab.ok P = true) {t : TypeId} {ps : List (Nat × AV)} {parts : Array (Nat × Value)} (hp : PartsR X ps parts.toList) {r : AV} (h : aBuild tab X.objs t ps = some r) :
    ∃ val, (Instr.build t parts).run P X.w = .ok val X.w ∧ SlotR X r val := by
  unfold aBuild at h
  split at h
  · rename_i _ n e _ ht
    split at h
    · simp only [Option.some.injEq] at h
      subst h
      have htb := (TTab.find_ok hT ht).1
      obtain ⟨i, z, hi⟩ := TB_info htb
      obtain ⟨te, hu, hte⟩ := TB_arr htb
      obtain ⟨ie, ze, hie⟩ := TB_info hte
      have hb : P.built t parts.toList = some z.cells := by
        rw [show parts.toList = [] from hp]
        simp only [Program.built, hi.info, hu, hi.zero, hie.info, Instr.fill]
      refine ⟨_, run_build X.w t parts _ hb, ?_⟩
      exact slot_agg (T := .arr n e) (by simp [AV.fits]) rfl hi.zsize (hi.zrep _ _)
    · exact absurd h (by simp)
  · rename_i _ a b _ ht
    have htb := (TTab.find_ok hT ht).1
    obtain ⟨i, z, hi⟩ := TB_info htb
    have htb' := htb
    simp only [TB, Bool.and_eq_true] at htb'
    obtain ⟨d, hd, hf⟩ := descB_ok htb'.2
    cases d with
    | struct fs =>
      have hf' : (TB P (.pair a b)).2 0 fs.toList = true := hf
      obtain ⟨places, e1, e2⟩ := places_ok hf'
      obtain ⟨cells', g1, g2, g3, g4⟩ := buildAV_ok F.ij (fun j off Tj hj => by have := e2 j off Tj hj; rwa [Nat.zero_add] at this) hp hi.zsize (hi.zav X) (zeroAV_fits _) h
      have hb : P.built t parts.toList = some cells' := by
        simp only [Program.built, hi.info, hd, hi.zero, e1]
        exact g1
      exact ⟨_, run_build X.w t parts _ hb, slot_agg g4 rfl g2 g3⟩
    | _ => simp at hf
  · rename_i _ _ ht
    have htb := (TTab.find_ok hT ht).1
    obtain ⟨i, z, hi⟩ := TB_info htb
    cases ps with
    | nil =>
      simp only [buildAV, Option.some.injEq] at h
      subst h
      have htb' := htb
      simp only [TB, Bool.and_eq_true] at htb'
      obtain ⟨d, hd, hf⟩ := descB_ok htb'.2
      cases d with
      | struct fs =>
        have hfs : fs.toList = [] := by simpa using hf
        have hb : P.built t parts.toList = some z.cells := by
          rw [show parts.toList = [] from hp]
          simp [Program.built, hi.info, hd, hi.zero, hfs, Instr.fill]
        exact ⟨_, run_build X.w t parts _ hb, slot_agg (T := .unit) rfl rfl hi.zsize trivial⟩
      | _ => simp at hf
    | cons p r => obtain ⟨j, v⟩ := p; cases j <;> simp [buildAV, fldPath, Ty.at] at h
  · exact absurd h (by simp)

/-- A row's elements, written one by one. -/
def setParts (ob : Objs) (e : Ty) (n : Nat) (m : Bool) (xs : List e.D) : List (Nat × AV) → Option (Bool × List e.D)
  | [] => some (m, xs)
  | (i, a) :: r => if Nat.ble (i + 1) n = true then (match a.pureAs e with
    | some q => setParts ob e n (m || q.1) (xs.set i q.2) r
    | none => none) else none
theorem setParts_ok (hij : ∀ b, X.I b → X.J b) {e : Ty} {n : Nat} : ∀ {ps : List (Nat × AV)} {vs : List (Nat × Value)} {cells : Array Value} {m : Bool} {xs : List e.D} {r : Bool × List e.D}, PartsR X ps vs → cells.size = n * e.sz → xs.length = n →
    (∀ i (h : i < xs.length), Rep X.w (X.set m) e xs[i] (fun j => cells[i * e.sz + j]?)) → setParts X.objs e n m xs ps = some r →
    ∃ cells', Instr.fill (fun i => some (i * e.sz, e.sz)) cells vs = some cells' ∧ cells'.size = n * e.sz ∧ r.2.length = n ∧ ∀ i (h : i < r.2.length), Rep X.w (X.set r.1) e r.2[i] (fun j => cells'[i * e.sz + j]?) := by
  intro ps
  induction ps with
  | nil =>
    intro vs cells m xs r hp hs hl hr h
    obtain rfl : vs = [] := hp
    simp only [setParts, Option.some.injEq] at h
    subst h
    exact ⟨cells, rfl, hs, hl, hr⟩
  | cons p ps ih =>
    obtain ⟨i, v⟩ := p
    intro vs cells m xs r hp hs hl hr h
    obtain ⟨w, s, rfl, hv, hp⟩ := hp
    simp only [setParts] at h
    split at h
    · rename_i hi
      have hi : i + 1 ≤ n := Nat.le_of_ble_eq_true hi
      split at h
      · rename_i q hq
        have hfit : v.fits e = true := by
          cases v with
          | undef => cases e <;> simp [AV.pureAs] at hq
          | tnil => cases e <;> simp [AV.pureAs] at hq
          | tcons x y => cases e <;> simp [AV.pureAs] at hq
          | _ => exact (AV.pureAs_ok hij hv.2.2 hq).2
        have hval := slot_val hv hfit
        obtain ⟨rq, _⟩ := AV.pureAs_ok hij hval.2.2 hq
        have hsz : w.cells.size = e.sz := hval.2.1.trans (AV.fits_sz hfit)
        have h1 : (i + 1) * e.sz ≤ n * e.sz := Nat.mul_le_mul_right _ hi
        rw [Nat.succ_mul] at h1
        obtain ⟨f1, f2⟩ := fold_cells w (i * e.sz) cells
        obtain ⟨cells', g1, g2, g3⟩ := ih (cells := w.cells.zipIdx.foldl (fun cs (c, j) => cs.setIfInBounds (i * e.sz + j) c) cells) (m := m || q.1) (xs := xs.set i q.2) hp (f1.trans hs) (by simpa using hl) (fun k hk => by
          simp only [List.length_set] at hk
          have hk1 : (k + 1) * e.sz ≤ n * e.sz := Nat.mul_le_mul_right _ (by omega)
          rw [Nat.succ_mul] at hk1
          by_cases hki : k = i
          · subst hki
            rw [List.getElem_set_self]
            refine Rep.weaken' hij _ (Rep.congr (fun j hj => ?_) rq)
            rw [f2 _ (by omega), if_pos (by omega)]
            congr 1; omega
          · rw [List.getElem_set_ne (Ne.symm hki)]
            refine Rep.weaken hij _ (Rep.congr (fun j hj => ?_) (hr k hk))
            rw [f2 _ (by omega), if_neg ?_]
            rcases Nat.lt_or_gt_of_ne hki with h6 | h6
            · have h7 : (k + 1) * e.sz ≤ i * e.sz := Nat.mul_le_mul_right _ h6
              rw [Nat.succ_mul] at h7
              omega
            · have h7 : (i + 1) * e.sz ≤ k * e.sz := Nat.mul_le_mul_right _ h6
              rw [Nat.succ_mul] at h7
              omega) h
        refine ⟨cells', ?_, g2, g3⟩
        unfold Instr.fill
        dsimp only
        rw [if_neg (by simp [hsz]; omega)]
        exact g1
      · exact absurd h (by simp)
    · exact absurd h (by simp)
def aBuildSlice (tab : TTab) (ob : Objs) (id : Nat) (t : TypeId) (n : Nat) (ps : List (Nat × AV)) : Option (AV × Objs) :=
  match tab.find t, ob id with
  | some ⟨_, .slice e, _⟩, none => if Nat.ble (n * e.sz) 16777216 = true then (match setParts ob e n false (List.replicate n e.zero) ps with
    | some q => some (.row id 0, ob.put id (.row 0 q.1 e q.2))
    | none => none) else none
  | _, _ => none
theorem aBuildSlice_ok (F : Fits E X) (hT : tab.ok P = true) {id : Nat} {t : TypeId} {n : Nat} {ps : List (Nat × AV)} {parts : Array (Nat × Value)} (hp : PartsR X ps parts.toList) {r : AV} {ob' : Objs} (h : aBuildSlice tab X.objs id t n ps = some (r, ob')) :
    ∃ X' val, (Instr.buildSlice t n parts).run P X.w = .ok val X'.w ∧ SlotR X' r val ∧ Fits E X' ∧ X'.objs = ob' ∧ Evo X X' := by
  unfold aBuildSlice at h
  split at h
  · rename_i _ e _ ht hid
    split at h
    · rename_i hsm
      have hsm : n * e.sz ≤ 16777216 := Nat.le_of_ble_eq_true hsm
      split at h
      · rename_i q hq
        simp only [Option.some.injEq, Prod.mk.injEq] at h
        obtain ⟨rfl, rfl⟩ := h
        obtain ⟨te, hu, hte⟩ := TB_slice (TTab.find_ok hT ht).1
        obtain ⟨i, z, hi⟩ := TB_info hte
        obtain ⟨cells', g1, g2, g3, g4⟩ := setParts_ok F.ij (cells := madeCells z.cells (n * e.sz)) hp (size_madeCells _ _) (by simp) (fun k hk => by
          simp only [List.length_replicate] at hk
          simp only [List.getElem_replicate]
          exact zero_row hi.zsize hi.zrep _ _ _ hk) hq
        have hrun : (Instr.buildSlice t n parts).run P X.w = .ok (.slice (some ⟨X.w.heap.size, 0, none⟩) n n) (X.w.alloc (.cells cells' te)) := by
          by_cases h0 : n * e.sz = 0
          · have e0 : madeCells z.cells (n * e.sz) = #[] := by rw [h0]; simp [madeCells]
            rw [e0] at g1
            have hle : ¬ (2 ^ 24 < n * e.sz) := by omega
            have e1 : Array.range (n * e.sz) = #[] := by rw [h0]; rfl
            simp only [Instr.buildSlice, Sem.run_bind, run_under hu, Result.andThen_ok, run_size hte, gt_iff_lt, if_neg hle, if_pos h0, e1, Array.map_empty, Sem.run_pure]
            simp [g1, newRow]
          · refine run_buildSlice X.w t te n parts cells' i z hu hi.info hi.zero (by rw [hi.size]; omega) (by rw [hi.size]; exact h0) ?_
            rw [hi.size]; exact g1
        have hnew : (X.w.alloc (.cells cells' te)).heap[X.w.heap.size]? = some (.cells cells' te (0, 0)) := heap_alloc_at _ _
        obtain ⟨k1, k2, k3⟩ := putRow_ok F (o := id) (ver := 0) (m := q.1) (T := e) (xs := q.2) (l := ⟨X.w.heap.size, n, n, false⟩) (Turns.alloc X _) (fun b hb => hb.elim) (fun ob0 h0 => by rw [hid] at h0; exact absurd h0 (by simp))
          g3.symm rfl (.inr (F.fresh ⟨Nat.le_refl _, by show _ < (X.w.heap.push _).size; simp⟩)) hnew (by rw [g3]; exact Nat.le_refl _) (by rw [g2]; exact Nat.le_refl _) g4
        exact ⟨_, _, hrun, k1, k2, rfl, k3⟩
      · exact absurd h (by simp)
    · exact absurd h (by simp)
  · exact absurd h (by simp)

/-- One of several results. -/
def aExtract : AV → Nat → Option AV
  | .tcons a _, 0 => some a
  | .tcons _ b, n + 1 => aExtract b n
  | _, _ => none
theorem tup_get : ∀ {n : Nat} {a r : AV} {vs : List Value}, TupR X a vs → aExtract a n = some r → ∃ v, vs[n]? = some v ∧ ValR X r v := by
  intro n
  induction n with
  | zero =>
    intro a r vs h g
    cases a with
    | tcons a b =>
      simp only [aExtract, Option.some.injEq] at g
      subst g
      obtain ⟨v, s, rfl, hv, _⟩ := h
      exact ⟨v, rfl, hv⟩
    | _ => simp [aExtract] at g
  | succ n ih =>
    intro a r vs h g
    cases a with
    | tcons a b =>
      simp only [aExtract] at g
      obtain ⟨v, s, rfl, _, hs⟩ := h
      obtain ⟨u, hu, hr⟩ := ih hs g
      exact ⟨u, by simpa using hu, hr⟩
    | _ => simp [aExtract] at g
theorem slot_of_val {a : AV} {v : Value} (h : ValR X a v) : SlotR X a v := by
  cases a with
  | undef => trivial
  | tnil => exact h.2.2.elim
  | tcons x y => exact h.2.2.elim
  | _ => exact h
theorem aExtract_ok {n : Nat} {a r : AV} {v : Value} (h : SlotR X a v) (g : aExtract a n = some r) : ∃ val, (Instr.extract v n).run P X.w = .ok val X.w ∧ SlotR X r val := by
  cases a with
  | tcons a b =>
    obtain ⟨vs, rfl, ht⟩ := h
    obtain ⟨u, hu, hr⟩ := tup_get ht g
    have e : vs[n]? = some u := by simpa using hu
    exact ⟨u, by simp [Instr.extract, e], slot_of_val hr⟩
  | _ => cases n <;> simp [aExtract] at g

/-- A field of a struct at hand. -/
def aField (tab : TTab) (ob : Objs) (s : TypeId) (j : Nat) (a : AV) : Option AV :=
  match tab.find s with
  | some e => if a.fits e.T = true then (match Ty.at (fldPath j) e.T with
    | some (_, Tj) => match AV.get (fldPath j) a with
      | some r => if r.cur ob = true then some r else none
      | none => none
    | none => none) else none
  | none => none
theorem aField_ok (hT : tab.ok P = true) {s : TypeId} {j : Nat} {a r : AV} {v : Value} (h : SlotR X a v) (g : aField tab X.objs s j a = some r) : ∃ val, (Instr.field s v j).run P X.w = .ok val X.w ∧ SlotR X r val := by
  unfold aField at g
  split at g
  · rename_i e he
    split at g
    · rename_i hf
      split at g
      · rename_i off Tj hat
        split at g
        · rename_i r' hg
          split at g
          · rename_i hcur
            simp only [Option.some.injEq] at g
            subst g
            have hval := slot_val h hf
            obtain ⟨fs, hfs, f, hff, hoff, htb⟩ := TB_struct (TTab.find_ok hT he).1 hat
            obtain ⟨r1, r2⟩ := AV.get_ok hval.2.2 hf hat (fldPath_ok hat) hg
            have hle := Ty.at_le hat (fldPath_ok hat)
            have hsz : v.cells.size = e.T.sz := hval.2.1.trans (AV.fits_sz hf)
            have hag : e.T.isAgg = true := by
              cases hT' : e.T with
              | pair a b => rfl
              | _ => rw [hT'] at hat; cases j <;> simp [fldPath, Ty.at] at hat
            have hva : Value.isAgg v = true := hval.1.trans ((AV.fits_agg hf).trans hag)
            cases v with
            | agg cs =>
              have hcs : cs.size = e.T.sz := hsz
              have hok := AVR.okc r1 r2 hcur
              have hz := AV.fits_sz r2
              cases ha : Tj.isAgg with
              | true =>
                refine ⟨.agg (cs.extract off (off + Tj.sz)), by simp [Instr.field, run_under hfs, hff, asAgg, part, run_agg htb, ha, run_size htb, hoff], ?_⟩
                refine slot_agg r2 ha (by simp; omega) (AVR.congr (fun k hk => ?_) r1)
                rw [hz] at hk
                simp only [shift, cv, Value.cells]
                rw [Array.getElem?_extract]
                rw [if_pos (by omega)]
              | false =>
                have h1 : Tj.sz = 1 := by cases Tj <;> simp [Ty.isAgg] at ha <;> rfl
                obtain ⟨u, hu, hok⟩ := hok 0 (by omega)
                have hu' : cs[off]? = some u := hu
                refine ⟨u, by simp [Instr.field, run_under hfs, hff, asAgg, part, run_agg htb, ha, hoff, hu'], ?_⟩
                refine slot_of_val ⟨?_, ?_, AVR.congr (fun k hk => ?_) r1⟩
                · rw [AV.fits_agg r2, ha]; cases u <;> first | rfl | exact hok.elim
                · rw [hz, h1]; cases u <;> first | rfl | exact hok.elim
                · obtain rfl : k = 0 := by omega
                  rw [hu]; cases u <;> first | rfl | exact hok.elim
            | _ => simp [Value.isAgg] at hva
          · exact absurd g (by simp)
        · exact absurd g (by simp)
      · exact absurd g (by simp)
    · exact absurd g (by simp)
  · exact absurd g (by simp)

/-- The byte at a place of a text. -/
def strAt (s : ByteArray) (i : Int) : Int := match s[i.toNat]? with
  | some b => (b.toNat : Int)
  | none => 0
theorem run_index_str {t : TypeId} (hu : P.underlying t = some .string) {s : ByteArray} {k : IntKind} {i : Int} (h0 : 0 ≤ i) (h1 : i < (s.size : Int)) (w : World) : (Instr.index t (.string s) (.int k i)).run P w = .ok (.int .u8 (strAt s i)) w := by
  have hi : i.toNat < s.size := by omega
  have e : s[i.toNat]? = some s[i.toNat] := by rw [getElem?_pos]
  simp [Instr.index, asIntOf, run_under hu, h0, strAt, e]

/-- min and max of two whole numbers. -/
def aMinMax (isMax : Bool) : AV → AV → Option AV
  | .pv _ (.int k) a, .pv _ (.int k') b => if k = k' then some (pvI k (if isMax then (if b > a then b else a) else (if b < a then b else a))) else none
  | _, _ => none
end
end Go.Proofs.Ytbpfllifhpdlfaa.Ev
