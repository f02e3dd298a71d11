/- The abstract operations that write memory, or make it. -/
import Derived.Test.YtbpfllifhpdlfaaE8
namespace Go.Proofs.Ytbpfllifhpdlfaa.Ev
open Go
set_option linter.unusedVariables false
set_option linter.unusedSimpArgs false

section
variable {P : Program} {E : Fix} {X : Ctx} {tab : TTab}

/-- It may be put into memory as a value of that type. -/
def AV.okFor (ob : Objs) (T : Ty) (a : AV) : Bool := a.fits T && a.cur ob
theorem slot_val {T : Ty} {a : AV} {v : Value} (h : SlotR X a v) (hf : a.fits T = true) : ValR X a v := by
  cases a with
  | undef => cases T <;> simp [AV.fits] at hf
  | tnil => cases T <;> simp [AV.fits] at hf
  | tcons x y => cases T <;> simp [AV.fits] at hf
  | _ => exact h
theorem val_cells {T : Ty} {a : AV} {v : Value} (h : ValR X a v) (hf : a.fits T = true) (hc : a.cur X.objs = true) : v.cells.size = T.sz ∧ ∀ j, j < T.sz → ∃ u, cv v j = some u ∧ okCell u := by
  have hz := AV.fits_sz hf
  exact ⟨h.2.1.trans hz, fun j hj => AVR.okc h.2.2 hf hc j (by omega)⟩

theorem rep_mem_of_eq {w : World} {I : Bs} {T : Ty} {x : T.D} {c c' : Cs} (h : ∀ j, j < T.sz → c' j = c j) (r : Rep w I T x c) : Rep w I T x c' := Rep.congr h r

/-- What memory is told to be behind a store. -/
def aStore (tab : TTab) (ob : Objs) (t : TypeId) (p v : AV) : Option Objs :=
  match tab.find t with
  | none => none
  | some e =>
    if v.okFor ob e.T = true then
      match p with
      | .bptr o p => match ob o with
        | some (.box T a) => match Ty.at p T with
          | some (_, T') => if T' = e.T then (match AV.upd p a v with
            | some a' => some (ob.put o (.box T a'))
            | none => none) else none
          | none => none
        | _ => none
      | .rptr o v0 i p => match ob o with
        | some (.row v' m T xs) => match Ty.at p T with
          | some (_, T') => if T' = e.T ∧ Nat.beq v0 v' = true then (match AV.upd p (.pv m T (xs.getD i T.zero)) v with
            | some a' => match a'.pureAs T with
              | some q => some (ob.put o (.row v' (m || q.1) T (xs.set i q.2)))
              | none => none
            | none => none) else none
          | none => none
        | _ => none
      | _ => none
    else none

theorem aStore_ok (F : Fits E X) (hT : tab.ok P = true) {t : TypeId} {p v : AV} {x y : Value} (hp : SlotR X p x) (hv : SlotR X v y) {ob' : Objs} (h : aStore tab X.objs t p v = some ob') :
    ∃ X', (Instr.storeAt t x y).run P X.w = .ok () X'.w ∧ Fits E X' ∧ X'.objs = ob' ∧ Evo X X' := by
  unfold aStore at h
  split at h
  · exact absurd h (by simp)
  · rename_i e he
    split at h
    · rename_i hok
      unfold AV.okFor at hok
      simp only [Bool.and_eq_true] at hok
      obtain ⟨hfit, hcur⟩ := hok
      have hval := slot_val hv hfit
      obtain ⟨hsz, hcells⟩ := val_cells hval hfit hcur
      split at h
      · rename_i o p
        split at h
        · rename_i T a ho
          split at h
          · rename_i off T' hat
            split at h
            · rename_i hte
              subst hte
              split at h
              · rename_i a' hu
                simp only [Option.some.injEq] at h
                subst h
                obtain ⟨hpo, hx⟩ := slot_bptr hp ho
                rw [hx _ _ hat]
                obtain ⟨hf, hm⟩ := box_mem F ho
                obtain ⟨cs, te, hb, hcs⟩ := box_cells F ho
                have hle := Ty.at_le hat hpo
                obtain ⟨cs', hst, hs1, hs2, hs3⟩ := run_storeAt (P := P) (off := off) (TTab.find_ok hT he).1 hb hsz (by omega) hcells
                refine ⟨X.put (X.w.setRow (X.φ o).blk cs') o (.box T a') (X.φ o), hst, ?_⟩
                have hown : Own X.objs X.φ o (X.φ o).blk := by unfold Own; rw [ho]
                obtain ⟨h1, h2⟩ := Fits.put F (o := o) (ob := .box T a') (l := X.φ o) (Turns.setRow X _ cs') (fun b hb => hb ▸ hown) (fun ob0 h0 => by
                    rw [ho] at h0; obtain rfl := Option.some.inj h0; exact ⟨rfl, rfl⟩)
                  (fun b hb => .inl (by have : b = (X.φ o).blk := hb; rw [this]; exact hown)) (fun _ _ _ _ hh => by cases hh) (fun hev => by
                    have hrow : (X.w.setRow (X.φ o).blk cs').heap[(X.φ o).blk]? = some (.cells cs' te (0, 0)) := setRow_heap _ _ _ _ _ _ hb
                    have hm0 : ∀ j, mem X.w (X.φ o).blk 0 j = cs[j]? := fun j => by rw [mem_cells hb, Nat.zero_add]
                    have hm1 : ∀ j, mem (X.w.setRow (X.φ o).blk cs') (X.φ o).blk 0 j = cs'[j]? := fun j => by rw [mem_cells hrow, Nat.zero_add]
                    obtain ⟨r1, r2⟩ := AV.upd_ok F.ij (c' := fun j => cs'[j]?) hm hf hat hpo hfit (AVR.congr (fun j hj => by
                        simp only [shift]; exact hs2 j (by rw [AV.fits_sz hfit] at hj; exact hj)) hval.2.2) (fun j hj hout => by
                        rw [hm0]; exact hs3 j hout) hu
                    refine ⟨r2, ⟨cs', te, hrow, hs1.trans hcs⟩, ?_⟩
                    exact AVR.congr (fun j _ => hm1 j) (r1.evo hev))
                exact ⟨h1, rfl, h2⟩
              · exact absurd h (by simp)
            · exact absurd h (by simp)
          · exact absurd h (by simp)
        · exact absurd h (by simp)
      · rename_i o v0 i p
        split at h
        · rename_i v' m T xs ho
          split at h
          · rename_i off T' hat
            split at h
            · rename_i hte
              obtain ⟨hte, hver⟩ := hte
              subst hte
              obtain rfl := Nat.eq_of_beq_eq_true hver
              split at h
              · rename_i a' hu
                split at h
                · rename_i q hq
                  simp only [Option.some.injEq] at h
                  subst h
                  obtain ⟨hi, hpo, hx⟩ := slot_rptr hp ho
                  rw [hx _ _ hat]
                  obtain ⟨hl, hnil, hr⟩ := F.objs o _ ho
                  have hi' : i < xs.length := by omega
                  obtain ⟨hm, hn⟩ := row_mem F ho hi'
                  obtain ⟨⟨cs, te, hb, hcs⟩, hcap, hr⟩ := hr hn
                  have hle := Ty.at_le hat hpo
                  have hi2 : (i + 1) * T.sz ≤ (X.φ o).cap * T.sz := Nat.mul_le_mul_right _ (by omega)
                  rw [Nat.succ_mul] at hi2
                  obtain ⟨cs', hst, hs1, hs2, hs3⟩ := run_storeAt (P := P) (b := (X.φ o).blk) (off := i * T.sz + off) (TTab.find_ok hT he).1 hb hsz (by omega) hcells
                  refine ⟨X.put (X.w.setRow (X.φ o).blk cs') o (.row v0 (m || q.1) T (xs.set i q.2)) (X.φ o), hst, ?_⟩
                  have hown : Own X.objs X.φ o (X.φ o).blk := by unfold Own; rw [ho]; exact ⟨hn, rfl⟩
                  obtain ⟨h1, h2⟩ := Fits.put F (o := o) (ob := .row v0 (m || q.1) T (xs.set i q.2)) (l := X.φ o) (Turns.setRow X _ cs') (fun b hb => hb ▸ hown) (fun ob0 h0 => by
                      rw [ho] at h0; obtain rfl := Option.some.inj h0; exact ⟨rfl, Nat.le_refl _, fun _ => rfl⟩)
                    (fun b hb => .inl (by have : b = (X.φ o).blk := hb.2; rw [this]; exact hown)) (fun _ _ _ _ _ hnn => F.rown o _ _ _ _ ho hnn) (fun hev => by
                      have hrow : (X.w.setRow (X.φ o).blk cs').heap[(X.φ o).blk]? = some (.cells cs' te (0, 0)) := setRow_heap _ _ _ _ _ _ hb
                      have hm1 : ∀ k j, mem (X.w.setRow (X.φ o).blk cs') (X.φ o).blk k j = cs'[k + j]? := fun k j => mem_cells hrow j
                      have hm0 : ∀ k j, mem X.w (X.φ o).blk k j = cs[k + j]? := fun k j => mem_cells hb j
                      obtain ⟨r1, r2⟩ := AV.upd_ok F.ij (a := .pv m T (xs.getD i T.zero)) (c' := fun j => cs'[i * T.sz + j]?) hm (by simp [AV.fits]) hat hpo hfit (AVR.congr (fun j hj => by
                          simp only [shift]
                          rw [← Nat.add_assoc]
                          exact hs2 j (by rw [AV.fits_sz hfit] at hj; exact hj)) hval.2.2) (fun j hj hout => by
                          rw [hm0]; exact hs3 _ (by omega)) hu
                      obtain ⟨rq, _⟩ := AV.pureAs_ok F.ij r1 hq
                      refine ⟨by simp [hl], fun hnn => absurd hnn (by rw [hn]; simp), fun _ => ⟨⟨cs', te, hrow, by omega⟩, by simpa using hcap, fun k hk => ?_⟩⟩
                      simp only [List.length_set] at hk
                      show Rep (X.put _ o _ _).w ((X.put (X.w.setRow (X.φ o).blk cs') o (.row v0 (m || q.1) T (xs.set i q.2)) (X.φ o)).set (m || q.1)) T _ _
                      by_cases hki : k = i
                      · subst hki
                        rw [List.getElem_set_self]
                        have h3 : Rep X.w (X.set (m || q.1)) T q.2 (fun j => cs'[k * T.sz + j]?) := Rep.weaken' F.ij _ rq
                        exact Rep.congr (fun j _ => hm1 _ j) (Rep.evo hev h3)
                      · rw [List.getElem_set_ne (Ne.symm hki)]
                        have h3 : Rep X.w (X.set (m || q.1)) T xs[k] (mem X.w (X.φ o).blk (k * T.sz)) := Rep.weaken F.ij _ (hr k hk)
                        refine Rep.congr (fun j hj => ?_) (Rep.evo hev h3)
                        show mem (X.w.setRow (X.φ o).blk cs') (X.φ o).blk (k * T.sz) j = mem X.w (X.φ o).blk (k * T.sz) j
                        rw [hm1, hm0]
                        refine hs3 _ ?_
                        rcases Nat.lt_or_gt_of_ne hki with h6 | h6
                        · have h7 : (k + 1) * T.sz ≤ i * T.sz := Nat.mul_le_mul_right _ h6
                          rw [Nat.succ_mul] at h7
                          left; omega
                        · have h7 : (i + 1) * T.sz ≤ k * T.sz := Nat.mul_le_mul_right _ h6
                          rw [Nat.succ_mul] at h7
                          right; omega)
                  exact ⟨h1, rfl, h2⟩
                · exact absurd h (by simp)
              · exact absurd h (by simp)
            · exact absurd h (by simp)
          · exact absurd h (by simp)
        · exact absurd h (by simp)
      · exact absurd h (by simp)
    · exact absurd h (by simp)

/-- A new variable: the pointer to it, and the memory then. -/
def aNew (ob : Objs) (id : Nat) (T : Ty) (v : AV) : Option (AV × Objs) :=
  match ob id with
  | none => if v.okFor ob T = true then some (.bptr id [], ob.put id (.box T v)) else none
  | some _ => none
theorem aNew_ok (F : Fits E X) {id : Nat} {T : Ty} {v r : AV} {ob' : Objs} (h : aNew X.objs id T v = some (r, ob')) {y : Value} (hv : ValR X v y) (te : TypeId) :
    ∃ X', X'.w = X.w.alloc (.cells y.cells te) ∧ SlotR X' r (.pointer (some ⟨X.w.heap.size, 0, none⟩)) ∧ Fits E X' ∧ X'.objs = ob' ∧ Evo X X' := by
  unfold aNew at h
  split at h
  · rename_i hid
    split at h
    · rename_i hok
      unfold AV.okFor at hok
      simp only [Bool.and_eq_true] at hok
      obtain ⟨hfit, hcur⟩ := hok
      simp only [Option.some.injEq, Prod.mk.injEq] at h
      obtain ⟨rfl, rfl⟩ := h
      obtain ⟨hsz, hcells⟩ := val_cells hv hfit hcur
      have hnew : (X.w.alloc (.cells y.cells te)).heap[X.w.heap.size]? = some (.cells y.cells te (0, 0)) := heap_alloc_at _ _
      obtain ⟨h1, h2⟩ := Fits.put F (o := id) (ob := .box T v) (l := ⟨X.w.heap.size, 0, 0, false⟩) (Turns.alloc X (.cells y.cells te)) (fun b hb => hb.elim) (fun ob0 h0 => by rw [hid] at h0; exact absurd h0 (by simp))
        (fun b hb => .inr (by
          have : b = X.w.heap.size := hb
          subst this
          refine F.fresh ⟨Nat.le_refl _, ?_⟩
          show _ < (X.w.heap.push _).size
          simp)) (fun _ _ _ _ hh => by cases hh) (fun hev => by
          refine ⟨hfit, ⟨y.cells, te, hnew, hsz⟩, ?_⟩
          refine AVR.congr (fun j _ => ?_) (hv.2.2.evo hev)
          show mem (X.w.alloc (.cells y.cells te)) X.w.heap.size 0 j = cv y j
          rw [mem_cells hnew, Nat.zero_add]; rfl)
      refine ⟨_, rfl, ?_, h1, rfl, h2⟩
      refine ⟨rfl, rfl, ?_⟩
      have e : (X.put (X.w.alloc (.cells y.cells te)) id (.box T v) ⟨X.w.heap.size, 0, 0, false⟩).objs id = some (.box T v) := Objs.put_same _ _ _
      simp only [AVR, e, Ctx.put_φ_same]
      refine ⟨trivial, fun off T' h' => ?_⟩
      simp only [Ty.at, Option.some.injEq, Prod.mk.injEq] at h'
      obtain ⟨rfl, rfl⟩ := h'
      rfl
    · exact absurd h (by simp)
  · exact absurd h (by simp)
def aAlloc (tab : TTab) (ob : Objs) (id : Nat) (t : TypeId) : Option (AV × Objs) :=
  match tab.find t with
  | some e => aNew ob id e.T (zeroAV e.T)
  | none => none
theorem aAlloc_ok (F : Fits E X) (hT : tab.ok P = true) {id : Nat} {t : TypeId} {r : AV} {ob' : Objs} (h : aAlloc tab X.objs id t = some (r, ob')) :
    ∃ X' val, (Instr.alloc t true (.tuple #[])).run P X.w = .ok val X'.w ∧ SlotR X' r val ∧ Fits E X' ∧ X'.objs = ob' ∧ Evo X X' := by
  unfold aAlloc at h
  split at h
  · rename_i e he
    obtain ⟨i, z, hi⟩ := TB_info (TTab.find_ok hT he).1
    obtain ⟨X', h1, h2, h3⟩ := aNew_ok F h (y := z) ⟨hi.zagg.trans (AV.fits_agg (zeroAV_fits e.T)).symm, hi.zsize.trans (AV.fits_sz (zeroAV_fits e.T)).symm, hi.zav _⟩ t
    exact ⟨X', _, by rw [run_alloc hi.info hi.zero, h1], h2, h3⟩
  · exact absurd h (by simp)
def aBox (tab : TTab) (ob : Objs) (id : Nat) (t : TypeId) (v : AV) : Option (AV × Objs) :=
  match tab.find t with
  | some e => aNew ob id e.T v
  | none => none
theorem aNew_fits {ob : Objs} {id : Nat} {T : Ty} {v r : AV} {ob' : Objs} (h : aNew ob id T v = some (r, ob')) : v.fits T = true := by
  unfold aNew at h
  split at h
  · split at h
    · rename_i hok
      unfold AV.okFor at hok
      simp only [Bool.and_eq_true] at hok
      exact hok.1
    · exact absurd h (by simp)
  · exact absurd h (by simp)
theorem aBox_ok (F : Fits E X) {id : Nat} {t : TypeId} {v r : AV} {ob' : Objs} (h : aBox tab X.objs id t v = some (r, ob')) {y : Value} (hv : SlotR X v y) :
    ∃ X' val, (Instr.box t y).run P X.w = .ok val X'.w ∧ SlotR X' r val ∧ Fits E X' ∧ X'.objs = ob' ∧ Evo X X' := by
  unfold aBox at h
  split at h
  · rename_i e he
    obtain ⟨X', h1, h2, h3⟩ := aNew_ok F h (slot_val hv (aNew_fits h)) t
    exact ⟨X', _, by rw [run_box, h1], h2, h3⟩
  · exact absurd h (by simp)
end
end Go.Proofs.Ytbpfllifhpdlfaa.Ev
