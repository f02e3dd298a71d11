/- The abstract operations that read memory, or find a place in it. -/
import Derived.Test.YtbpfllifhpdlfaaE7
namespace Go.Proofs.Ytbpfllifhpdlfaa.Ev
open Go
set_option linter.unusedVariables false
set_option linter.unusedSimpArgs false

theorem Ty.at_append : ∀ {p q : List Step} {T T' T'' : Ty} {o o' : Nat}, Ty.at p T = some (o, T') → Ty.at q T' = some (o', T'') → Ty.at (p ++ q) T = some (o + o', T'') := by
  intro p
  induction p with
  | nil =>
    intro q T T' T'' o o' h g
    simp only [Ty.at, Option.some.injEq, Prod.mk.injEq] at h
    obtain ⟨rfl, rfl⟩ := h
    simpa using g
  | cons s p ih =>
    intro q T T' T'' o o' h g
    cases s with
    | fst =>
      cases T with
      | pair A B => simp only [Ty.at] at h; simp only [List.cons_append, Ty.at]; exact ih h g
      | _ => simp [Ty.at] at h
    | snd =>
      cases T with
      | pair A B =>
        simp only [Ty.at] at h
        cases hb : Ty.at p B with
        | none => simp [hb] at h
        | some r =>
          obtain ⟨o1, t1⟩ := r
          simp only [hb, Option.some.injEq, Prod.mk.injEq] at h
          obtain ⟨rfl, rfl⟩ := h
          simp only [List.cons_append, Ty.at, ih hb g, Nat.add_assoc]
      | _ => simp [Ty.at] at h
    | ix i =>
      cases T with
      | arr n e =>
        simp only [Ty.at] at h
        cases hb : Ty.at p e with
        | none => simp [hb] at h
        | some r =>
          obtain ⟨o1, t1⟩ := r
          simp only [hb, Option.some.injEq, Prod.mk.injEq] at h
          obtain ⟨rfl, rfl⟩ := h
          simp only [List.cons_append, Ty.at, ih hb g, Nat.add_assoc]
      | _ => simp [Ty.at] at h
theorem PathOk.append : ∀ {p q : List Step} {T T' : Ty} {o : Nat}, PathOk p T → Ty.at p T = some (o, T') → PathOk q T' → PathOk (p ++ q) T := by
  intro p
  induction p with
  | nil =>
    intro q T T' o _ h g
    simp only [Ty.at, Option.some.injEq, Prod.mk.injEq] at h
    obtain ⟨rfl, rfl⟩ := h
    simpa using g
  | cons s p ih =>
    intro q T T' o k h g
    cases s with
    | fst =>
      cases T with
      | pair A B => simp only [Ty.at] at h; exact ih (q := q) k h g
      | _ => simp [Ty.at] at h
    | snd =>
      cases T with
      | pair A B =>
        simp only [Ty.at] at h
        cases hb : Ty.at p B with
        | none => simp [hb] at h
        | some r =>
          simp only [hb, Option.some.injEq, Prod.mk.injEq] at h
          obtain ⟨rfl, rfl⟩ := h
          exact ih (q := q) k hb g
      | _ => simp [Ty.at] at h
    | ix i =>
      cases T with
      | arr n e =>
        simp only [Ty.at] at h
        cases hb : Ty.at p e with
        | none => simp [hb] at h
        | some r =>
          simp only [hb, Option.some.injEq, Prod.mk.injEq] at h
          obtain ⟨rfl, rfl⟩ := h
          exact ⟨k.1, ih (q := q) k.2 hb g⟩
      | _ => simp [Ty.at] at h
theorem fldPath_ok : ∀ {j : Nat} {T T' : Ty} {o : Nat}, Ty.at (fldPath j) T = some (o, T') → PathOk (fldPath j) T := by
  intro j
  induction j with
  | zero => intro T T' o h; cases T <;> simp [fldPath, Ty.at] at h; trivial
  | succ j ih =>
    intro T T' o h
    cases T with
    | pair A B =>
      simp only [fldPath, Ty.at] at h
      cases hb : Ty.at (fldPath j) B with
      | none => simp [hb] at h
      | some r => exact ih (T := B) (o := r.1) (T' := r.2) (by rw [hb])
    | _ => simp [fldPath, Ty.at] at h

section
variable {P : Program} {E : Fix} {X : Ctx} {tab : TTab}

theorem box_mem {o : Nat} {T : Ty} {a : AV} (F : Fits E X) (ho : X.objs o = some (.box T a)) : a.fits T = true ∧ AVR X a (mem X.w (X.φ o).blk 0) := ⟨(F.objs o _ ho).1, (F.objs o _ ho).2.2⟩
theorem box_cells {o : Nat} {T : Ty} {a : AV} (F : Fits E X) (ho : X.objs o = some (.box T a)) : ∃ cs te, X.w.heap[(X.φ o).blk]? = some (.cells cs te (0, 0)) ∧ cs.size = T.sz := (F.objs o _ ho).2.1
theorem row_mem {o v : Nat} {m : Bool} {T : Ty} {xs : List T.D} (F : Fits E X) (ho : X.objs o = some (.row v m T xs)) {i : Nat} (hi : i < xs.length) :
    Rep X.w (X.set m) T (xs.getD i T.zero) (mem X.w (X.φ o).blk (i * T.sz)) ∧ (X.φ o).nil = false := by
  obtain ⟨h1, h2, h3⟩ := F.objs o _ ho
  have hn : (X.φ o).nil = false := by
    cases hb : (X.φ o).nil with
    | false => rfl
    | true => have := h2 hb; subst this; simp at hi
  exact ⟨getD_rep (h3 hn).2.2 hi _, hn⟩

/-- What is loaded. -/
def aLoad (tab : TTab) (ob : Objs) (t : TypeId) : AV → Option AV
  | .bptr o p => match ob o, tab.find t with
    | some (.box T a), some e => match Ty.at p T with
      | some (_, T') => if T' = e.T then (match AV.get p a with
        | some r => if r.cur ob = true then some r else none
        | none => none) else none
      | none => none
    | _, _ => none
  | .rptr o v i p => match ob o, tab.find t with
    | some (.row v' m T xs), some e => match Ty.at p T with
      | some (_, T') => if T' = e.T ∧ Nat.beq v v' = true then AV.get p (.pv m T (xs.getD i T.zero)) else none
      | none => none
    | _, _ => none
  | .pp m T x => match tab.find t with
    | some e => if T = e.T then some (.pv m T x) else none
    | none => none
  | _ => none

theorem load_fin {t : TypeId} {T : Ty} (ht : (TB P T).1 t = true) {b off : Nat} {a : AV} (hr : AVR X a (mem X.w b off)) (hf : a.fits T = true) (hc : a.cur X.objs = true) :
    ∃ val, (Instr.loadAt t (.pointer (some ⟨b, off, none⟩))).run P X.w = .ok val X.w ∧ SlotR X a val := by
  have hz := AV.fits_sz hf
  obtain ⟨val, h1, h2, h3, h4⟩ := run_loadAt (P := P) (w := X.w) ht (b := b) (off := off) (fun j hj => AVR.okc hr hf hc j (by omega))
  refine ⟨val, h1, ?_⟩
  have : ValR X a val := ⟨h2.trans (AV.fits_agg hf).symm, h3.trans hz.symm, AVR.congr (fun j hj => h4 j (by omega)) hr⟩
  cases a with
  | undef => trivial
  | tnil => cases T <;> simp [AV.fits] at hf
  | tcons x y => cases T <;> simp [AV.fits] at hf
  | _ => exact this

theorem pure_cur (ob : Objs) (p : List Step) : ∀ {m : Bool} {T : Ty} {x : T.D} {r : AV}, AV.get p (.pv m T x) = some r → ∃ T' x', r = .pv m T' x' := by
  induction p with
  | nil => intro m T x r h; simp only [AV.get, Option.some.injEq] at h; exact ⟨T, x, h.symm⟩
  | cons s p ih =>
    intro m T x r h
    cases s <;> cases T <;> simp only [AV.get] at h <;> first | exact ih h | exact absurd h (by simp)

theorem aLoad_ok (F : Fits E X) (hT : tab.ok P = true) {t : TypeId} {p r : AV} {x : Value} (hp : SlotR X p x) (h : aLoad tab X.objs t p = some r) :
    ∃ val, (Instr.loadAt t x).run P X.w = .ok val X.w ∧ SlotR X r val := by
  unfold aLoad at h
  split at h
  · rename_i o p
    split at h
    · rename_i T a e ho he
      split at h
      · rename_i off T' hat
        split at h
        · rename_i hte
          split at h
          · rename_i r' hg
            split at h
            · rename_i hcur
              simp only [Option.some.injEq] at h
              subst h
              subst hte
              obtain ⟨hok, hx⟩ := slot_bptr hp ho
              rw [hx _ _ hat]
              obtain ⟨hf, hm⟩ := box_mem F ho
              obtain ⟨h1, h2⟩ := AV.get_ok hm hf hat hok hg
              rw [mem_shift, Nat.zero_add] at h1
              exact load_fin (TTab.find_ok hT he).1 h1 h2 hcur
            · exact absurd h (by simp)
          · exact absurd h (by simp)
        · exact absurd h (by simp)
      · exact absurd h (by simp)
    · exact absurd h (by simp)
  · rename_i o v i p
    split at h
    · rename_i v' m T xs e ho he
      split at h
      · rename_i off T' hat
        split at h
        · rename_i hte
          obtain ⟨hte, hv⟩ := hte
          obtain rfl := Nat.eq_of_beq_eq_true hv
          subst hte
          obtain ⟨hi, hok, hx⟩ := slot_rptr hp ho
          rw [hx _ _ hat]
          have hl : (X.φ o).len = xs.length := (F.objs o _ ho).1
          obtain ⟨hm, _⟩ := row_mem F ho (i := i) (by omega)
          obtain ⟨h1, h2⟩ := AV.get_ok (a := .pv m T (xs.getD i T.zero)) hm (by simp [AV.fits]) hat hok h
          rw [mem_shift] at h1
          obtain ⟨T2, x2, rfl⟩ := pure_cur X.objs p h
          exact load_fin (TTab.find_ok hT he).1 h1 h2 rfl
        · exact absurd h (by simp)
      · exact absurd h (by simp)
    · exact absurd h (by simp)
  · rename_i m T y
    split at h
    · rename_i e he
      split at h
      · rename_i hte
        simp only [Option.some.injEq] at h
        subst h
        obtain ⟨b, off, rfl, h1, h2⟩ := slot_pp hp
        exact load_fin (T := e.T) (TTab.find_ok hT he).1 h2 (by simp [AV.fits, hte]) rfl
      · exact absurd h (by simp)
    · exact absurd h (by simp)
  · exact absurd h (by simp)

/-- The place of a field. -/
def aFieldAddr (tab : TTab) (ob : Objs) (s : TypeId) (j : Nat) : AV → Option AV
  | .bptr o p => match ob o, tab.find s with
    | some (.box T _), some e => match Ty.at p T, Ty.at (fldPath j) e.T with
      | some (_, T'), some (_, Tj) => if T' = e.T ∧ Tj.sz ≠ 0 then some (.bptr o (p ++ fldPath j)) else none
      | _, _ => none
    | _, _ => none
  | .rptr o v i p => match ob o, tab.find s with
    | some (.row v' _ T _), some e => match Ty.at p T, Ty.at (fldPath j) e.T with
      | some (_, T'), some (_, Tj) => if T' = e.T ∧ Tj.sz ≠ 0 ∧ Nat.beq v v' = true then some (.rptr o v i (p ++ fldPath j)) else none
      | _, _ => none
    | _, _ => none
  | .pp m T x => match tab.find s with
    | some e => match Ty.at (fldPath j) e.T, AV.get (fldPath j) (.pv m T x) with
      | some (_, Tj), some (.pv m' T' x') => if T = e.T ∧ T' = Tj ∧ Tj.sz ≠ 0 then some (.pp m' T' x') else none
      | _, _ => none
    | none => none
  | _ => none

theorem run_fieldAt {s : TypeId} {T Tj : Ty} {off : Nat} {j : Nat} (hs : (TB P T).1 s = true) (hat : Ty.at (fldPath j) T = some (off, Tj)) (hz : Tj.sz ≠ 0) (b o : Nat) (w : World) :
    (Instr.fieldAt s (.pointer (some ⟨b, o, none⟩)) j).run P w = .ok (.pointer (some ⟨b, o + off, none⟩)) w := by
  obtain ⟨fs, hfs, f, hf, hoff, htb⟩ := TB_struct hs hat
  simp [Instr.fieldAt, run_under hfs, hf, Instr.sureAddr, fieldPlace, run_size htb, hz, hoff, Addr.add_lit]

theorem aFieldAddr_ok (F : Fits E X) (hT : tab.ok P = true) {s : TypeId} {j : Nat} {p r : AV} {x : Value} (hp : SlotR X p x) (h : aFieldAddr tab X.objs s j p = some r) :
    ∃ val, (Instr.fieldAt s x j).run P X.w = .ok val X.w ∧ SlotR X r val := by
  unfold aFieldAddr at h
  split at h
  · rename_i o p
    split at h
    · rename_i T a e ho he
      split at h
      · rename_i off T' oj Tj hat hatj
        split at h
        · rename_i hc
          obtain ⟨rfl, hz⟩ := hc
          simp only [Option.some.injEq] at h
          subst h
          obtain ⟨hok, hx⟩ := slot_bptr hp ho
          rw [hx _ _ hat]
          refine ⟨_, run_fieldAt (TTab.find_ok hT he).1 hatj hz _ _ _, rfl, rfl, ?_⟩
          simp only [AVR, ho]
          refine ⟨PathOk.append hok hat (fldPath_ok hatj), fun off' T'' h' => ?_⟩
          rw [Ty.at_append hat hatj] at h'
          simp only [Option.some.injEq, Prod.mk.injEq] at h'
          obtain ⟨rfl, rfl⟩ := h'
          rfl
        · exact absurd h (by simp)
      · exact absurd h (by simp)
    · exact absurd h (by simp)
  · rename_i o v i p
    split at h
    · rename_i v' m T xs e ho he
      split at h
      · rename_i off T' oj Tj hat hatj
        split at h
        · rename_i hc
          obtain ⟨rfl, hz, hv⟩ := hc
          obtain rfl := Nat.eq_of_beq_eq_true hv
          simp only [Option.some.injEq] at h
          subst h
          obtain ⟨hi, hok, hx⟩ := slot_rptr hp ho
          rw [hx _ _ hat]
          refine ⟨_, run_fieldAt (TTab.find_ok hT he).1 hatj hz _ _ _, rfl, rfl, ?_⟩
          simp only [AVR, ho]
          refine ⟨Nat.le_refl _, fun _ => ⟨hi, PathOk.append hok hat (fldPath_ok hatj), fun off' T'' h' => ?_⟩⟩
          rw [Ty.at_append hat hatj] at h'
          simp only [Option.some.injEq, Prod.mk.injEq] at h'
          obtain ⟨rfl, rfl⟩ := h'
          simp [cv, Value.cells, Nat.add_assoc]
        · exact absurd h (by simp)
      · exact absurd h (by simp)
    · exact absurd h (by simp)
  · rename_i m T y
    split at h
    · rename_i e he
      split at h
      · rename_i oj Tj m' T' x' hatj hg
        split at h
        · rename_i hc
          obtain ⟨rfl, rfl, hz⟩ := hc
          simp only [Option.some.injEq] at h
          subst h
          obtain ⟨b, off, rfl, h1, h2⟩ := slot_pp hp
          obtain ⟨h3, h4⟩ := AV.get_ok (a := .pv m e.T y) h2 (by simp [AV.fits]) hatj (fldPath_ok hatj) hg
          obtain ⟨T2, x2, e2⟩ := pure_cur X.objs _ hg
          injection e2 with e3 e4 e5
          subst e3
          rw [mem_shift] at h3
          exact ⟨_, run_fieldAt (TTab.find_ok hT he).1 hatj hz _ _ _, rfl, rfl, b, off + oj, rfl, h1, h3⟩
        · exact absurd h (by simp)
      · exact absurd h (by simp)
    · exact absurd h (by simp)
  · exact absurd h (by simp)

/-- The place of an element, once the index is known to lie within; and how many there are. -/
def aElem (tab : TTab) (ob : Objs) (t : TypeId) : AV → Option (Int × (Nat → AV))
  | .pv m (.slice e) xs => match tab.find t with
    | some ⟨_, .slice e', _⟩ => if e = e' then some ((xs.length : Int), fun i => .pp m e (xs.getD i e.zero)) else none
    | _ => none
  | .row o v => match ob o, tab.find t with
    | some (.row v' _ T xs), some ⟨_, .slice e', _⟩ => if T = e' ∧ Nat.beq v v' = true then some ((xs.length : Int), fun i => .rptr o v i []) else none
    | some (.imm v' m T xs), some ⟨_, .slice e', _⟩ => if T = e' ∧ Nat.beq v v' = true then some ((xs.length : Int), fun i => .pp m T (xs.getD i T.zero)) else none
    | _, _ => none
  | .bptr o p => match ob o, tab.find t with
    | some (.box T _), some ⟨_, .arr n e, _⟩ => match Ty.at p T with
      | some (_, T') => if T' = .arr n e then some ((n : Int), fun i => .bptr o (p ++ [.ix i])) else none
      | none => none
    | _, _ => none
  | .pp m (.arr n e) xs => match tab.find t with
    | some ⟨_, T', _⟩ => if T' = .arr n e then some ((n : Int), fun i => .pp m e (xs.getD i e.zero)) else none
    | none => none
  | _ => none

theorem run_indexAt_slice {t te : TypeId} {e : Ty} (hu : P.underlying t = some (.slice te)) (he : (TB P e).1 te = true) (b off len cap : Nat) (k : IntKind) (i : Int) (h0 : 0 ≤ i) (h1 : i < len) (w : World) :
    (Instr.indexAt t (.slice (some ⟨b, off, none⟩) len cap) (.int k i)).run P w = .ok (.pointer (some ⟨b, off + i.toNat * e.sz, none⟩)) w := by
  simp [Instr.indexAt, asIntOf, run_under hu, run_size he, h0, h1, Addr.add_lit]
theorem run_indexAt_arr {t te : TypeId} {e : Ty} {n : Nat} (hu : P.underlying t = some (.array n te)) (he : (TB P e).1 te = true) (b off : Nat) (k : IntKind) (i : Int) (h0 : 0 ≤ i) (h1 : i < n) (w : World) :
    (Instr.indexAt t (.pointer (some ⟨b, off, none⟩)) (.int k i)).run P w = .ok (.pointer (some ⟨b, off + i.toNat * e.sz, none⟩)) w := by
  simp [Instr.indexAt, asIntOf, run_under hu, run_size he, h0, h1, Addr.add_lit, Instr.sureAddr]

theorem aElem_ok (F : Fits E X) (hT : tab.ok P = true) {t : TypeId} {p : AV} {x : Value} (hp : SlotR X p x) {n : Int} {f : Nat → AV} (h : aElem tab X.objs t p = some (n, f)) {k : IntKind} {i : Int} (h0 : 0 ≤ i) (h1 : i < n) :
    ∃ val, (Instr.indexAt t x (.int k i)).run P X.w = .ok val X.w ∧ SlotR X (f i.toNat) val := by
  unfold aElem at h
  split at h
  · rename_i m e xs
    split at h
    · rename_i _ e' _ ht
      split at h
      · rename_i hee
        subst hee
        simp only [Option.some.injEq, Prod.mk.injEq] at h
        obtain ⟨rfl, rfl⟩ := h
        obtain ⟨te, hu, hte⟩ := TB_slice (TTab.find_ok hT ht).1
        obtain ⟨ad, cap, rfl, hcap, hr⟩ := slot_slice hp
        obtain ⟨b, off, rfl, hb, hr⟩ := hr (by omega)
        exact ⟨_, run_indexAt_slice hu hte b off _ cap k i h0 h1 _, rfl, rfl, b, _, rfl, hb, getD_rep hr (i := i.toNat) (by omega) _⟩
      · exact absurd h (by simp)
    · exact absurd h (by simp)
  · rename_i o v
    split at h
    · rename_i v' m T xs _ e' _ ho ht
      split at h
      · rename_i hc
        obtain ⟨rfl, hv⟩ := hc
        obtain rfl := Nat.eq_of_beq_eq_true hv
        simp only [Option.some.injEq, Prod.mk.injEq] at h
        obtain ⟨rfl, rfl⟩ := h
        obtain ⟨te, hu, hte⟩ := TB_slice (TTab.find_ok hT ht).1
        have hx := slot_row hp ho
        have hl : (X.φ o).len = xs.length := (F.objs o _ ho).1
        obtain ⟨_, hn⟩ := row_mem F ho (i := i.toNat) (by omega)
        rw [hx, Loc.sl, hn]
        refine ⟨_, run_indexAt_slice hu hte _ 0 _ _ k i h0 (by omega) _, rfl, rfl, ?_⟩
        simp only [AVR, ho]
        refine ⟨Nat.le_refl _, fun _ => ⟨by omega, trivial, fun off T' h' => ?_⟩⟩
        simp only [Ty.at, Option.some.injEq, Prod.mk.injEq] at h'
        obtain ⟨rfl, rfl⟩ := h'
        simp [cv, Value.cells]
      · exact absurd h (by simp)
    · rename_i v' m T xs _ e' _ ho ht
      split at h
      · rename_i hc
        obtain ⟨rfl, hv⟩ := hc
        obtain rfl := Nat.eq_of_beq_eq_true hv
        simp only [Option.some.injEq, Prod.mk.injEq] at h
        obtain ⟨rfl, rfl⟩ := h
        obtain ⟨te, hu, hte⟩ := TB_slice (TTab.find_ok hT ht).1
        have hx := slot_imm hp ho
        obtain ⟨hl, ad, cap, hsl, hcap, hr⟩ := F.objs o _ ho
        simp only [Option.some.injEq] at hsl
        obtain ⟨b, off, rfl, hb, hr⟩ := hr (by omega)
        rw [hx, hsl]
        exact ⟨_, run_indexAt_slice hu hte b off _ cap k i h0 h1 _, rfl, rfl, b, _, rfl, hb, getD_rep hr (i := i.toNat) (by omega) _⟩
      · exact absurd h (by simp)
    · exact absurd h (by simp)
  · rename_i o p
    split at h
    · rename_i T a _ n' e _ ho ht
      split at h
      · rename_i off T' hat
        split at h
        · rename_i hc
          subst hc
          simp only [Option.some.injEq, Prod.mk.injEq] at h
          obtain ⟨rfl, rfl⟩ := h
          obtain ⟨te, hu, hte⟩ := TB_arr (TTab.find_ok hT ht).1
          obtain ⟨hok, hx⟩ := slot_bptr hp ho
          rw [hx _ _ hat]
          refine ⟨_, run_indexAt_arr hu hte _ off k i h0 h1 _, rfl, rfl, ?_⟩
          have hix : Ty.at [.ix i.toNat] (.arr n' e) = some (i.toNat * e.sz, e) := by simp [Ty.at]
          simp only [AVR, ho]
          refine ⟨PathOk.append hok hat ⟨by omega, trivial⟩, fun off' T'' h' => ?_⟩
          rw [Ty.at_append hat hix] at h'
          simp only [Option.some.injEq, Prod.mk.injEq] at h'
          obtain ⟨rfl, rfl⟩ := h'
          rfl
        · exact absurd h (by simp)
      · exact absurd h (by simp)
    · exact absurd h (by simp)
  · rename_i m n' e xs
    split at h
    · rename_i _ T' _ ht
      split at h
      · rename_i hc
        subst hc
        simp only [Option.some.injEq, Prod.mk.injEq] at h
        obtain ⟨rfl, rfl⟩ := h
        obtain ⟨te, hu, hte⟩ := TB_arr (TTab.find_ok hT ht).1
        obtain ⟨b, off, rfl, hb, hl, hr⟩ := slot_pp hp
        refine ⟨_, run_indexAt_arr hu hte _ off k i h0 h1 _, rfl, rfl, b, _, rfl, hb, ?_⟩
        have := getD_rep hr (i := i.toNat) (by omega) e.zero
        rw [mem_shift] at this
        exact this
      · exact absurd h (by simp)
    · exact absurd h (by simp)
  · exact absurd h (by simp)
end
end Go.Proofs.Ytbpfllifhpdlfaa.Ev
