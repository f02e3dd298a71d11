/- Rows: slices that are made, filled and appended to. -/
import Derived.Test.YtbpfllifhpdlfaaE9
import Derived.Laws.MakeOwn
namespace Go.Proofs.Ytbpfllifhpdlfaa.Ev
open Go
set_option linter.unusedVariables false
set_option linter.unusedSimpArgs false

theorem fold_get (off : Nat) : ∀ (vs : List Value) (k0 : Nat) (cells : Array Value), ((vs.zipIdx k0).foldl (fun cs (x : Value × Nat) => cs.setIfInBounds (off + x.2) x.1) cells).size = cells.size ∧
    ∀ i, i < cells.size → ((vs.zipIdx k0).foldl (fun cs (x : Value × Nat) => cs.setIfInBounds (off + x.2) x.1) cells)[i]? = if off + k0 ≤ i ∧ i < off + k0 + vs.length then vs[i - (off + k0)]? else cells[i]? := by
  intro vs
  induction vs with
  | nil => intro k0 cells; refine ⟨rfl, fun i hi => ?_⟩; rw [if_neg (by simp only [List.length_nil]; omega)]; rfl
  | cons v vs ih =>
    intro k0 cells
    obtain ⟨h1, h2⟩ := ih (k0 + 1) (cells.setIfInBounds (off + k0) v)
    simp only [List.zipIdx_cons, List.foldl_cons]
    refine ⟨by rw [h1]; simp, fun i hi => ?_⟩
    rw [h2 i (by simpa using hi)]
    by_cases e : i = off + k0
    · subst e
      rw [if_neg (by omega), if_pos (by simp)]
      simp [hi]
    · by_cases e2 : off + (k0 + 1) ≤ i ∧ i < off + (k0 + 1) + vs.length
      · rw [if_pos e2, if_pos (by simp; omega)]
        have : i - (off + k0) = (i - (off + (k0 + 1))) + 1 := by omega
        rw [this]
        simp
      · rw [if_neg e2, if_neg (by simp; omega)]
        rw [Array.getElem?_setIfInBounds_ne (by omega)]

section
variable {P : Program} {E : Fix} {X : Ctx} {tab : TTab}

/-- A slice's elements, as they can be read. -/
def srcOf (ob : Objs) (e : Ty) : AV → Option (Bool × List e.D)
  | .row o v => match ob o with
    | some (.row v' m T xs) => if h : T = e then (if Nat.beq v v' = true then some (m, h ▸ xs) else none) else none
    | some (.imm v' m T xs) => if h : T = e then (if Nat.beq v v' = true then some (m, h ▸ xs) else none) else none
    | _ => none
  | .nilv => some (false, [])
  | .pv m T x => AV.pureAs (.slice e) (.pv m T x)
  | _ => none
/-- Where they lie. -/
def SrcR (X : Ctx) (e : Ty) (m : Bool) (ys : List e.D) (v : Value) : Prop :=
  ∃ ad cap, v = .slice ad ys.length cap ∧ ys.length ≤ cap ∧ (0 < ys.length → ∃ b off, ad = some ⟨b, off, none⟩ ∧ ∀ i (h : i < ys.length), Rep X.w (X.set m) e ys[i] (mem X.w b (off + i * e.sz)))
theorem sl_src {l : Loc} {e : Ty} {m : Bool} {ys : List e.D} (h1 : l.len = ys.length) (h2 : l.nil = true → ys = []) (h3 : l.nil = false → ys.length ≤ l.cap ∧ ∀ i (h : i < ys.length), Rep X.w (X.set m) e ys[i] (mem X.w l.blk (i * e.sz))) : SrcR X e m ys l.sl := by
  cases hn : l.nil with
  | true =>
    obtain rfl := h2 hn
    exact ⟨none, 0, by simp [Loc.sl, hn], Nat.le_refl _, fun hp => absurd hp (by simp)⟩
  | false =>
    obtain ⟨h4, h5⟩ := h3 hn
    refine ⟨some ⟨l.blk, 0, none⟩, l.cap, by simp [Loc.sl, hn, h1], h4, fun _ => ⟨l.blk, 0, rfl, fun i hi => ?_⟩⟩
    rw [Nat.zero_add]; exact h5 i hi
theorem srcOf_ok (F : Fits E X) {e : Ty} {a : AV} {v : Value} (hs : SlotR X a v) {p : Bool × List e.D} (h : srcOf X.objs e a = some p) : SrcR X e p.1 p.2 v := by
  unfold srcOf at h
  split at h
  · rename_i o w
    split at h
    · rename_i v' m T xs ho
      split at h
      · rename_i hT
        subst hT
        split at h
        · rename_i hv
          obtain rfl := Nat.eq_of_beq_eq_true hv
          simp only [Option.some.injEq] at h
          subst h
          rw [slot_row hs ho]
          obtain ⟨h1, h2, h3⟩ := F.objs o _ ho
          exact sl_src h1 h2 (fun hn => ⟨(h3 hn).2.1, (h3 hn).2.2⟩)
        · exact absurd h (by simp)
      · exact absurd h (by simp)
    · rename_i v' m T xs ho
      split at h
      · rename_i hT
        subst hT
        split at h
        · rename_i hv
          obtain rfl := Nat.eq_of_beq_eq_true hv
          simp only [Option.some.injEq] at h
          subst h
          rw [slot_imm hs ho]
          obtain ⟨h1, ad, cap, h2, h3, h4⟩ := F.objs o _ ho
          simp only [Option.some.injEq] at h2
          refine ⟨ad, cap, h2, h3, fun hp => ?_⟩
          obtain ⟨b, off, e1, _, e2⟩ := h4 hp
          exact ⟨b, off, e1, e2⟩
        · exact absurd h (by simp)
      · exact absurd h (by simp)
    · exact absurd h (by simp)
  · simp only [Option.some.injEq] at h
    subst h
    obtain rfl := slot_nil hs
    exact ⟨none, 0, rfl, Nat.le_refl _, fun hp => absurd hp (by simp)⟩
  · rename_i m T x
    rw [AV.pureAs_pv] at h
    split at h
    · rename_i hT
      subst hT
      simp only [Option.some.injEq] at h
      subst h
      obtain ⟨ad, cap, e1, e2, e3⟩ := slot_slice hs
      refine ⟨ad, cap, e1, e2, fun hp => ?_⟩
      obtain ⟨b, off, f1, _, f2⟩ := e3 hp
      exact ⟨b, off, f1, by simpa [Ty.flat] using f2⟩
    · exact absurd h (by simp)
  · exact absurd h (by simp)

/-- How long a slice, a text or an array is. -/
def aLen (tab : TTab) (ob : Objs) (t : TypeId) (a : AV) : Option Int :=
  match tab.find t with
  | some ⟨_, .slice e, _⟩ => match srcOf ob e a with
    | some p => some (p.2.length : Int)
    | none => none
  | some ⟨_, .str, _⟩ => match a with
    | .pv _ .str s => some (s.size : Int)
    | _ => none
  | some ⟨_, .arr n _, _⟩ => some (n : Int)
  | _ => none
theorem aLen_ok (F : Fits E X) (hT : tab.ok P = true) {t ty : TypeId} {a : AV} {v : Value} (hs : SlotR X a v) {n : Int} (h : aLen tab X.objs t a = some n) : (Builtin.len_ #[t] ty #[v]).run P X.w = .ok (.int .i64 n) X.w := by
  unfold aLen at h
  split at h
  · rename_i _ e _ ht
    split at h
    · rename_i p hp
      simp only [Option.some.injEq] at h
      subst h
      obtain ⟨te, hu, _⟩ := TB_slice (TTab.find_ok hT ht).1
      obtain ⟨ad, cap, rfl, _⟩ := srcOf_ok F hs hp
      simp [Builtin.len_, run_under hu, goInt]
    · exact absurd h (by simp)
  · rename_i _ _ ht
    split at h
    · simp only [Option.some.injEq] at h
      subst h
      have hu := TB_str (TTab.find_ok hT ht).1
      obtain rfl := slot_str hs
      simp [Builtin.len_, run_under hu, goInt]
    · exact absurd h (by simp)
  · rename_i _ n' e _ ht
    simp only [Option.some.injEq] at h
    subst h
    obtain ⟨te, hu, _⟩ := TB_arr (TTab.find_ok hT ht).1
    simp [Builtin.len_, run_under hu, goInt]
  · exact absurd h (by simp)

/-- A row is put: a new one, or one that turns. -/
theorem putRow_ok (F : Fits E X) {o : Nat} {w' : World} {mine : Bs} {l : Loc} {ver : Nat} {m : Bool} {T : Ty} {xs : List T.D} {cs : Array Value} {te : TypeId}
    (hw : Turns X w' mine) (hm : ∀ b, mine b → Own X.objs X.φ o b) (hc : ∀ ob0, X.objs o = some ob0 → ObC (X.φ o) l ob0 (some (.row ver m T xs)))
    (hl : l.len = xs.length) (hn : l.nil = false) (hown : Own X.objs X.φ o l.blk ∨ Fresh E X w' l.blk)
    (hb : w'.heap[l.blk]? = some (.cells cs te (0, 0))) (hcap : xs.length ≤ l.cap) (hsz : l.cap * T.sz ≤ cs.size)
    (hr : ∀ i (h : i < xs.length), Rep X.w (X.set m) T xs[i] (fun j => cs[i * T.sz + j]?)) :
    SlotR (X.put w' o (.row ver m T xs) l) (.row o ver) l.sl ∧ Fits E (X.put w' o (.row ver m T xs) l) ∧ Evo X (X.put w' o (.row ver m T xs) l) := by
  obtain ⟨h1, h2⟩ := Fits.put F (o := o) (ob := .row ver m T xs) (l := l) hw hm hc (fun b hb' => by
      have : b = l.blk := hb'.2
      subst this
      exact hown) (fun v m T xs _ _ => by
      rcases hown with h | h
      · have := F.keep.size
        cases ho : X.objs o with
        | none => unfold Own at h; rw [ho] at h; exact h.elim
        | some ob0 =>
          have hcc := hc ob0 ho
          cases ob0 with
          | box _ _ => exact hcc.elim
          | row _ _ _ _ =>
            unfold Own at h
            rw [ho] at h
            rw [h.2]
            exact F.rown o _ _ _ _ ho h.1
          | imm _ _ _ _ => exact hcc.elim
      · exact h.ge) (fun hev => by
      refine ⟨hl, fun h => absurd h (by rw [hn]; simp), fun _ => ⟨⟨cs, te, hb, hsz⟩, hcap, fun i hi => ?_⟩⟩
      refine Rep.congr (fun j _ => ?_) (Rep.evo hev (hr i hi))
      show mem w' l.blk (i * T.sz) j = _
      rw [mem_cells hb])
  refine ⟨⟨?_, ?_, ?_⟩, h1, h2⟩
  · unfold Loc.sl; split <;> rfl
  · unfold Loc.sl; split <;> rfl
  · have e : (X.put w' o (.row ver m T xs) l).objs o = some (.row ver m T xs) := Objs.put_same _ _ _
    simp only [AVR, e, Ctx.put_φ_same]
    refine ⟨Nat.le_refl _, fun _ => ?_⟩
    unfold Loc.sl; split <;> rfl

theorem zero_row {T : Ty} {z : Value} (hz : z.cells.size = T.sz) (hr : ∀ w I, Rep w I T T.zero (cv z)) (n : Nat) (w : World) (I : Bs) {i : Nat} (hi : i < n) :
    Rep w I T T.zero (fun j => (madeCells z.cells (n * T.sz))[i * T.sz + j]?) := by
  refine Rep.congr (fun j hj => ?_) (hr w I)
  have h1 : (i + 1) * T.sz ≤ n * T.sz := Nat.mul_le_mul_right _ hi
  rw [Nat.succ_mul] at h1
  have h2 : i * T.sz + j < n * T.sz := by omega
  have h3 : (i * T.sz + j) % T.sz = j := by rw [Nat.add_comm, Nat.add_mul_mod_self_right, Nat.mod_eq_of_lt hj]
  simp only [madeCells, Array.getElem?_map, cv]
  rw [Array.getElem?_eq_getElem (by simpa using h2)]
  simp only [Array.getElem_range, Option.map_some, hz, h3]
  rw [Array.getElem?_eq_getElem (by omega), getElem!_pos _ _ (by omega)]

/-- make. -/
def aMake (tab : TTab) (ob : Objs) (id : Nat) (t : TypeId) (l c : Int) : Tr (AV × Objs) :=
  match tab.find t, ob id with
  | some ⟨_, .slice e, by_⟩, none => Tr.grd (decide (0 ≤ l)) <| Tr.grd (decide (l ≤ c)) <| Tr.grd (decide ((by_ : Int) * c ≤ 281474976710656)) <| Tr.grd (decide (c ≤ 9223372036854775807)) <|
      .ret (.row id 0, ob.put id (.row 0 false e (List.replicate l.toNat e.zero)))
  | _, _ => .fail
theorem aMake_ok (F : Fits E X) (hT : tab.ok P = true) {id : Nat} {t : TypeId} {kl kc : IntKind} {l c : Int} {r : AV} {ob' : Objs} (h : (aMake tab X.objs id t l c).run = some (r, ob')) :
    ∃ X' val, (Instr.makeSlice t (.int kl l) (.int kc c)).run P X.w = .ok val X'.w ∧ SlotR X' r val ∧ Fits E X' ∧ X'.objs = ob' ∧ Evo X X' := by
  unfold aMake at h
  split at h
  · rename_i _ e by_ ht hid
    obtain ⟨h0, h⟩ := Tr.run_grd h
    obtain ⟨h1, h⟩ := Tr.run_grd h
    obtain ⟨h2, h⟩ := Tr.run_grd h
    obtain ⟨h3, h⟩ := Tr.run_grd h
    have h0 := of_decide_eq_true h0
    have h1 := of_decide_eq_true h1
    have h2 := of_decide_eq_true h2
    have h3 := of_decide_eq_true h3
    have h := Tr.run_ret h
    simp only [Prod.mk.injEq] at h
    obtain ⟨rfl, rfl⟩ := h
    obtain ⟨te, hu, hte⟩ := TB_slice (TTab.find_ok hT ht).1
    obtain ⟨i, z, hi⟩ := TB_info hte
    have hby : i.bytes = by_ := bytesB_ok (TTab.find_ok hT ht).2 hu hi.info
    have hb : (i.bytes : Int) * c ≤ 281474976710656 := by rw [hby]; exact h2
    have hrun := run_make (P := P) X.w t te i z hu hi.info hi.zero kl kc l c h0 h1 hb h3
    rw [hi.size] at hrun
    have hnew : (X.w.alloc (.cells (madeCells z.cells (c.toNat * e.sz)) te)).heap[X.w.heap.size]? = some (.cells (madeCells z.cells (c.toNat * e.sz)) te (0, 0)) := heap_alloc_at _ _
    obtain ⟨g1, g2, g3⟩ := putRow_ok F (o := id) (ver := 0) (m := false) (T := e) (xs := List.replicate l.toNat e.zero) (l := ⟨X.w.heap.size, l.toNat, c.toNat, false⟩) (Turns.alloc X _) (fun b hb => hb.elim) (fun ob0 h0 => by rw [hid] at h0; exact absurd h0 (by simp))
      (by simp) rfl (.inr (F.fresh ⟨Nat.le_refl _, by show _ < (X.w.heap.push _).size; simp⟩)) hnew (by simp; omega) (by simp [size_madeCells]) (fun k hk => by
        simp only [List.length_replicate] at hk
        simp only [List.getElem_replicate]
        exact zero_row hi.zsize hi.zrep _ _ _ (by omega))
    exact ⟨_, _, hrun, g1, g2, rfl, g3⟩
  · exact (Tr.run_fail h).elim

theorem src_cells {w : World} {I : Bs} {e : Ty} {ys : List e.D} {b off : Nat} (h : ∀ i (h : i < ys.length), Rep w I e ys[i] (mem w b (off + i * e.sz))) :
    ∃ news : List Value, news.length = ys.length * e.sz ∧ (∀ k v, news[k]? = some v → w.cell? ((⟨b, off, none⟩ : Addr).add k) = some v) ∧ (∀ v ∈ news, v.oneCell' = true) ∧ ∀ i j, i < ys.length → j < e.sz → news[i * e.sz + j]? = mem w b (off + i * e.sz) j := by
  have hc : ∀ k, k < ys.length * e.sz → ∃ v, mem w b off k = some v ∧ okCell v := by
    intro k hk
    have he : 0 < e.sz := by
      rcases Nat.eq_zero_or_pos e.sz with h | h
      · rw [h] at hk; simp at hk
      · exact h
    have hi : k / e.sz < ys.length := (Nat.div_lt_iff_lt_mul he).2 hk
    obtain ⟨v, hv, ok⟩ := Rep.cells (h (k / e.sz) hi) (k % e.sz) (Nat.mod_lt _ he)
    refine ⟨v, ?_, ok⟩
    have : k / e.sz * e.sz + k % e.sz = k := by rw [Nat.mul_comm]; exact Nat.div_add_mod k e.sz
    rw [← mem_shift] at hv
    simp only [shift, this] at hv
    exact hv
  refine ⟨(List.range (ys.length * e.sz)).map fun k => (mem w b off k).getD undef, by simp, fun k v hk => ?_, fun v hv => ?_, fun i j hi hj => ?_⟩
  · rw [List.getElem?_map] at hk
    by_cases hlt : k < ys.length * e.sz
    · obtain ⟨u, hu, _⟩ := hc k hlt
      rw [List.getElem?_range hlt] at hk
      simp only [Option.map_some, hu, Option.getD_some, Option.some.injEq] at hk
      rw [Addr.add_lit, ← hk]; exact hu
    · rw [List.getElem?_eq_none (by simp; omega)] at hk
      simp at hk
  · obtain ⟨k, hk, rfl⟩ := List.mem_map.1 hv
    obtain ⟨u, hu, ok⟩ := hc k (List.mem_range.1 hk)
    rw [hu]; exact oneCell_of_ok ok
  · have h1 : (i + 1) * e.sz ≤ ys.length * e.sz := Nat.mul_le_mul_right _ hi
    rw [Nat.succ_mul] at h1
    obtain ⟨u, hu, _⟩ := hc (i * e.sz + j) (by omega)
    rw [List.getElem?_map, List.getElem?_range (by omega)]
    have : mem w b (off + i * e.sz) j = mem w b off (i * e.sz + j) := by simp [mem, Nat.add_assoc]
    rw [this, hu]; simp [hu]

theorem run_append_none {t ty te : TypeId} {i : TypeInfo} (hu : P.underlying t = some (.slice te)) (hi : P.info? te = some i) (base ad : Option Addr) (n cap c : Nat) (hle : n ≤ cap) (w : World) :
    (Builtin.append_ #[t, t] ty #[.slice base n cap, .slice ad 0 c]).run P w = .ok (.slice base n cap) w := by
  have hf : (Builtin.firstCells i.size 0 (.slice ad 0 c)).run P w = .ok #[] w := by
    cases ad <;> simp [Builtin.firstCells, loadCells, loadCellsFrom]
  cases base <;> simp [Builtin.append_, run_under hu, sizeOf, typeInfo, hi, Builtin.lenOf, hle, hf, storeCells]

/-- append(s, x...): the row then. A nil slice begins a row of its own. -/
def aAppend (tab : TTab) (ob : Objs) (id : Nat) (t : TypeId) (s x : AV) : Tr (AV × Objs) :=
  match tab.find t with
  | some ⟨_, .slice e, by_⟩ => match srcOf ob e x with
    | some q => match s with
      | .row o v => match ob o with
        | some (.row v' m T xs) => if h : T = e then (if Nat.beq v v' = true then
            Tr.grd (decide ((xs.length + q.2.length) * by_ ≤ 140737488355328)) <| Tr.grd (decide (xs.length + q.2.length ≤ 9223372036854775807)) <|
              .ret (.row o (v + 1), ob.put o (.row (v + 1) (m || q.1) T (xs ++ (h ▸ q.2 : List T.D)))) else .fail) else .fail
        | _ => .fail
      | .nilv => match ob id with
        | none => Tr.grd (decide (q.2.length * by_ ≤ 140737488355328)) <| Tr.grd (decide (q.2.length ≤ 9223372036854775807)) <|
            .ret (.row id 0, ob.put id (.row 0 q.1 e q.2))
        | some _ => .fail
      | _ => .fail
    | none => .fail
  | _ => .fail

theorem aAppend_ok (F : Fits E X) (hT : tab.ok P = true) {id : Nat} {t ty : TypeId} {s x : AV} {vs vx : Value} (hs : SlotR X s vs) (hx : SlotR X x vx) {r : AV} {ob' : Objs} (h : (aAppend tab X.objs id t s x).run = some (r, ob')) :
    ∃ X' val, (Builtin.append_ #[t, t] ty #[vs, vx]).run P X.w = .ok val X'.w ∧ SlotR X' r val ∧ Fits E X' ∧ X'.objs = ob' ∧ Evo X X' := by
  unfold aAppend at h
  split at h
  case h_2 => exact (Tr.run_fail h).elim
  rename_i _ e by_ ht
  split at h
  case h_2 => exact (Tr.run_fail h).elim
  rename_i q hq
  obtain ⟨te, hu, hte⟩ := TB_slice (TTab.find_ok hT ht).1
  obtain ⟨i, z, hi⟩ := TB_info hte
  have hby : i.bytes = by_ := bytesB_ok (TTab.find_ok hT ht).2 hu hi.info
  obtain ⟨ad, c, rfl, hc, hsrc⟩ := srcOf_ok F hx hq
  split at h
  · rename_i o v
    split at h
    case h_2 => exact (Tr.run_fail h).elim
    rename_i v' m T xs ho
    split at h
    case isFalse => exact (Tr.run_fail h).elim
    rename_i hTe
    subst hTe
    split at h
    case isFalse => exact (Tr.run_fail h).elim
    rename_i hv
    obtain rfl := Nat.eq_of_beq_eq_true hv
    obtain ⟨h1, h⟩ := Tr.run_grd h
    obtain ⟨h2, h⟩ := Tr.run_grd h
    have h1 := of_decide_eq_true h1
    have h2 := of_decide_eq_true h2
    have h := Tr.run_ret h
    simp only [Prod.mk.injEq] at h
    obtain ⟨rfl, rfl⟩ := h
    rw [slot_row hs ho]
    obtain ⟨hl, hnil, hrow⟩ := F.objs o _ ho
    have hcx : ∀ l' xs' m', ∀ ob0, X.objs o = some ob0 → ObC (X.φ o) l' ob0 (some (.row (v + 1) m' T xs')) := fun l' xs' m' ob0 h0 => by
      rw [ho] at h0; obtain rfl := Option.some.inj h0; exact ⟨rfl, by omega, fun e => absurd e (by omega)⟩
    cases hn : (X.φ o).nil with
    | true =>
      obtain rfl := hnil hn
      have hlen : (X.φ o).len = 0 := by simpa using hl
      have hsl : (X.φ o).sl = .slice none 0 0 := by simp [Loc.sl, hn]
      rw [hsl]
      rcases Nat.eq_zero_or_pos q.2.length with hz | hp
      · have hq0 : q.2 = [] := List.eq_nil_of_length_eq_zero hz
        rw [hq0] at h1 h2 ⊢
        simp only [List.length_nil]
        obtain ⟨g1, g2⟩ := Fits.put F (w' := X.w) (o := o) (ob := .row (v + 1) (m || q.1) T ([] ++ [])) (l := X.φ o) (mine := fun _ => False) ⟨rfl, rfl, rfl, Nat.le_refl _, fun _ _ _ => rfl⟩ (fun b hb => hb.elim) (hcx _ _ _)
          (fun b hb => absurd hb.1 (by rw [hn]; simp)) (fun _ _ _ _ _ hnn => absurd hnn (by rw [hn]; simp)) (fun hev => ⟨by simpa using hlen, fun _ => rfl, fun hh => absurd hh (by rw [hn]; simp)⟩)
        refine ⟨X.put X.w o (.row (v + 1) (m || q.1) T ([] ++ [])) (X.φ o), _, run_append_none hu hi.info none ad 0 0 c (Nat.le_refl _) X.w, ⟨rfl, rfl, ?_⟩, g1, rfl, g2⟩
        have e0 : (X.put X.w o (.row (v + 1) (m || q.1) T ([] ++ [])) (X.φ o)).objs o = some (.row (v + 1) (m || q.1) T ([] ++ [])) := Objs.put_same _ _ _
        simp only [AVR, e0, Ctx.put_φ_same]
        exact ⟨Nat.le_refl _, fun _ => by rw [hsl]; rfl⟩
      · obtain ⟨b, off, rfl, hr⟩ := hsrc hp
        obtain ⟨news, n1, n2, n3, n4⟩ := src_cells hr
        have hrun := run_append_nil (P := P) X.w t ty te i z hu hi.info hi.zero ⟨b, off, none⟩ q.2.length c news (by rw [hi.size]; exact n1) n2 hp (by simp at h2; omega) (by rw [hby]; simp at h1; omega)
        have hnew : (X.w.drew.alloc (.cells (news.toArray ++ Builtin.zeroCells z.cells (grownCap X.w q.2.length 0 te - q.2.length)) te)).heap[X.w.heap.size]? = some (.cells (news.toArray ++ Builtin.zeroCells z.cells (grownCap X.w q.2.length 0 te - q.2.length)) te (0, 0)) := heap_alloc_at X.w.drew _
        have hge : q.2.length ≤ grownCap X.w q.2.length 0 te := by simp only [grownCap, Question.cut]; omega
        obtain ⟨g1, g2, g3⟩ := putRow_ok F (o := o) (ver := v + 1) (m := m || q.1) (T := T) (xs := [] ++ q.2) (l := ⟨X.w.heap.size, q.2.length, grownCap X.w q.2.length 0 te, false⟩) (Turns.alloc X (.cells (news.toArray ++ Builtin.zeroCells z.cells (grownCap X.w q.2.length 0 te - q.2.length)) te)).drew (fun b hb => hb.elim) (hcx _ _ _)
          (by simp) rfl (.inr (F.fresh ⟨Nat.le_refl _, by show _ < (X.w.heap.push _).size; simp⟩)) hnew (by simpa using hge) (by
            simp only [Array.size_append, List.size_toArray, n1, size_zeroCells, hi.zsize, Nat.sub_mul]
            have := Nat.mul_le_mul_right T.sz hge
            omega) (fun k hk => by
            simp only [List.nil_append] at hk ⊢
            refine Rep.weaken' F.ij _ (Rep.congr (fun j hj => ?_) (hr k hk))
            have h5 : (k + 1) * T.sz ≤ q.2.length * T.sz := Nat.mul_le_mul_right _ hk
            rw [Nat.succ_mul] at h5
            rw [Array.getElem?_append_left (by simp [n1]; omega)]
            simpa using n4 k j hk hj)
        exact ⟨_, _, hrun, g1, g2, rfl, g3⟩
    | false =>
      obtain ⟨⟨cs, te', hb, hcs⟩, hcap, hr0⟩ := hrow hn
      have hsl : (X.φ o).sl = .slice (some ⟨(X.φ o).blk, 0, none⟩) xs.length (X.φ o).cap := by simp [Loc.sl, hn, hl]
      have hown : Own X.objs X.φ o (X.φ o).blk := by unfold Own; rw [ho]; exact ⟨hn, rfl⟩
      rw [hsl]
      rcases Nat.eq_zero_or_pos q.2.length with hz | hp
      · have hq0 : q.2 = [] := List.eq_nil_of_length_eq_zero hz
        rw [hq0] at h1 h2 ⊢
        simp only [List.length_nil]
        obtain ⟨g1, g2, g3⟩ := putRow_ok F (w' := X.w) (o := o) (ver := v + 1) (m := m || q.1) (T := T) (xs := xs ++ []) (l := X.φ o) (mine := fun _ => False) ⟨rfl, rfl, rfl, Nat.le_refl _, fun _ _ _ => rfl⟩ (fun b hb => hb.elim) (hcx _ _ _)
          (by simpa using hl) hn (.inl hown) hb (by simpa using hcap) hcs (fun k hk => by
            simp only [List.append_nil] at hk ⊢
            exact Rep.weaken F.ij _ (Rep.congr (fun j _ => by rw [mem_cells hb]) (hr0 k hk)))
        rw [hsl] at g1
        exact ⟨X.put X.w o (.row (v + 1) (m || q.1) T (xs ++ [])) (X.φ o), _, run_append_none hu hi.info _ ad _ _ c hcap X.w, g1, g2, rfl, g3⟩
      · obtain ⟨b, off, rfl, hr⟩ := hsrc hp
        obtain ⟨news, n1, n2, n3, n4⟩ := src_cells hr
        by_cases hroom : xs.length + q.2.length ≤ (X.φ o).cap
        · have hsz1 : (xs.length + q.2.length) * T.sz ≤ (X.φ o).cap * T.sz := Nat.mul_le_mul_right _ hroom
          rw [Nat.add_mul] at hsz1
          have hf := run_firstCells_some (P := P) X.w i.size q.2.length ⟨b, off, none⟩ q.2.length c news (by rw [hi.size]; exact n1) n2
          rw [hi.size] at hf
          have hst := run_storeCells_at P (X.φ o).blk (xs.length * T.sz) te' news 0 cs X.w hb (by omega) n3
          simp only [Nat.add_zero, List.append_assoc] at hst
          have hrun : (Builtin.append_ #[t, t] ty #[.slice (some ⟨(X.φ o).blk, 0, none⟩) xs.length (X.φ o).cap, .slice (some ⟨b, off, none⟩) q.2.length c]).run P X.w =
              .ok (.slice (some ⟨(X.φ o).blk, 0, none⟩) (xs.length + q.2.length) (X.φ o).cap) (X.w.setRow (X.φ o).blk (cs.toList.take (xs.length * T.sz) ++ news ++ cs.toList.drop (xs.length * T.sz + news.length)).toArray) := by
            simp [Builtin.append_, run_under hu, sizeOf, typeInfo, hi.info, Builtin.lenOf, hroom, hf, Addr.add_lit, hi.size, hst]
          have hget : ∀ k, (cs.toList.take (xs.length * T.sz) ++ news ++ cs.toList.drop (xs.length * T.sz + news.length)).toArray[k]? = if k < xs.length * T.sz then cs[k]? else if k < xs.length * T.sz + q.2.length * T.sz then news[k - xs.length * T.sz]? else cs[k]? := by
            intro k
            simp only [List.getElem?_toArray, List.getElem?_append, List.length_append, List.length_take, Array.length_toList, n1]
            have e1 : min (xs.length * T.sz) cs.size = xs.length * T.sz := by omega
            rw [e1]
            by_cases a1 : k < xs.length * T.sz
            · rw [if_pos (by omega), if_pos a1, if_pos a1, List.getElem?_take, if_pos a1]; simp
            · by_cases a2 : k < xs.length * T.sz + q.2.length * T.sz
              · rw [if_pos a2, if_neg a1, if_neg a1, if_pos a2]
              · rw [if_neg a2, if_neg a1, if_neg a2, List.getElem?_drop, ← Array.getElem?_toList]
                congr 1; omega
          have hrow' : (X.w.setRow (X.φ o).blk (cs.toList.take (xs.length * T.sz) ++ news ++ cs.toList.drop (xs.length * T.sz + news.length)).toArray).heap[(X.φ o).blk]? = some (.cells (cs.toList.take (xs.length * T.sz) ++ news ++ cs.toList.drop (xs.length * T.sz + news.length)).toArray te' (0, 0)) := setRow_heap _ _ _ _ _ _ hb
          obtain ⟨g1, g2, g3⟩ := putRow_ok F (o := o) (ver := v + 1) (m := m || q.1) (T := T) (xs := xs ++ q.2) (l := ⟨(X.φ o).blk, xs.length + q.2.length, (X.φ o).cap, false⟩) (Turns.setRow X (X.φ o).blk _) (fun b hb => by rw [show b = (X.φ o).blk from hb]; exact hown) (hcx _ _ _)
            (by simp) rfl (.inl hown) hrow' (by simpa using hroom) (by
              simp only [List.size_toArray, List.length_append, List.length_take, List.length_drop, Array.length_toList, n1]
              show (X.φ o).cap * T.sz ≤ _
              omega) (fun k hk => by
              simp only [List.length_append] at hk
              by_cases hk1 : k < xs.length
              · rw [List.getElem_append_left hk1]
                refine Rep.weaken F.ij _ (Rep.congr (fun j hj => ?_) (hr0 k hk1))
                have h5 : (k + 1) * T.sz ≤ xs.length * T.sz := Nat.mul_le_mul_right _ hk1
                rw [Nat.succ_mul] at h5
                rw [hget, if_pos (by omega), mem_cells hb]
              · rw [List.getElem_append_right (by omega)]
                refine Rep.weaken' F.ij _ (Rep.congr (fun j hj => ?_) (hr (k - xs.length) (by omega)))
                have e2 : k * T.sz = xs.length * T.sz + (k - xs.length) * T.sz := by rw [← Nat.add_mul]; congr 1; omega
                have h6 : (k - xs.length + 1) * T.sz ≤ q.2.length * T.sz := Nat.mul_le_mul_right _ (by omega)
                rw [Nat.succ_mul] at h6
                rw [hget, if_neg (by omega), if_pos (by omega), ← n4 (k - xs.length) j (by omega) hj]
                congr 1; omega)
          have hsl2 : (⟨(X.φ o).blk, xs.length + q.2.length, (X.φ o).cap, false⟩ : Loc).sl = .slice (some ⟨(X.φ o).blk, 0, none⟩) (xs.length + q.2.length) (X.φ o).cap := rfl
          rw [hsl2] at g1
          exact ⟨_, _, hrun, g1, g2, rfl, g3⟩
        · obtain ⟨olds, o1, o2, o3, o4⟩ := src_cells (w := X.w) (I := X.set m) (e := T) (ys := xs) (b := (X.φ o).blk) (off := 0) (fun i hi => by rw [Nat.zero_add]; exact hr0 i hi)
          have hrun := run_append_grow (P := P) X.w t ty te i z hu hi.info hi.zero ⟨(X.φ o).blk, 0, none⟩ xs.length (X.φ o).cap olds (by rw [hi.size]; exact o1) o2 ⟨b, off, none⟩ q.2.length c news (by rw [hi.size]; exact n1) n2 (by omega) (by omega)
            (growslice_fits (by omega) (by rw [hby]; exact h1))
          have hge : xs.length + q.2.length ≤ grownCap X.w (xs.length + q.2.length) (X.φ o).cap te := by simp only [grownCap, Question.cut]; omega
          have hnew : (X.w.drew.alloc (.cells (olds.toArray ++ news.toArray ++ Builtin.zeroCells z.cells (grownCap X.w (xs.length + q.2.length) (X.φ o).cap te - (xs.length + q.2.length))) te)).heap[X.w.heap.size]? = some (.cells (olds.toArray ++ news.toArray ++ Builtin.zeroCells z.cells (grownCap X.w (xs.length + q.2.length) (X.φ o).cap te - (xs.length + q.2.length))) te (0, 0)) := heap_alloc_at X.w.drew _
          obtain ⟨g1, g2, g3⟩ := putRow_ok F (o := o) (ver := v + 1) (m := m || q.1) (T := T) (xs := xs ++ q.2) (l := ⟨X.w.heap.size, xs.length + q.2.length, grownCap X.w (xs.length + q.2.length) (X.φ o).cap te, false⟩) (Turns.alloc X _).drew (fun b hb => hb.elim) (hcx _ _ _)
            (by simp) rfl (.inr (F.fresh ⟨Nat.le_refl _, by show _ < (X.w.heap.push _).size; simp⟩)) hnew (by simpa using hge) (by
              simp only [Array.size_append, List.size_toArray, n1, o1, size_zeroCells, hi.zsize, Nat.sub_mul, Nat.add_mul]
              have := Nat.mul_le_mul_right T.sz hge
              rw [Nat.add_mul] at this
              omega) (fun k hk => by
              simp only [List.length_append] at hk
              have h7 : (k + 1) * T.sz ≤ (xs.length + q.2.length) * T.sz := Nat.mul_le_mul_right _ hk
              rw [Nat.succ_mul, Nat.add_mul] at h7
              by_cases hk1 : k < xs.length
              · rw [List.getElem_append_left hk1]
                refine Rep.weaken F.ij _ (Rep.congr (fun j hj => ?_) (hr0 k hk1))
                have h5 : (k + 1) * T.sz ≤ xs.length * T.sz := Nat.mul_le_mul_right _ hk1
                rw [Nat.succ_mul] at h5
                rw [Array.getElem?_append_left (by simp [n1, o1]; omega), Array.getElem?_append_left (by simp [o1]; omega)]
                have := o4 k j hk1 hj
                rw [Nat.zero_add] at this
                simpa using this
              · rw [List.getElem_append_right (by omega)]
                refine Rep.weaken' F.ij _ (Rep.congr (fun j hj => ?_) (hr (k - xs.length) (by omega)))
                have e2 : k * T.sz = xs.length * T.sz + (k - xs.length) * T.sz := by rw [← Nat.add_mul]; congr 1; omega
                rw [Array.getElem?_append_left (by simp [n1, o1]; omega), Array.getElem?_append_right (by simp [o1]; omega)]
                rw [← n4 (k - xs.length) j (by omega) hj]
                simp only [List.size_toArray, o1, List.getElem?_toArray]
                congr 1; omega)
          exact ⟨_, _, hrun, g1, g2, rfl, g3⟩
  · split at h
    case h_2 => exact (Tr.run_fail h).elim
    rename_i hid
    obtain ⟨h1, h⟩ := Tr.run_grd h
    obtain ⟨h2, h⟩ := Tr.run_grd h
    have h1 := of_decide_eq_true h1
    have h2 := of_decide_eq_true h2
    have h := Tr.run_ret h
    simp only [Prod.mk.injEq] at h
    obtain ⟨rfl, rfl⟩ := h
    obtain rfl := slot_nil hs
    have hcx : ∀ l' ob1, ∀ ob0, X.objs id = some ob0 → ObC (X.φ id) l' ob0 ob1 := fun l' ob1 ob0 h0 => by rw [hid] at h0; exact absurd h0 (by simp)
    rcases Nat.eq_zero_or_pos q.2.length with hz | hp
    · have hq0 : q.2 = [] := List.eq_nil_of_length_eq_zero hz
      rw [hq0] at h1 h2 ⊢
      simp only [List.length_nil]
      obtain ⟨g1, g2⟩ := Fits.put F (w' := X.w) (o := id) (ob := .row 0 q.1 e []) (l := ⟨0, 0, 0, true⟩) (mine := fun _ => False) ⟨rfl, rfl, rfl, Nat.le_refl _, fun _ _ _ => rfl⟩ (fun b hb => hb.elim) (hcx _ _)
        (fun b hb => absurd hb.1 (by simp)) (fun _ _ _ _ _ hnn => absurd hnn (by simp)) (fun hev => ⟨rfl, fun _ => rfl, fun hh => absurd hh (by simp)⟩)
      refine ⟨X.put X.w id (.row 0 q.1 e []) ⟨0, 0, 0, true⟩, _, run_append_none hu hi.info none ad 0 0 c (Nat.le_refl _) X.w, ⟨rfl, rfl, ?_⟩, g1, rfl, g2⟩
      have e0 : (X.put X.w id (.row 0 q.1 e []) ⟨0, 0, 0, true⟩).objs id = some (.row 0 q.1 e []) := Objs.put_same _ _ _
      simp only [AVR, e0, Ctx.put_φ_same]
      exact ⟨Nat.le_refl _, fun _ => rfl⟩
    · obtain ⟨b, off, rfl, hr⟩ := hsrc hp
      obtain ⟨news, n1, n2, n3, n4⟩ := src_cells hr
      have hrun := run_append_nil (P := P) X.w t ty te i z hu hi.info hi.zero ⟨b, off, none⟩ q.2.length c news (by rw [hi.size]; exact n1) n2 hp (by omega) (by rw [hby]; omega)
      have hnew : (X.w.drew.alloc (.cells (news.toArray ++ Builtin.zeroCells z.cells (grownCap X.w q.2.length 0 te - q.2.length)) te)).heap[X.w.heap.size]? = some (.cells (news.toArray ++ Builtin.zeroCells z.cells (grownCap X.w q.2.length 0 te - q.2.length)) te (0, 0)) := heap_alloc_at X.w.drew _
      have hge : q.2.length ≤ grownCap X.w q.2.length 0 te := by simp only [grownCap, Question.cut]; omega
      obtain ⟨g1, g2, g3⟩ := putRow_ok F (o := id) (ver := 0) (m := q.1) (T := e) (xs := q.2) (l := ⟨X.w.heap.size, q.2.length, grownCap X.w q.2.length 0 te, false⟩) (Turns.alloc X (.cells (news.toArray ++ Builtin.zeroCells z.cells (grownCap X.w q.2.length 0 te - q.2.length)) te)).drew (fun b hb => hb.elim) (hcx _ _)
        rfl rfl (.inr (F.fresh ⟨Nat.le_refl _, by show _ < (X.w.heap.push _).size; simp⟩)) hnew hge (by
          simp only [Array.size_append, List.size_toArray, n1, size_zeroCells, hi.zsize, Nat.sub_mul]
          have := Nat.mul_le_mul_right e.sz hge
          omega) (fun k hk => by
          refine Rep.congr (fun j hj => ?_) (hr k hk)
          have h5 : (k + 1) * e.sz ≤ q.2.length * e.sz := Nat.mul_le_mul_right _ hk
          rw [Nat.succ_mul] at h5
          rw [Array.getElem?_append_left (by simp [n1]; omega)]
          simpa using n4 k j hk hj)
      exact ⟨_, _, hrun, g1, g2, rfl, g3⟩
  · exact (Tr.run_fail h).elim
end
end Go.Proofs.Ytbpfllifhpdlfaa.Ev
