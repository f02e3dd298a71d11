/- A row of one's own that is told to last; pieces of slices and texts. -/
import Derived.Test.YtbpfllifhpdlfaaE11
namespace Go.Proofs.Ytbpfllifhpdlfaa.Ev
open Go
set_option linter.unusedVariables false
set_option linter.unusedSimpArgs false

section
variable {P : Program} {E : Fix} {X : Ctx} {tab : TTab}

/-- A step that turns no row's place, but for rows that are told to last. -/
structure Tame (X X' : Ctx) : Prop where
  w : X'.w = X.w
  φ : X'.φ = X.φ
  evo : Evo X X'
  row : ∀ o v m T xs, X.objs o = some (.row v m T xs) → X'.objs o = some (.row v m T xs) ∨ (X'.objs o = some (.imm v m T xs) ∧ ((X.φ o).nil = false → X'.J (X.φ o).blk))
  box : ∀ o T a, X.objs o = some (.box T a) → X'.objs o = some (.box T a)
  imm : ∀ o v m T xs, X.objs o = some (.imm v m T xs) → X'.objs o = some (.imm v m T xs)
theorem Tame.refl {X : Ctx} (hij : ∀ b, X.I b → X.J b) : Tame X X := ⟨rfl, rfl, Evo.refl hij, fun _ _ _ _ _ h => .inl h, fun _ _ _ h => h, fun _ _ _ _ _ h => h⟩
theorem Tame.trans {X Y Z : Ctx} (h : Tame X Y) (k : Tame Y Z) : Tame X Z := by
  refine ⟨k.w.trans h.w, k.φ.trans h.φ, h.evo.trans k.evo, fun o v m T xs ho => ?_, fun o T a ho => k.box o T a (h.box o T a ho), fun o v m T xs ho => k.imm o v m T xs (h.imm o v m T xs ho)⟩
  rcases h.row o v m T xs ho with h1 | ⟨h1, h2⟩
  · rcases k.row o v m T xs h1 with h2 | ⟨h2, h3⟩
    · exact .inl h2
    · rw [h.φ] at h3; exact .inr ⟨h2, h3⟩
  · exact .inr ⟨k.imm o v m T xs h1, fun hn => k.evo.j _ (h2 hn)⟩
theorem Fits.freeze (F : Fits E X) {o v : Nat} {m : Bool} {T : Ty} {xs : List T.D} (ho : X.objs o = some (.row v m T xs)) :
    ∃ X', X'.objs = X.objs.put o (.imm v m T xs) ∧ Fits E X' ∧ Tame X X' ∧ Rep X'.w (X'.set m) (.slice T) xs (fun _ => some (X.φ o).sl) := by
  obtain ⟨hl, hnil, hrow⟩ := F.objs o _ ho
  let B : Bs := fun b => (X.φ o).nil = false ∧ b = (X.φ o).blk
  have hB : ∀ b, B b → Own X.objs X.φ o b := fun b hb => by unfold Own; rw [ho]; exact hb
  let X' : Ctx := { w := X.w, I := fun b => X.I b ∨ (m = false ∧ B b), J := fun b => X.J b ∨ B b, objs := X.objs.put o (.imm v m T xs), φ := X.φ }
  have hij' : ∀ b, X'.I b → X'.J b := fun b hb => hb.elim (fun h => .inl (F.ij b h)) (fun h => .inr h.2)
  have hev : Evo X X' := by
    refine ⟨Agree.refl _ _, fun b h => .inl h, fun b h => .inl h, F.ij, fun o' ob' ho' => ?_⟩
    by_cases e : o' = o
    · subst e
      rw [ho] at ho'
      obtain rfl := Option.some.inj ho'
      show ObC _ _ _ (X.objs.put o' _ o')
      rw [Objs.put_same]
      exact ⟨rfl, Nat.le_refl _, fun _ => rfl⟩
    · show ObC _ _ _ (X.objs.put o _ o')
      rw [Objs.put_ne _ _ _ e, ho']
      cases ob' with
      | box T a => exact ⟨rfl, rfl⟩
      | row v m T xs => exact ⟨rfl, Nat.le_refl _, fun _ => rfl⟩
      | imm v m T xs => exact ⟨rfl, Nat.le_refl _, fun _ => rfl⟩
  have hset : ∀ b, B b → X'.set m b := fun b hb => by
    cases m
    · exact .inr ⟨rfl, hb⟩
    · exact .inr hb
  have hrep : Rep X'.w (X'.set m) (.slice T) xs (fun _ => some (X.φ o).sl) := by
    cases hn : (X.φ o).nil with
    | true =>
      obtain rfl := hnil hn
      exact ⟨none, 0, by simp [Loc.sl, hn], Nat.le_refl _, fun hp => absurd hp (by simp)⟩
    | false =>
      obtain ⟨_, hcap, hr⟩ := hrow hn
      refine ⟨some ⟨(X.φ o).blk, 0, none⟩, (X.φ o).cap, by simp [Loc.sl, hn, hl], hcap, fun _ => ⟨(X.φ o).blk, 0, rfl, hset _ ⟨hn, rfl⟩, fun i hi => ?_⟩⟩
      rw [Nat.zero_add]
      exact Rep.evo hev (hr i hi)
  have hown' : ∀ o1 b, Own X'.objs X'.φ o1 b → Own X.objs X.φ o1 b ∧ o1 ≠ o := by
    intro o1 b h
    by_cases e : o1 = o
    · subst e
      unfold Own at h
      have e1 : X'.objs o1 = some (.imm v m T xs) := Objs.put_same _ _ _
      rw [e1] at h
      exact h.elim
    · refine ⟨?_, e⟩
      unfold Own at h ⊢
      have e1 : X'.objs o1 = X.objs o1 := Objs.put_ne _ _ _ e
      rw [e1] at h
      exact h
  have htame : Tame X X' := by
    refine ⟨rfl, rfl, hev, fun o' v' m' T' xs' ho' => ?_, fun o' T' a' ho' => ?_, fun o' v' m' T' xs' ho' => ?_⟩
    · by_cases e : o' = o
      · subst e
        rw [ho] at ho'
        right
        refine ⟨?_, fun hn => .inr ⟨hn, rfl⟩⟩
        show X.objs.put o' _ o' = _
        rw [Objs.put_same]
        injection ho' with ho'
        injection ho' with e1 e2 e3 e4
        subst e1 e2 e3
        rw [eq_of_heq e4]
      · left
        show X.objs.put o _ o' = _
        rw [Objs.put_ne _ _ _ e]; exact ho'
    · by_cases e : o' = o
      · subst e; rw [ho] at ho'; cases ho'
      · show X.objs.put o _ o' = _
        rw [Objs.put_ne _ _ _ e]; exact ho'
    · by_cases e : o' = o
      · subst e; rw [ho] at ho'; cases ho'
      · show X.objs.put o _ o' = _
        rw [Objs.put_ne _ _ _ e]; exact ho'
  refine ⟨X', rfl, ⟨F.keep, fun o1 ob1 h1 => ?_, fun o1 o2 b h1 h2 => F.dist _ _ _ (hown' _ _ h1).1 (hown' _ _ h2).1, fun o1 b h1 hj => ?_, fun o1 b h1 => F.ownw _ _ (hown' _ _ h1).1, fun o1 v1 m1 T1 xs1 h1 hn => ?_, hij',
    fun b hb => ?_, fun b hb => .inl (F.i0 b hb), fun b hb => ?_, fun b hb => .inl (F.j0 b hb), fun b hb => ?_⟩, htame, hrep⟩
  · by_cases e : o1 = o
    · subst e
      have e1 : X'.objs o1 = some (.imm v m T xs) := Objs.put_same _ _ _
      rw [e1] at h1
      obtain rfl := Option.some.inj h1
      exact ⟨hl, hrep⟩
    · have e1 : X'.objs o1 = X.objs o1 := Objs.put_ne _ _ _ e
      rw [e1] at h1
      exact ObjR.evo hev (F.objs o1 ob1 h1) (fun _ => rfl)
  · obtain ⟨h2, hne⟩ := hown' _ _ h1
    rcases hj with hj | hj
    · exact F.ownJ _ _ h2 hj
    · exact hne (F.dist _ _ _ h2 (hB b hj))
  · by_cases e : o1 = o
    · subst e
      have e1 : X'.objs o1 = some (.imm v m T xs) := Objs.put_same _ _ _
      rw [e1] at h1
      cases h1
    · have e1 : X'.objs o1 = X.objs o1 := Objs.put_ne _ _ _ e
      rw [e1] at h1
      exact F.rown o1 _ _ _ _ h1 hn
  · rcases hb with hb | hb
    · exact F.jlt b hb
    · exact (F.ownw o b (hB b hb)).1
  · rcases hb with hb | hb
    · exact F.iw b hb
    · obtain ⟨_, hb⟩ := hb
      right
      rw [hb.2]
      exact F.rown o _ _ _ _ ho hb.1
  · rcases hb with hb | hb
    · exact F.jw b hb
    · right
      rw [hb.2]
      exact F.rown o _ _ _ _ ho hb.1

/-- A value told whole; rows of one's own in it are told to last. -/
def purify : (T : Ty) → Objs → AV → Option ((Bool × T.D) × Objs)
  | .pair A B, ob, .pair a b => match purify A ob a with
    | some (p, ob1) => match purify B ob1 b with
      | some (q, ob2) => some ((p.1 || q.1, (p.2, q.2)), ob2)
      | none => none
    | none => none
  | .slice e, ob, .row o v => match ob o with
    | some (.row v' m T xs) => if h : T = e then (if Nat.beq v v' = true then some ((m, h ▸ xs), ob.put o (.imm v' m T xs)) else none) else none
    | some (.imm v' m T xs) => if h : T = e then (if Nat.beq v v' = true then some ((m, h ▸ xs), ob) else none) else none
    | _ => none
  | T, ob, a => match a.pureAs T with
    | some p => some (p, ob)
    | none => none
theorem purify_ok : ∀ {T : Ty} {X : Ctx} {a : AV} {c : Cs} {p : Bool × T.D} {ob' : Objs}, Fits E X → AVR X a c → purify T X.objs a = some (p, ob') →
    ∃ X', X'.objs = ob' ∧ Fits E X' ∧ Tame X X' ∧ Rep X'.w (X'.set p.1) T p.2 c ∧ a.sz = T.sz ∧ a.isAgg = T.isAgg := by
  intro T
  have base : ∀ {T : Ty} {X : Ctx} {a : AV} {c : Cs} {p : Bool × T.D} {ob' : Objs}, Fits E X → AVR X a c → (match a.pureAs T with | some p => some (p, X.objs) | none => none) = some (p, ob') →
      ∃ X', X'.objs = ob' ∧ Fits E X' ∧ Tame X X' ∧ Rep X'.w (X'.set p.1) T p.2 c ∧ a.sz = T.sz ∧ a.isAgg = T.isAgg := by
    intro T X a c p ob' F r h
    split at h
    · rename_i q hq
      simp only [Option.some.injEq, Prod.mk.injEq] at h
      obtain ⟨rfl, rfl⟩ := h
      obtain ⟨h1, h2⟩ := AV.pureAs_ok F.ij r hq
      exact ⟨X, rfl, F, Tame.refl F.ij, h1, AV.fits_sz h2, AV.fits_agg h2⟩
    · exact absurd h (by simp)
  induction T with
  | pair A B iha ihb =>
    intro X a c p ob' F r h
    cases a with
    | pair a b =>
      simp only [purify] at h
      split at h
      · rename_i pa ob1 ha
        split at h
        · rename_i pb ob2 hb
          simp only [Option.some.injEq, Prod.mk.injEq] at h
          obtain ⟨rfl, rfl⟩ := h
          obtain ⟨X1, o1, F1, e1, r1, s1, _⟩ := iha F r.1 ha
          obtain ⟨X2, o2, F2, e2, r2, s2, _⟩ := ihb F1 (r.2.evo e1.evo) (o1.symm ▸ hb)
          refine ⟨X2, o2, F2, e1.trans e2, ⟨Rep.weaken F2.ij _ (Rep.evo e2.evo r1), ?_⟩, by simp [AV.sz, Ty.sz, s1, s2], rfl⟩
          rw [s1] at r2
          exact Rep.weaken' F2.ij _ r2
        · exact absurd h (by simp)
      · exact absurd h (by simp)
    | _ => exact base F r h
  | slice e ih =>
    intro X a c p ob' F r h
    cases a with
    | row o v =>
      simp only [purify] at h
      split at h
      · rename_i v' m T xs ho
        split at h
        · rename_i hT
          subst hT
          split at h
          · rename_i hv
            obtain rfl := Nat.eq_of_beq_eq_true hv
            simp only [Option.some.injEq, Prod.mk.injEq] at h
            obtain ⟨rfl, rfl⟩ := h
            obtain ⟨X', o1, F1, e1, r1⟩ := F.freeze ho
            simp only [AVR, ho] at r
            refine ⟨X', o1, F1, e1, Rep.congr (fun j hj => ?_) r1, rfl, rfl⟩
            obtain rfl : j = 0 := by simp [Ty.sz] at hj; exact hj
            exact r.2 trivial
          · exact absurd h (by simp)
        · exact absurd h (by simp)
      · rename_i v' m T xs ho
        split at h
        · rename_i hT
          subst hT
          split at h
          · rename_i hv
            obtain rfl := Nat.eq_of_beq_eq_true hv
            simp only [Option.some.injEq, Prod.mk.injEq] at h
            obtain ⟨rfl, rfl⟩ := h
            simp only [AVR, ho] at r
            refine ⟨X, rfl, F, Tame.refl F.ij, Rep.congr (fun j hj => ?_) (F.objs o _ ho).2, rfl, rfl⟩
            obtain rfl : j = 0 := by simp [Ty.sz] at hj; exact hj
            exact r.2 trivial
          · exact absurd h (by simp)
        · exact absurd h (by simp)
      · exact absurd h (by simp)
    | _ => exact base F r h
  | _ => intro X a c p ob' F r h; exact base F r h

/-- A piece of a slice that lasts, or of a text. -/
def aSlice (tab : TTab) (t : TypeId) (lo hi : Option Int) : AV → Tr AV
  | .pv m (.slice e) xs => match tab.find t with
    | some ⟨_, .slice e', _⟩ =>
      let l := lo.getD 0
      let h := hi.getD (xs.length : Int)
      Tr.chk (decide (e = e')) <| Tr.grd (decide (0 ≤ l)) <| Tr.grd (decide (l ≤ h)) <| Tr.grd (decide (h ≤ (xs.length : Int))) <| .ret (.pv m (.slice e) ((xs.take h.toNat).drop l.toNat))
    | _ => .fail
  | .pv _ .str s => match tab.find t with
    | some ⟨_, .str, _⟩ =>
      let l := lo.getD 0
      let h := hi.getD (s.size : Int)
      Tr.grd (decide (0 ≤ l)) <| Tr.grd (decide (l ≤ h)) <| Tr.grd (decide (h ≤ (s.size : Int))) <| .ret (.pv false .str (s.extract l.toNat h.toNat))
    | _ => .fail
  | _ => .fail
def optV (k : IntKind) : Option Int → Option Value
  | some n => some (.int k n)
  | none => none
def snd2 (x : IntKind × Int) : Int := x.2
def toV (x : IntKind × Int) : Value := .int x.1 x.2
theorem run_bounds {isS : Bool} {len cap : Nat} {lo hi : Option (IntKind × Int)} (hlc : len ≤ cap) (h0 : 0 ≤ (lo.map snd2).getD 0) (h1 : (lo.map snd2).getD 0 ≤ (hi.map snd2).getD (len : Int)) (h2 : (hi.map snd2).getD (len : Int) ≤ (len : Int)) (w : World) :
    (Instr.sliceBounds isS len cap (lo.map toV) (hi.map toV) none).run P w = .ok (((lo.map snd2).getD 0).toNat, ((hi.map snd2).getD (len : Int)).toNat, cap) w := by
  cases lo with
  | none =>
    cases hi with
    | none => simp [Instr.sliceBounds]
    | some h =>
      simp only [Option.map_some, Option.map_none, Option.getD_some, Option.getD_none, snd2] at h0 h1 h2
      have a1 : 0 ≤ h.2 ∧ h.2 ≤ (cap : Int) := ⟨h1, by omega⟩
      simp [Instr.sliceBounds, Instr.sliceBound, asIntOf, a1, toV, snd2]
  | some l =>
    cases hi with
    | none =>
      simp only [Option.map_some, Option.map_none, Option.getD_some, Option.getD_none, snd2] at h0 h1 h2
      have a1 : 0 ≤ l.2 ∧ l.2 ≤ (len : Int) := ⟨h0, by omega⟩
      simp [Instr.sliceBounds, Instr.sliceBound, asIntOf, a1, toV, snd2]
    | some h =>
      simp only [Option.map_some, Option.getD_some, snd2] at h0 h1 h2
      have a1 : 0 ≤ h.2 ∧ h.2 ≤ (cap : Int) := ⟨by omega, by omega⟩
      have a2 : 0 ≤ l.2 ∧ l.2 ≤ ((h.2.toNat : Nat) : Int) := ⟨h0, by omega⟩
      have a3 : l.2 ≤ h.2 ∨ h.2 < 0 := .inl h1
      simp only [Instr.sliceBounds, Instr.sliceBound, asIntOf, Option.map_some, toV, snd2, Sem.run_bind, Sem.run_pure, Result.andThen_ok, if_pos a1, if_pos a2]
      rfl
theorem aSlice_ok (hT : tab.ok P = true) {t : TypeId} {lo hi : Option (IntKind × Int)} {a r : AV} {v : Value} (hv : SlotR X a v) (h : (aSlice tab t (lo.map snd2) (hi.map snd2) a).run = some r) :
    ∃ val, (Instr.sliceAt t v (lo.map toV) (hi.map toV) none).run P X.w = .ok val X.w ∧ SlotR X r val := by
  unfold aSlice at h
  split at h
  · rename_i m e xs
    split at h
    · rename_i _ e' _ ht
      replace h := Tr.run_chk h
      obtain ⟨he, h⟩ := h
      have he := of_decide_eq_true he
      subst he
      obtain ⟨h0, h⟩ := Tr.run_grd h
      obtain ⟨h1, h⟩ := Tr.run_grd h
      obtain ⟨h2, h⟩ := Tr.run_grd h
      have h0 := of_decide_eq_true h0
      have h1 := of_decide_eq_true h1
      have h2 := of_decide_eq_true h2
      obtain rfl := Tr.run_ret h
      obtain ⟨te, hu, hte⟩ := TB_slice (TTab.find_ok hT ht).1
      obtain ⟨ad, cap, rfl, hcap, hr⟩ := slot_slice hv
      have hb := run_bounds (P := P) (isS := true) hcap h0 h1 h2 X.w
      generalize hl : ((lo.map snd2).getD 0).toNat = l at hb ⊢
      generalize hh : ((hi.map snd2).getD (xs.length : Int)).toNat = g at hb ⊢
      have hle : l ≤ g := by omega
      have hge : g ≤ xs.length := by omega
      have hlen : ((xs.take g).drop l).length = g - l := by simp; omega
      refine ⟨.slice (if cap = l then ad else ad.map (·.add (l * e.sz))) (g - l) (cap - l), ?_, rfl, rfl, ?_⟩
      · simp [Instr.sliceAt, run_under hu, Instr.slice, hb, run_size hte]
      · refine ⟨_, _, by rw [hlen]; rfl, by rw [hlen]; omega, fun hp => ?_⟩
        rw [hlen] at hp
        obtain ⟨b, off, rfl, hI, hr⟩ := hr (by omega)
        refine ⟨b, off + l * e.sz, by rw [if_neg (by omega)]; simp [Addr.add_lit], hI, fun i hi => ?_⟩
        rw [hlen] at hi
        have e1 : ((xs.take g).drop l)[i]'(by rw [hlen]; exact hi) = xs[l + i]'(by omega) := by simp
        rw [e1, Nat.add_assoc, ← Nat.add_mul]
        exact hr (l + i) (by omega)
    · exact (Tr.run_fail h).elim
  · rename_i m s
    split at h
    · rename_i _ _ ht
      obtain ⟨h0, h⟩ := Tr.run_grd h
      obtain ⟨h1, h⟩ := Tr.run_grd h
      obtain ⟨h2, h⟩ := Tr.run_grd h
      have h0 := of_decide_eq_true h0
      have h1 := of_decide_eq_true h1
      have h2 := of_decide_eq_true h2
      obtain rfl := Tr.run_ret h
      have hu := TB_str (TTab.find_ok hT ht).1
      obtain rfl := slot_str hv
      have hb := run_bounds (P := P) (isS := false) (Nat.le_refl s.size) h0 h1 h2 X.w
      refine ⟨_, ?_, slot_mk_str _ _⟩
      simp [Instr.sliceAt, run_under hu, Instr.slice, hb]
    · exact (Tr.run_fail h).elim
  · exact (Tr.run_fail h).elim
end
end Go.Proofs.Ytbpfllifhpdlfaa.Ev
