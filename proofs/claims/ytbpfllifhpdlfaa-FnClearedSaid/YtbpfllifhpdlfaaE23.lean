/- A region that draws its order, as one step. -/
import Derived.Test.YtbpfllifhpdlfaaE22
import Derived.CheckFast
namespace Go.Proofs.Ytbpfllifhpdlfaa.Ev
open Go
set_option linter.unusedVariables false
set_option linter.unusedSimpArgs false

/-- The other operation stands ahead of this one, whatever is drawn. -/
def befB (M : Array Nat) (i j : Nat) : Bool := (M.getD i 0).testBit j
def edgesB (ops : Array Oper) (i : Nat) : List Nat := match ops[i]? with
  | some o => (o.after.toList.filter (Region.binds .any)).map (·.on)
  | none => []
/-- The table of who stands ahead of whom: each entry comes of an edge, and edges lead back. -/
def tableB (ops : Array Oper) (M : Array Nat) : Bool :=
  (upto ops.size).all fun i => (edgesB ops i).all (fun j => Nat.ble (j + 1) i) && (upto ops.size).all fun j => !befB M i j || (edgesB ops i).any fun e => Nat.beq e j || befB M e j
def pairB (fb : Nat) (ops : Array Oper) (M : Array Nat) (x y : Nat × Foot) : Bool := befB M y.1 x.1 || indB fb ops x y
def wholeB (ops : Array Oper) (M : Array Nat) (i : Nat) (o : Oper) : Bool := (upto ops.size).all fun j => Nat.beq i j || befB M i j || befB M j i || (quietOp o.op && match ops[j]? with
  | some p => quietOp p.op
  | none => true)
def AV.ids : AV → List Nat
  | .row o _ => [o]
  | .bptr o _ => [o]
  | .rptr o _ _ _ => [o]
  | .fn _ os => os
  | .pair a b => a.ids ++ b.ids
  | .tcons a b => a.ids ++ b.ids
  | _ => []
def footOf (ss : List AV) (ob : Objs) (o : Oper) : List Nat :=
  let l := o.op.operands.toList.flatMap fun x => match valOf ss x with
    | some a => a.ids
    | none => []
  l ++ l.flatMap fun i => match ob i with
    | some (.box _ a) => a.ids
    | _ => []
def freeB (id w : Nat) (ob : Objs) : Bool := (upto w).all fun k => (ob (id + k)).isNone
def dTxt (env : Env) (fb : Nat) (ops : Array Oper) (M : Array Nat) : List Nat → List (Nat × Foot) → List AV → Objs → Tr DS
  | [], _, ss, ob => .ret (ss, ob)
  | i :: l, rs, ss, ob => Tr.of (ops[i]?) fun o =>
    let go := fun ss =>
      let A : Foot := match wholeB ops M i o with
        | true => none
        | false => some (footOf ss ob o)
      Tr.chk (rs.all fun x => pairB fb ops M x (i, A)) <| Tr.chk (match A with | none => true | some _ => freeB (idOf fb o) (wid o) ob) <|
        (dExec env (idOf fb o) o ss (view A ob)).bind fun p => forceL (putA ss o.dst p.1) fun ss => dTxt env fb ops M l ((i, A) :: rs) ss (aft (quietOp o.op) A (idOf fb o) (wid o) p.2 ob)
    let skip := fun ss => Tr.chk (rs.all fun x => pairB fb ops M x (i, some [])) <| dTxt env fb ops M l ((i, some []) :: rs) (putA ss o.dst .tnil) ob
    match o.guard with
    | none => go ss
    | some (j, want) => match (ops[j]?).bind (·.dst) with
      | none => .fail
      | some d => match ss.getD d .undef with
        | .pv m .bool t => .ite t
            (match want with
              | true => go (ss.set d (.pv m .bool true))
              | false => skip (ss.set d (.pv m .bool true)))
            (match want with
              | true => skip (ss.set d (.pv m .bool false))
              | false => go (ss.set d (.pv m .bool false)))
        | .tnil => skip ss
        | _ => .fail
def dReg (env : Env) (fb : Nat) (ops : Array Oper) (ss : List AV) (ob : Objs) : Tr DS :=
  Tr.chk (tableB ops (CheckFast.beforeF ops)) <| dTxt env fb ops (CheckFast.beforeF ops) (upto ops.size) [] ss ob

section
variable {env : Env} {fb : Nat} {ops : Array Oper} {M : Array Nat}

theorem set_getD {ss : List AV} {d : Tmp} {a : AV} (h : ss.getD d .undef = a) (hne : a ≠ .undef) : ss.set d a = ss := by
  have hd : d < ss.length := by
    by_cases hd : d < ss.length
    · exact hd
    · exfalso; apply hne; rw [← h, List.getD_eq_getElem?_getD, List.getElem?_eq_none (Nat.le_of_not_lt hd)]; rfl
  have : ss[d] = a := by rw [← h, List.getD_eq_getElem?_getD, List.getElem?_eq_getElem hd]; rfl
  rw [← this, List.set_getElem_self]
theorem freeB_ok {id w : Nat} {ob : Objs} (h : freeB id w ob = true) : ∀ x, newB id w x = true → ob x = none := by
  intro x hx
  rw [newB_iff] at hx
  unfold freeB at h
  rw [List.all_eq_true] at h
  have := h (x - id) (List.mem_of_getElem? (upto_get (n := w) (i := x - id) (by omega)))
  rw [show id + (x - id) = x by omega] at this
  simpa using this

theorem dTxt_ok : ∀ (l : List Nat) (rs : List (Nat × Foot)) (ss : List AV) (ob : Objs) (s' : DS), (dTxt env fb ops M l rs ss ob).run = some s' →
    ∃ T : List (Nat × Foot), T.map (·.1) = l ∧ DRun env fb ops T (ss, ob) s' ∧ (∀ x, x ∈ rs → ∀ y, y ∈ T → pairB fb ops M x y = true) ∧ T.Pairwise fun x y => pairB fb ops M x y = true := by
  intro l
  induction l with
  | nil =>
    intro rs ss ob s' h
    obtain rfl := Tr.run_ret h
    exact ⟨[], rfl, rfl, fun _ _ _ hy => absurd hy (by simp), List.Pairwise.nil⟩
  | cons i l ih =>
    intro rs ss ob s' h
    simp only [dTxt] at h
    obtain ⟨o, ho, h⟩ := Tr.run_of h
    have add : ∀ (A : Foot) (s1 : DS), DStep env fb ops (i, A) (ss, ob) s1 → (rs.all fun x => pairB fb ops M x (i, A)) = true → (dTxt env fb ops M l ((i, A) :: rs) s1.1 s1.2).run = some s' →
        ∃ T : List (Nat × Foot), T.map (·.1) = i :: l ∧ DRun env fb ops T (ss, ob) s' ∧ (∀ x, x ∈ rs → ∀ y, y ∈ T → pairB fb ops M x y = true) ∧ T.Pairwise fun x y => pairB fb ops M x y = true := by
      intro A s1 h1 hrs h2
      obtain ⟨T, t1, t2, t3, t4⟩ := ih _ _ _ _ h2
      rw [List.all_eq_true] at hrs
      refine ⟨(i, A) :: T, by simp [t1], ⟨s1, h1, t2⟩, fun x hx y hy => ?_, List.Pairwise.cons (fun y hy => t3 _ List.mem_cons_self y hy) t4⟩
      rcases List.mem_cons.1 hy with e | e
      · subst e; exact hrs x hx
      · exact t3 x (List.mem_cons_of_mem _ hx) y e
    have go : gOn ops ss o = some true → ∀ A : Foot, (Tr.chk (rs.all fun x => pairB fb ops M x (i, A)) <| Tr.chk (match A with | none => true | some _ => freeB (idOf fb o) (wid o) ob) <|
        (dExec env (idOf fb o) o ss (view A ob)).bind fun p => forceL (putA ss o.dst p.1) fun ss => dTxt env fb ops M l ((i, A) :: rs) ss (aft (quietOp o.op) A (idOf fb o) (wid o) p.2 ob)).run = some s' → ∃ T : List (Nat × Foot), T.map (·.1) = i :: l ∧ DRun env fb ops T (ss, ob) s' ∧ (∀ x, x ∈ rs → ∀ y, y ∈ T → pairB fb ops M x y = true) ∧ T.Pairwise fun x y => pairB fb ops M x y = true := by
      intro hg A h
      obtain ⟨hrs, h⟩ := Tr.run_chk h
      obtain ⟨hfr, h⟩ := Tr.run_chk h
      rw [Tr.run_bind] at h
      obtain ⟨⟨v, ob1⟩, hp, h⟩ := Option.bind_eq_some_iff.1 h
      rw [forceL_eq] at h
      refine add A _ ⟨o, ho, .inr ⟨hg, ?_, v, ob1, hp, rfl⟩⟩ hrs h
      cases A with
      | none => exact .inl rfl
      | some A => exact .inr (freeB_ok hfr)
    have skip : gOn ops ss o = some false → (Tr.chk (rs.all fun x => pairB fb ops M x (i, some [])) <| dTxt env fb ops M l ((i, some []) :: rs) (putA ss o.dst .tnil) ob).run = some s' → ∃ T : List (Nat × Foot), T.map (·.1) = i :: l ∧ DRun env fb ops T (ss, ob) s' ∧ (∀ x, x ∈ rs → ∀ y, y ∈ T → pairB fb ops M x y = true) ∧ T.Pairwise fun x y => pairB fb ops M x y = true := by
      intro hg h
      obtain ⟨hrs, h⟩ := Tr.run_chk h
      exact add (some []) (putA ss o.dst .tnil, ob) ⟨o, ho, .inl ⟨hg, rfl⟩⟩ hrs h
    split at h
    · rename_i hg
      exact go (by simp [gOn, hg]) _ h
    · rename_i j want hg
      split at h
      · exact (Tr.run_fail h).elim
      · rename_i d hd
        split at h
        · rename_i m t hs
          have hset : ss.set d (.pv m .bool t) = ss := set_getD hs (by simp)
          have hgo : gOn ops ss o = some (t == want) := by simp only [gOn, hg, hd, hs]
          simp only [Tr.run] at h
          cases t with
          | true =>
            simp only [if_true] at h
            cases want with
            | true => dsimp only at h; rw [hset] at h; exact go (by rw [hgo]; rfl) _ h
            | false => dsimp only at h; rw [hset] at h; exact skip (by rw [hgo]; rfl) h
          | false =>
            simp only [Bool.false_eq_true, if_false] at h
            cases want with
            | true => dsimp only at h; rw [hset] at h; exact skip (by rw [hgo]; rfl) h
            | false => dsimp only at h; rw [hset] at h; exact go (by rw [hgo]; rfl) _ h
        · rename_i hs
          exact skip (by simp only [gOn, hg, hd, hs]) h
        · exact (Tr.run_fail h).elim

theorem before_closed (hM : tableB ops M = true) {i j : Nat} (hi : i < ops.size) (hj : j < ops.size) (h : befB M i j = true) : ∃ e, e ∈ edgesB ops i ∧ (e = j ∨ befB M e j = true) := by
  unfold tableB at hM
  rw [List.all_eq_true] at hM
  have h1 := hM i (List.mem_of_getElem? (upto_get hi))
  rw [Bool.and_eq_true, List.all_eq_true, List.all_eq_true] at h1
  have h2 := h1.2 j (List.mem_of_getElem? (upto_get hj))
  rw [h, Bool.not_true, Bool.false_or, List.any_eq_true] at h2
  obtain ⟨e, he, h2⟩ := h2
  refine ⟨e, he, ?_⟩
  rw [Bool.or_eq_true] at h2
  rcases h2 with h2 | h2
  · exact .inl (Nat.eq_of_beq_eq_true h2)
  · exact .inr h2
theorem edges_down (hM : tableB ops M = true) {i e : Nat} (hi : i < ops.size) (he : e ∈ edgesB ops i) : e < i := by
  unfold tableB at hM
  rw [List.all_eq_true] at hM
  have h1 := hM i (List.mem_of_getElem? (upto_get hi))
  rw [Bool.and_eq_true, List.all_eq_true] at h1
  exact Nat.le_of_ble_eq_true (h1.1 e he)
theorem edges_mem {i e : Nat} : e ∈ edgesB ops i ↔ ∃ o, ops[i]? = some o ∧ ∃ x, x ∈ o.after ∧ Region.binds .any x = true ∧ x.on = e := by
  unfold edgesB
  cases h : ops[i]? with
  | none => simp
  | some o => simp [and_assoc]
theorem ready_iff {i : Nat} {listed : Array Bool} : i ∈ Region.ready .any ops listed ↔ listed.getD i true = false ∧ i < ops.size ∧ ∀ e, e ∈ edgesB ops i → listed.getD e false = true := by
  rw [mem_ready]
  constructor
  · rintro ⟨h0, o, ho, h⟩
    refine ⟨h0, (Array.getElem?_eq_some_iff.1 ho).1, fun e he => ?_⟩
    obtain ⟨o', ho', x, hx, hb, rfl⟩ := edges_mem.1 he
    rw [ho] at ho'
    obtain rfl := Option.some.inj ho'
    exact h x hx hb
  · rintro ⟨h0, hi, h⟩
    exact ⟨h0, ops[i], by simp [hi], fun x hx hb => h x.on (edges_mem.2 ⟨ops[i], by simp [hi], x, hx, hb, rfl⟩)⟩

theorem orders (hM : tableB ops M = true) : ∀ (fuel t : Nat) (listed : Array Bool) (T : List (Nat × Foot)) (s s' : DS), T.length ≤ fuel → listed.size = ops.size → (T.map (·.1)).Pairwise (· < ·) → (∀ i, i ∈ T.map (·.1) ↔ i < ops.size ∧ listed.getD i true = false) →
    (∀ i j, listed.getD i false = true → j < ops.size → befB M i j = true → listed.getD j false = true) → (T.Pairwise fun x y => pairB fb ops M x y = true) → DRun env fb ops T s s' →
    ∃ L : List (Nat × Foot), L.map (·.1) = Region.linearise.go .any ops fuel t listed [] ∧ DRun env fb ops L s s' := by
  intro fuel
  induction fuel with
  | zero =>
    intro t listed T s s' hl hsz hsort hmem hcl hp hr
    obtain rfl : T = [] := List.eq_nil_of_length_eq_zero (by omega)
    exact ⟨[], rfl, hr⟩
  | succ fuel ih =>
    intro t listed T s s' hl hsz hsort hmem hcl hp hr
    simp only [Region.linearise.go]
    change ∃ L : List (Nat × Foot), L.map (·.1) = (match (Region.ready .any ops listed)[t % (Region.ready .any ops listed).length]? with
      | some i => Region.linearise.go .any ops fuel (t / (Region.ready .any ops listed).length) (listed.setIfInBounds i true) [i]
      | none => [].reverse) ∧ DRun env fb ops L s s'
    have hget : ∀ {i : Nat}, i < ops.size → (listed.getD i true = false ↔ ¬ listed.getD i false = true) := fun {i} hi => by
      have : i < listed.size := by omega
      simp [Array.getD, this]
    cases T with
    | nil =>
      have hnil : Region.ready .any ops listed = [] := by
        cases hc : Region.ready .any ops listed with
        | nil => rfl
        | cons i r =>
          have := ready_iff.1 (hc ▸ List.mem_cons_self : i ∈ Region.ready .any ops listed)
          exact absurd ((hmem i).2 ⟨this.2.1, this.1⟩) (by simp)
      rw [hnil]
      exact ⟨[], by simp, hr⟩
    | cons x0 T0 =>
      have hx0 := (hmem x0.1).1 (by simp)
      have hready : x0.1 ∈ Region.ready .any ops listed := by
        refine ready_iff.2 ⟨hx0.2, hx0.1, fun e he => ?_⟩
        have hlt := edges_down hM hx0.1 he
        by_cases hc : listed.getD e false = true
        · exact hc
        · exfalso
          have hin := (hmem e).2 ⟨by omega, (hget (by omega)).2 hc⟩
          rw [List.map_cons] at hin hsort
          rcases List.mem_cons.1 hin with e1 | e1
          · omega
          · have := (List.pairwise_cons.1 hsort).1 e e1; omega
      have hpos : 0 < (Region.ready .any ops listed).length := List.length_pos_of_mem hready
      have hlt : t % (Region.ready .any ops listed).length < (Region.ready .any ops listed).length := Nat.mod_lt _ hpos
      rw [List.getElem?_eq_getElem hlt]
      have hi : (Region.ready .any ops listed)[t % (Region.ready .any ops listed).length] ∈ Region.ready .any ops listed := List.getElem_mem hlt
      generalize (Region.ready .any ops listed)[t % (Region.ready .any ops listed).length] = i at hi
      dsimp only
      rw [linearise_go_acc, List.reverse_singleton, List.singleton_append]
      obtain ⟨r1, r2, r3⟩ := ready_iff.1 hi
      have hiT := (hmem i).2 ⟨r2, r1⟩
      obtain ⟨x, hx, rfl⟩ := List.mem_map.1 hiT
      obtain ⟨T1, T2, hT⟩ := List.append_of_mem hx
      rw [hT] at hr hp hsort hmem hl
      have hr' := bubble (fun y hy => by
        have h1 := (List.pairwise_append.1 hp).2.2 y hy x List.mem_cons_self
        unfold pairB at h1
        rw [Bool.or_eq_true] at h1
        rcases h1 with h1 | h1
        · exfalso
          have hy' := (hmem y.1).1 (List.mem_map.2 ⟨y, List.mem_append_left _ hy, rfl⟩)
          obtain ⟨e, he, h2⟩ := before_closed hM r2 hy'.1 h1
          have hle := r3 e he
          rcases h2 with h2 | h2
          · subst h2; exact (hget hy'.1).1 hy'.2 hle
          · exact (hget hy'.1).1 hy'.2 (hcl e y.1 hle hy'.1 h2)
        · exact h1) hr
      obtain ⟨s1, h1, h2⟩ := hr'
      have hsort2 : ((T1 ++ T2).map (·.1)).Pairwise (· < ·) := by
        refine hsort.sublist ?_
        rw [List.map_append, List.map_append, List.map_cons]
        exact List.Sublist.append (List.Sublist.refl _) (List.sublist_cons_self _ _)
      have hset : ∀ j, (listed.setIfInBounds x.1 true).getD j true = false ↔ listed.getD j true = false ∧ j ≠ x.1 := fun j => by
        by_cases e : j = x.1
        · subst e
          have : x.1 < listed.size := by omega
          simp [Array.getD, this]
        · rw [getD_set_ne _ (Ne.symm e)]
          simp [e]
      have hset2 : ∀ j, (listed.setIfInBounds x.1 true).getD j false = true ↔ listed.getD j false = true ∨ j = x.1 := fun j => by
        by_cases e : j = x.1
        · subst e
          have : x.1 < listed.size := by omega
          simp [Array.getD, this]
        · rw [getD_set_ne _ (Ne.symm e)]
          simp [e]
      obtain ⟨L, l1, l2⟩ := ih (t / (Region.ready .any ops listed).length) (listed.setIfInBounds x.1 true) (T1 ++ T2) s1 s' (by simp at hl ⊢; omega) (by simpa using hsz) hsort2 (fun j => by
          rw [hset]
          have hj := hmem j
          rw [List.map_append, List.map_cons] at hj
          rw [List.map_append]
          have hs := hsort
          rw [List.map_append, List.map_cons] at hs
          have hne : j ∈ T1.map (·.1) ++ T2.map (·.1) → j ≠ x.1 := fun hjm e => by
            subst e
            rcases List.mem_append.1 hjm with h | h
            · exact absurd ((List.pairwise_append.1 hs).2.2 _ h _ List.mem_cons_self) (by omega)
            · exact absurd ((List.pairwise_cons.1 (List.pairwise_append.1 hs).2.1).1 _ h) (by omega)
          constructor
          · intro h
            have h' := hj.1 (by
              rcases List.mem_append.1 h with h | h
              · exact List.mem_append_left _ h
              · exact List.mem_append_right _ (List.mem_cons_of_mem _ h))
            exact ⟨h'.1, h'.2, hne h⟩
          · rintro ⟨h1, h2, h3⟩
            have h' := hj.2 ⟨h1, h2⟩
            rcases List.mem_append.1 h' with h | h
            · exact List.mem_append_left _ h
            · rcases List.mem_cons.1 h with h | h
              · exact absurd h h3
              · exact List.mem_append_right _ h) (fun k j hk hj hb => by
          rw [hset2] at hk ⊢
          rcases hk with hk | hk
          · exact .inl (hcl k j hk hj hb)
          · subst hk
            obtain ⟨e, he, h2⟩ := before_closed hM r2 hj hb
            have hle := r3 e he
            rcases h2 with h2 | h2
            · subst h2; exact .inl hle
            · exact .inl (hcl e j hle hj h2)) (hp.sublist (List.Sublist.append (List.Sublist.refl _) (List.sublist_cons_self _ _))) h2
      exact ⟨x :: L, by rw [List.map_cons, l1], s1, h1, l2⟩
theorem upto_eq : ∀ n, upto n = List.range n := by
  intro n
  induction n with
  | zero => rfl
  | succ n ih => rw [upto, ih, List.range_succ]
theorem dReg_ok {ss : List AV} {ob : Objs} {s' : DS} (h : (dReg env fb ops ss ob).run = some s') (t : Nat) : ∃ L : List (Nat × Foot), L.map (·.1) = Region.schedule true ops t ∧ DRun env fb ops L (ss, ob) s' := by
  unfold dReg at h
  obtain ⟨hM, h⟩ := Tr.run_chk h
  obtain ⟨T, t1, t2, t3, t4⟩ := dTxt_ok _ _ _ _ _ h
  simp only [Region.schedule, Bool.true_or, if_true, Region.linearise]
  refine orders hM ops.size t (Array.replicate ops.size false) T (ss, ob) s' ?_ (by simp) (by rw [t1, upto_eq]; exact List.pairwise_lt_range) (fun i => ?_) (fun i j hi => ?_) t4 t2
  · rw [← List.length_map (f := (·.1)), t1, upto_eq, List.length_range]; exact Nat.le_refl _
  · rw [t1, upto_eq, List.mem_range]
    simp [Array.getD]
  · exfalso
    simp [Array.getD] at hi
end
end Go.Proofs.Ytbpfllifhpdlfaa.Ev
