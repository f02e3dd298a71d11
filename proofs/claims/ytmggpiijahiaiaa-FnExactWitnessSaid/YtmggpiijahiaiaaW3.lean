/- Proved: the law laws.FnExactWitness returns true for every input, and the input reads behind the call as it read before. There are no conditions. (The last theorem: fnExactWitness_holds.) -/
import Derived.Test.YtmggpiijahiaiaaW2
import Derived.CheckFast
import Derived.Laws.Externs
import Derived.Below
import Derived.ChangeArms
import Derived.Deep.Slices
import Derived.DataReads
import Derived.Test.YtmggpiijahiaiaaProg
import Derived.IntWalk
import Derived.Laws.Bits64
import Derived.Shelf.Spec.SlicesInsertGrow
import Derived.Deep.RegionLaw
import Derived.Shelf.RegionOpenPlain
import Derived.WalkKit
import Derived.Deep.LoopGhost
import Derived.Lib.Walk
import Derived.Lib.SliceRun
import Derived.Lib.SlicesDelete
/- A region that draws its order, asv one step. -/
namespace Go.Proofs.Ytmggpiijahiaiaa.Ev
open Go
set_option linter.unusedVariables false
set_option linter.unusedSimpArgs false

/-- The other operation stands ahead of this one, whatever is drawn. -/
def befB (M : Array Nat) (i j : Nat) : Bool := (M.getD i 0).testBit j
def edgesB (ops : Array Oper) (i : Nat) : List Nat := match ops[i]? with
  | some o => (o.after.toList.filter (Region.binds .any)).map (·.on)
  | none => []
/-- The table of who stands ahead of whom: each entry comes of an edge, and edges lead back. -/
def tableB (ops : Array Oper) (M : Array Nat) : Bool :=
  (upto ops.size).all fun i => (edgesB ops i).all (fun j => Nat.ble (j + 1) i) && (upto ops.size).all fun j => !befB M i j || (edgesB ops i).any fun e => Nat.beq e j || befB M e j
def pairB (fb : Nat) (ops : Array Oper) (M : Array Nat) (x y : Nat × Foot) : Bool := befB M y.1 x.1 || indB fb ops x y
def wholeB (ops : Array Oper) (M : Array Nat) (i : Nat) (o : Oper) : Bool := (upto ops.size).all fun j => Nat.beq i j || befB M i j || befB M j i || (quietOp o.op && match ops[j]? with
  | some p => quietOp p.op
  | none => true)
def AV.ids : AV → List Nat
  | .row o _ => [o]
  | .bptr o _ => [o]
  | .rptr o _ _ _ => [o]
  | .fn _ os => os
  | .pair a b => a.ids ++ b.ids
  | .tcons a b => a.ids ++ b.ids
  | _ => []
def footOf (ss : List AV) (ob : Objs) (o : Oper) : List Nat :=
  let l := o.op.operands.toList.flatMap fun x => match valOf ss x with
    | some a => a.ids
    | none => []
  l ++ l.flatMap fun i => match ob i with
    | some (.box _ a) => a.ids
    | _ => []
def freeB (id w : Nat) (ob : Objs) : Bool := (upto w).all fun k => (ob (id + k)).isNone
def dTxt (env : Env) (fb : Nat) (ops : Array Oper) (M : Array Nat) : List Nat → List (Nat × Foot) → List AV → Objs → Tr DS
  | [], _, ss, ob => .ret (ss, ob)
  | i :: l, rs, ss, ob => Tr.of (ops[i]?) fun o =>
    let go := fun ss =>
      let A : Foot := match wholeB ops M i o with
        | true => none
        | false => some (footOf ss ob o)
      Tr.chk (rs.all fun x => pairB fb ops M x (i, A)) <| Tr.chk (match A with | none => true | some _ => freeB (idOf fb o) (wid o) ob) <|
        (dExec env (idOf fb o) o ss (view A ob)).bind fun p => forceL (putA ss o.dst p.1) fun ss => dTxt env fb ops M l ((i, A) :: rs) ss (aft (quietOp o.op) A (idOf fb o) (wid o) p.2 ob)
    let skip := fun ss => Tr.chk (rs.all fun x => pairB fb ops M x (i, some [])) <| dTxt env fb ops M l ((i, some []) :: rs) (putA ss o.dst .tnil) ob
    match o.guard with
    | none => go ss
    | some (j, want) => match (ops[j]?).bind (·.dst) with
      | none => .fail
      | some d => match ss.getD d .undef with
        | .pv m .bool t => .ite t
            (match want with
              | true => go (ss.set d (.pv m .bool true))
              | false => skip (ss.set d (.pv m .bool true)))
            (match want with
              | true => skip (ss.set d (.pv m .bool false))
              | false => go (ss.set d (.pv m .bool false)))
        | .tnil => skip ss
        | _ => .fail
def dReg (env : Env) (fb : Nat) (ops : Array Oper) (ss : List AV) (ob : Objs) : Tr DS :=
  Tr.chk (tableB ops (CheckFast.beforeF ops)) <| dTxt env fb ops (CheckFast.beforeF ops) (upto ops.size) [] ss ob

section
variable {env : Env} {fb : Nat} {ops : Array Oper} {M : Array Nat}

theorem set_getD {ss : List AV} {d : Tmp} {a : AV} (h : ss.getD d .undef = a) (hne : a ≠ .undef) : ss.set d a = ss := by
  have hd : d < ss.length := by
    by_cases hd : d < ss.length
    · exact hd
    · exfalso; apply hne; rw [← h, List.getD_eq_getElem?_getD, List.getElem?_eq_none (Nat.le_of_not_lt hd)]; rfl
  have : ss[d] = a := by rw [← h, List.getD_eq_getElem?_getD, List.getElem?_eq_getElem hd]; rfl
  rw [← this, List.set_getElem_self]
theorem freeB_ok {id w : Nat} {ob : Objs} (h : freeB id w ob = true) : ∀ x, newB id w x = true → ob x = none := by
  intro x hx
  rw [newB_iff] at hx
  unfold freeB at h
  rw [List.all_eq_true] at h
  have := h (x - id) (List.mem_of_getElem? (upto_get (n := w) (i := x - id) (by omega)))
  rw [show id + (x - id) = x by omega] at this
  simpa using this

theorem aStore_head {tab : TTab} {ob ob1 : Objs} {t : TypeId} {p v : AV} (h : aStore tab ob t p v = some ob1) : ∃ a, p.ids = [a] ∧ (∀ o, o ≠ a → ob1 o = ob o) ∧ ob1 a ≠ none ∧ ob a ≠ none := by
  unfold aStore at h
  split at h
  · exact absurd h (by simp)
  · split at h
    · split at h
      · rename_i o p
        split at h
        · rename_i T a ho
          split at h
          · split at h
            · split at h
              · simp only [Option.some.injEq] at h
                subst h
                exact ⟨o, rfl, fun x hx => Objs.put_ne _ _ _ hx, by rw [Objs.put_same]; simp, by rw [ho]; simp⟩
              · exact absurd h (by simp)
            · exact absurd h (by simp)
          · exact absurd h (by simp)
        · exact absurd h (by simp)
      · rename_i o v0 i p
        split at h
        · rename_i v' m T xs ho
          split at h
          · split at h
            · split at h
              · split at h
                · simp only [Option.some.injEq] at h
                  subst h
                  exact ⟨o, rfl, fun x hx => Objs.put_ne _ _ _ hx, by rw [Objs.put_same]; simp, by rw [ho]; simp⟩
                · exact absurd h (by simp)
              · exact absurd h (by simp)
            · exact absurd h (by simp)
          · exact absurd h (by simp)
        · exact absurd h (by simp)
      · exact absurd h (by simp)
    · exact absurd h (by simp)
theorem store_head {o : Oper} {id : Nat} {ss : List AV} {ob obv ob1 : Objs} {v : AV} (hs : storeB o = true) (h : (dExec env id o ss obv).run = some (v, ob1)) : OnlyHead (some (footOf ss ob o)) obv ob1 := by
  unfold storeB at hs
  split at hs
  · rename_i t x y hop
    unfold dExec at h
    rw [hop] at h
    simp only [tgtOf, aOp] at h
    obtain ⟨p, hp, h⟩ := Tr.run_of h
    obtain ⟨q, hq, h⟩ := Tr.run_of h
    obtain ⟨ob', ho, h⟩ := Tr.run_of h
    simp only [Tr.run, Option.some.injEq, Prod.mk.injEq] at h
    obtain ⟨_, rfl⟩ := h
    obtain ⟨a, h1, h2, h3, h4⟩ := aStore_head ho
    have : ∃ l, footOf ss ob o = a :: l := by
      unfold footOf
      rw [hop]
      simp only [Op.operands, List.flatMap_cons, hp, h1]
      exact ⟨_, rfl⟩
    obtain ⟨l, hl⟩ := this
    rw [hl]
    exact ⟨h2, h3, h4⟩
  · exact absurd hs (by simp)
theorem dTxt_ok : ∀ (l : List Nat) (rs : List (Nat × Foot)) (ss : List AV) (ob : Objs) (s' : DS), (dTxt env fb ops M l rs ss ob).run = some s' →
    ∃ T : List (Nat × Foot), T.map (·.1) = l ∧ DRun env fb ops T (ss, ob) s' ∧ (∀ x, x ∈ rs → ∀ y, y ∈ T → pairB fb ops M x y = true) ∧ T.Pairwise fun x y => pairB fb ops M x y = true := by
  intro l
  induction l with
  | nil =>
    intro rs ss ob s' h
    obtain rfl := Tr.run_ret h
    exact ⟨[], rfl, rfl, fun _ _ _ hy => absurd hy (by simp), List.Pairwise.nil⟩
  | cons i l ih =>
    intro rs ss ob s' h
    simp only [dTxt] at h
    obtain ⟨o, ho, h⟩ := Tr.run_of h
    have add : ∀ (A : Foot) (s1 : DS), DStep env fb ops (i, A) (ss, ob) s1 → (rs.all fun x => pairB fb ops M x (i, A)) = true → (dTxt env fb ops M l ((i, A) :: rs) s1.1 s1.2).run = some s' →
        ∃ T : List (Nat × Foot), T.map (·.1) = i :: l ∧ DRun env fb ops T (ss, ob) s' ∧ (∀ x, x ∈ rs → ∀ y, y ∈ T → pairB fb ops M x y = true) ∧ T.Pairwise fun x y => pairB fb ops M x y = true := by
      intro A s1 h1 hrs h2
      obtain ⟨T, t1, t2, t3, t4⟩ := ih _ _ _ _ h2
      rw [List.all_eq_true] at hrs
      refine ⟨(i, A) :: T, by simp [t1], ⟨s1, h1, t2⟩, fun x hx y hy => ?_, List.Pairwise.cons (fun y hy => t3 _ List.mem_cons_self y hy) t4⟩
      rcases List.mem_cons.1 hy with e | e
      · subst e; exact hrs x hx
      · exact t3 x (List.mem_cons_of_mem _ hx) y e
    have go : gOn ops ss o = some true → ∀ A : Foot, (∀ B, A = some B → B = footOf ss ob o) → (Tr.chk (rs.all fun x => pairB fb ops M x (i, A)) <| Tr.chk (match A with | none => true | some _ => freeB (idOf fb o) (wid o) ob) <|
        (dExec env (idOf fb o) o ss (view A ob)).bind fun p => forceL (putA ss o.dst p.1) fun ss => dTxt env fb ops M l ((i, A) :: rs) ss (aft (quietOp o.op) A (idOf fb o) (wid o) p.2 ob)).run = some s' → ∃ T : List (Nat × Foot), T.map (·.1) = i :: l ∧ DRun env fb ops T (ss, ob) s' ∧ (∀ x, x ∈ rs → ∀ y, y ∈ T → pairB fb ops M x y = true) ∧ T.Pairwise fun x y => pairB fb ops M x y = true := by
      intro hg A hA h
      obtain ⟨hrs, h⟩ := Tr.run_chk h
      obtain ⟨hfr, h⟩ := Tr.run_chk h
      rw [Tr.run_bind] at h
      obtain ⟨⟨v, ob1⟩, hp, h⟩ := Option.bind_eq_some_iff.1 h
      rw [forceL_eq] at h
      refine add A _ ⟨o, ho, .inr ⟨hg, ?_, v, ob1, hp, fun hs => ?_, rfl⟩⟩ hrs h
      · cases A with
        | none => exact .inl rfl
        | some A => exact .inr (freeB_ok hfr)
      · cases A with
        | none => trivial
        | some A =>
          obtain rfl := hA A rfl
          exact store_head hs hp
    have skip : gOn ops ss o = some false → (Tr.chk (rs.all fun x => pairB fb ops M x (i, some [])) <| dTxt env fb ops M l ((i, some []) :: rs) (putA ss o.dst .tnil) ob).run = some s' → ∃ T : List (Nat × Foot), T.map (·.1) = i :: l ∧ DRun env fb ops T (ss, ob) s' ∧ (∀ x, x ∈ rs → ∀ y, y ∈ T → pairB fb ops M x y = true) ∧ T.Pairwise fun x y => pairB fb ops M x y = true := by
      intro hg h
      obtain ⟨hrs, h⟩ := Tr.run_chk h
      exact add (some []) (putA ss o.dst .tnil, ob) ⟨o, ho, .inl ⟨hg, rfl⟩⟩ hrs h
    have hfoot : ∀ (ss : List AV) (B : List Nat), (match wholeB ops M i o with | true => (none : Foot) | false => some (footOf ss ob o)) = some B → B = footOf ss ob o := fun ss B h => by
      split at h
      · exact absurd h (by simp)
      · exact (Option.some.inj h).symm
    split at h
    · rename_i hg
      exact go (by simp [gOn, hg]) _ (hfoot ss) h
    · rename_i j want hg
      split at h
      · exact (Tr.run_fail h).elim
      · rename_i d hd
        split at h
        · rename_i m t hs
          have hset : ss.set d (.pv m .bool t) = ss := set_getD hs (by simp)
          have hgo : gOn ops ss o = some (t == want) := by simp only [gOn, hg, hd, hs]
          simp only [Tr.run] at h
          cases t with
          | true =>
            simp only [if_true] at h
            cases want with
            | true => dsimp only at h; rw [hset] at h; exact go (by rw [hgo]; rfl) _ (hfoot ss) h
            | false => dsimp only at h; rw [hset] at h; exact skip (by rw [hgo]; rfl) h
          | false =>
            simp only [Bool.false_eq_true, if_false] at h
            cases want with
            | true => dsimp only at h; rw [hset] at h; exact skip (by rw [hgo]; rfl) h
            | false => dsimp only at h; rw [hset] at h; exact go (by rw [hgo]; rfl) _ (hfoot ss) h
        · rename_i hs
          exact skip (by simp only [gOn, hg, hd, hs]) h
        · exact (Tr.run_fail h).elim

theorem before_closed (hM : tableB ops M = true) {i j : Nat} (hi : i < ops.size) (hj : j < ops.size) (h : befB M i j = true) : ∃ e, e ∈ edgesB ops i ∧ (e = j ∨ befB M e j = true) := by
  unfold tableB at hM
  rw [List.all_eq_true] at hM
  have h1 := hM i (List.mem_of_getElem? (upto_get hi))
  rw [Bool.and_eq_true, List.all_eq_true, List.all_eq_true] at h1
  have h2 := h1.2 j (List.mem_of_getElem? (upto_get hj))
  rw [h, Bool.not_true, Bool.false_or, List.any_eq_true] at h2
  obtain ⟨e, he, h2⟩ := h2
  refine ⟨e, he, ?_⟩
  rw [Bool.or_eq_true] at h2
  rcases h2 with h2 | h2
  · exact .inl (Nat.eq_of_beq_eq_true h2)
  · exact .inr h2
theorem edges_down (hM : tableB ops M = true) {i e : Nat} (hi : i < ops.size) (he : e ∈ edgesB ops i) : e < i := by
  unfold tableB at hM
  rw [List.all_eq_true] at hM
  have h1 := hM i (List.mem_of_getElem? (upto_get hi))
  rw [Bool.and_eq_true, List.all_eq_true] at h1
  exact Nat.le_of_ble_eq_true (h1.1 e he)
theorem edges_mem {i e : Nat} : e ∈ edgesB ops i ↔ ∃ o, ops[i]? = some o ∧ ∃ x, x ∈ o.after ∧ Region.binds .any x = true ∧ x.on = e := by
  unfold edgesB
  cases h : ops[i]? with
  | none => simp
  | some o => simp [and_assoc]
theorem ready_iff {i : Nat} {listed : Array Bool} : i ∈ Region.ready .any ops listed ↔ listed.getD i true = false ∧ i < ops.size ∧ ∀ e, e ∈ edgesB ops i → listed.getD e false = true := by
  rw [mem_ready]
  constructor
  · rintro ⟨h0, o, ho, h⟩
    refine ⟨h0, (Array.getElem?_eq_some_iff.1 ho).1, fun e he => ?_⟩
    obtain ⟨o', ho', x, hx, hb, rfl⟩ := edges_mem.1 he
    rw [ho] at ho'
    obtain rfl := Option.some.inj ho'
    exact h x hx hb
  · rintro ⟨h0, hi, h⟩
    exact ⟨h0, ops[i], by simp [hi], fun x hx hb => h x.on (edges_mem.2 ⟨ops[i], by simp [hi], x, hx, hb, rfl⟩)⟩

theorem orders (hM : tableB ops M = true) : ∀ (fuel t : Nat) (listed : Array Bool) (T : List (Nat × Foot)) (s s' : DS), T.length ≤ fuel → listed.size = ops.size → (T.map (·.1)).Pairwise (· < ·) → (∀ i, i ∈ T.map (·.1) ↔ i < ops.size ∧ listed.getD i true = false) →
    (∀ i j, listed.getD i false = true → j < ops.size → befB M i j = true → listed.getD j false = true) → (T.Pairwise fun x y => pairB fb ops M x y = true) → DRun env fb ops T s s' →
    ∃ L : List (Nat × Foot), L.map (·.1) = Region.linearise.go .any ops fuel t listed [] ∧ DRun env fb ops L s s' := by
  intro fuel
  induction fuel with
  | zero =>
    intro t listed T s s' hl hsz hsort hmem hcl hp hr
    obtain rfl : T = [] := List.eq_nil_of_length_eq_zero (by omega)
    exact ⟨[], rfl, hr⟩
  | succ fuel ih =>
    intro t listed T s s' hl hsz hsort hmem hcl hp hr
    simp only [Region.linearise.go]
    change ∃ L : List (Nat × Foot), L.map (·.1) = (match (Region.ready .any ops listed)[t % (Region.ready .any ops listed).length]? with
      | some i => Region.linearise.go .any ops fuel (t / (Region.ready .any ops listed).length) (listed.setIfInBounds i true) [i]
      | none => [].reverse) ∧ DRun env fb ops L s s'
    have hget : ∀ {i : Nat}, i < ops.size → (listed.getD i true = false ↔ ¬ listed.getD i false = true) := fun {i} hi => by
      have : i < listed.size := by omega
      simp [Array.getD, this]
    cases T with
    | nil =>
      have hnil : Region.ready .any ops listed = [] := by
        cases hc : Region.ready .any ops listed with
        | nil => rfl
        | cons i r =>
          have := ready_iff.1 (hc ▸ List.mem_cons_self : i ∈ Region.ready .any ops listed)
          exact absurd ((hmem i).2 ⟨this.2.1, this.1⟩) (by simp)
      rw [hnil]
      exact ⟨[], by simp, hr⟩
    | cons x0 T0 =>
      have hx0 := (hmem x0.1).1 (by simp)
      have hready : x0.1 ∈ Region.ready .any ops listed := by
        refine ready_iff.2 ⟨hx0.2, hx0.1, fun e he => ?_⟩
        have hlt := edges_down hM hx0.1 he
        by_cases hc : listed.getD e false = true
        · exact hc
        · exfalso
          have hin := (hmem e).2 ⟨by omega, (hget (by omega)).2 hc⟩
          rw [List.map_cons] at hin hsort
          rcases List.mem_cons.1 hin with e1 | e1
          · omega
          · have := (List.pairwise_cons.1 hsort).1 e e1; omega
      have hpos : 0 < (Region.ready .any ops listed).length := List.length_pos_of_mem hready
      have hlt : t % (Region.ready .any ops listed).length < (Region.ready .any ops listed).length := Nat.mod_lt _ hpos
      rw [List.getElem?_eq_getElem hlt]
      have hi : (Region.ready .any ops listed)[t % (Region.ready .any ops listed).length] ∈ Region.ready .any ops listed := List.getElem_mem hlt
      generalize (Region.ready .any ops listed)[t % (Region.ready .any ops listed).length] = i at hi
      dsimp only
      rw [linearise_go_acc, List.reverse_singleton, List.singleton_append]
      obtain ⟨r1, r2, r3⟩ := ready_iff.1 hi
      have hiT := (hmem i).2 ⟨r2, r1⟩
      obtain ⟨x, hx, rfl⟩ := List.mem_map.1 hiT
      obtain ⟨T1, T2, hT⟩ := List.append_of_mem hx
      rw [hT] at hr hp hsort hmem hl
      have hr' := bubble (fun y hy => by
        have h1 := (List.pairwise_append.1 hp).2.2 y hy x List.mem_cons_self
        unfold pairB at h1
        rw [Bool.or_eq_true] at h1
        rcases h1 with h1 | h1
        · exfalso
          have hy' := (hmem y.1).1 (List.mem_map.2 ⟨y, List.mem_append_left _ hy, rfl⟩)
          obtain ⟨e, he, h2⟩ := before_closed hM r2 hy'.1 h1
          have hle := r3 e he
          rcases h2 with h2 | h2
          · subst h2; exact (hget hy'.1).1 hy'.2 hle
          · exact (hget hy'.1).1 hy'.2 (hcl e y.1 hle hy'.1 h2)
        · exact h1) hr
      obtain ⟨s1, h1, h2⟩ := hr'
      have hsort2 : ((T1 ++ T2).map (·.1)).Pairwise (· < ·) := by
        refine hsort.sublist ?_
        rw [List.map_append, List.map_append, List.map_cons]
        exact List.Sublist.append (List.Sublist.refl _) (List.sublist_cons_self _ _)
      have hset : ∀ j, (listed.setIfInBounds x.1 true).getD j true = false ↔ listed.getD j true = false ∧ j ≠ x.1 := fun j => by
        by_cases e : j = x.1
        · subst e
          have : x.1 < listed.size := by omega
          simp [Array.getD, this]
        · rw [getD_set_ne _ (Ne.symm e)]
          simp [e]
      have hset2 : ∀ j, (listed.setIfInBounds x.1 true).getD j false = true ↔ listed.getD j false = true ∨ j = x.1 := fun j => by
        by_cases e : j = x.1
        · subst e
          have : x.1 < listed.size := by omega
          simp [Array.getD, this]
        · rw [getD_set_ne _ (Ne.symm e)]
          simp [e]
      obtain ⟨L, l1, l2⟩ := ih (t / (Region.ready .any ops listed).length) (listed.setIfInBounds x.1 true) (T1 ++ T2) s1 s' (by simp at hl ⊢; omega) (by simpa using hsz) hsort2 (fun j => by
          rw [hset]
          have hj := hmem j
          rw [List.map_append, List.map_cons] at hj
          rw [List.map_append]
          have hs := hsort
          rw [List.map_append, List.map_cons] at hs
          have hne : j ∈ T1.map (·.1) ++ T2.map (·.1) → j ≠ x.1 := fun hjm e => by
            subst e
            rcases List.mem_append.1 hjm with h | h
            · exact absurd ((List.pairwise_append.1 hs).2.2 _ h _ List.mem_cons_self) (by omega)
            · exact absurd ((List.pairwise_cons.1 (List.pairwise_append.1 hs).2.1).1 _ h) (by omega)
          constructor
          · intro h
            have h' := hj.1 (by
              rcases List.mem_append.1 h with h | h
              · exact List.mem_append_left _ h
              · exact List.mem_append_right _ (List.mem_cons_of_mem _ h))
            exact ⟨h'.1, h'.2, hne h⟩
          · rintro ⟨h1, h2, h3⟩
            have h' := hj.2 ⟨h1, h2⟩
            rcases List.mem_append.1 h' with h | h
            · exact List.mem_append_left _ h
            · rcases List.mem_cons.1 h with h | h
              · exact absurd h h3
              · exact List.mem_append_right _ h) (fun k j hk hj hb => by
          rw [hset2] at hk ⊢
          rcases hk with hk | hk
          · exact .inl (hcl k j hk hj hb)
          · subst hk
            obtain ⟨e, he, h2⟩ := before_closed hM r2 hj hb
            have hle := r3 e he
            rcases h2 with h2 | h2
            · subst h2; exact .inl hle
            · exact .inl (hcl e j hle hj h2)) (hp.sublist (List.Sublist.append (List.Sublist.refl _) (List.sublist_cons_self _ _))) h2
      exact ⟨x :: L, by rw [List.map_cons, l1], s1, h1, l2⟩
theorem upto_eq : ∀ n, upto n = List.range n := by
  intro n
  induction n with
  | zero => rfl
  | succ n ih => rw [upto, ih, List.range_succ]
theorem dReg_ok {ss : List AV} {ob : Objs} {s' : DS} (h : (dReg env fb ops ss ob).run = some s') (t : Nat) : ∃ L : List (Nat × Foot), L.map (·.1) = Region.schedule true ops t ∧ DRun env fb ops L (ss, ob) s' := by
  unfold dReg at h
  obtain ⟨hM, h⟩ := Tr.run_chk h
  obtain ⟨T, t1, t2, t3, t4⟩ := dTxt_ok _ _ _ _ _ h
  simp only [Region.schedule, Bool.true_or, if_true, Region.linearise]
  refine orders hM ops.size t (Array.replicate ops.size false) T (ss, ob) s' ?_ (by simp) (by rw [t1, upto_eq]; exact List.pairwise_lt_range) (fun i => ?_) (fun i j hi => ?_) t4 t2
  · rw [← List.length_map (f := (·.1)), t1, upto_eq, List.length_range]; exact Nat.le_refl _
  · rw [t1, upto_eq, List.mem_range]
    simp [Array.getD]
  · exfalso
    simp [Array.getD] at hi
end
end Go.Proofs.Ytmggpiijahiaiaa.Ev
/- The machine's step, with regions that draw their order. -/
namespace Go.Proofs.Ytmggpiijahiaiaa.Ev
open Go
set_option linter.unusedVariables false
set_option linter.unusedSimpArgs false

def astepD (env : Env) (c : Cfg) : Tr Stp :=
  match c.fr.todo with
  | .code (.region _ ops true) :: k => (dReg env c.fr.fb ops c.fr.ss c.ob).bind fun s => .ret (.next { fr := { c.fr with ss := s.1, todo := k }, cs := c.cs, ob := s.2 })
  | _ => astep env c

section
variable {P : Program} {E : Fix} {X : Ctx} {env : Env}

theorem dExec_full {id : Nat} {o : Oper} {ss : List AV} {ob ob1 : Objs} {A : Foot} {v : AV} (hf : Free A id (wid o) ob) (h : (dExec env id o ss (view A ob)).run = some (v, ob1)) : (dExec env id o ss ob).run = some (v, aft (quietOp o.op) A id (wid o) ob1 ob) := by
  cases A with
  | none =>
    cases hq : quietOp o.op with
    | true => have := dExec_quiet hq h; rw [this] at h; exact h
    | false => exact h
  | some A =>
    have hfr : ∀ x, newB id (wid o) x = true → ob x = none := hf.resolve_left (by simp)
    obtain ⟨ob1', g, m⟩ := dExec_gr (restr_sub A ob) hfr v ob1 h
    rw [g]
    congr 2
    cases hq : quietOp o.op with
    | true => exact dExec_quiet hq g
    | false =>
      funext x
      simp only [aft, patch]
      cases ha : hasB A x with
      | true =>
        simp only [Bool.true_or, cond_true]
        rcases m x with ⟨h1, h2⟩ | ⟨h1, _⟩
        · rw [h1, h2]; simp [restr, ha]
        · exact h1
      | false =>
        cases hn : newB id (wid o) x with
        | true =>
          simp only [Bool.or_true, cond_true]
          rcases m x with ⟨h1, h2⟩ | ⟨h1, _⟩
          · rw [h1, h2, hfr x hn]; simp [restr, ha]
          · exact h1
        | false =>
          simp only [Bool.or_self, cond_false]
          rcases m x with ⟨h1, h2⟩ | ⟨h1, h2, _⟩
          · exact h2
          · rcases h2 with h2 | h2
            · simp [restr, ha] at h2
            · have h2' : newB id (wid o) x = true := h2
              rw [hn] at h2'; exact absurd h2' (by simp)
theorem aExec_of {c : Cfg} {o : Oper} {ops : Array Oper} {rest : List Nat} {k : List Item} {v : AV} {ob' : Objs} (h : (dExec env (idOf c.fr.fb o) o c.fr.ss c.ob).run = some (v, ob')) : (aExec env c o ops rest k).run = some (.next (c.did o ops rest k v ob')) := by
  unfold dExec at h
  unfold aExec
  cases ht : tgtOf c.fr.ss o.op with
  | op =>
    rw [ht] at h
    dsimp only at h ⊢
    rw [Tr.run_bind, h]
    rfl
  | call g asv =>
    rw [ht] at h
    dsimp only at h ⊢
    cases hs : assoc env.sigs g with
    | none =>
      rw [hs] at h
      dsimp only at h ⊢
      cases hx : assoc env.exts g with
      | none => rw [hx] at h; exact (Tr.run_fail h).elim
      | some x =>
        rw [hx] at h
        dsimp only at h ⊢
        rw [Tr.run_bind] at h ⊢
        obtain ⟨r, hr, h⟩ := Option.bind_eq_some_iff.1 h
        simp only [Tr.run, Option.some.injEq, Prod.mk.injEq] at h
        obtain ⟨rfl, rfl⟩ := h
        rw [hr]
        rfl
    | some sg =>
      rw [hs] at h
      dsimp only at h ⊢
      obtain ⟨_, h⟩ := Tr.run_chk h
      rw [Tr.run_bind, h]
      rfl
  | bad => rw [ht] at h; exact (Tr.run_fail h).elim
theorem aGuard_of {c : Cfg} {ops : Array Oper} {x : Nat × Foot} {rest : List Nat} {k : List Item} {s s' : DS} (hss : c.fr.ss = s.1) (hob : c.ob = s.2) (h : DStep env c.fr.fb ops x s s') :
    ∃ o, ops[x.1]? = some o ∧ (aGuard env c o ops x.1 rest k).run = some (.next { fr := { c.fr with ss := s'.1, todo := .inRegion ops rest :: k }, cs := c.cs, ob := s'.2 }) := by
  obtain ⟨o, ho, h⟩ := h
  refine ⟨o, ho, ?_⟩
  rcases h with ⟨hg, rfl⟩ | ⟨hg, hf, v, ob1, hr, _, rfl⟩
  · unfold gOn at hg
    unfold aGuard
    split at hg
    · exact absurd hg (by simp)
    · rename_i j want he
      split at hg
      · exact absurd hg (by simp)
      · rename_i d hd
        simp only [he, hd]
        rw [hss]
        split at hg
        · rename_i m t hs
          have hset : s.1.set d (.pv m .bool t) = s.1 := set_getD hs (by simp)
          simp only [hs, Tr.run]
          simp only [Option.some.injEq] at hg
          cases t with
          | true =>
            cases want with
            | true => simp at hg
            | false =>
              simp only [if_true, Tr.run]
              rw [hset]
              simp only [Cfg.did, Cfg.ss, hob]
          | false =>
            cases want with
            | false => simp at hg
            | true =>
              simp only [Bool.false_eq_true, if_false, Tr.run]
              rw [hset]
              simp only [Cfg.did, Cfg.ss, hob]
        · rename_i hs
          simp only [hs, Tr.run, Cfg.did, hob, hss]
        · exact absurd hg (by simp)
  · have hfull := dExec_full hf hr
    have hc : ∀ c' : Cfg, c' = c → (aExec env c' o ops rest k).run = some (.next { fr := { c.fr with ss := putA s.1 o.dst v, todo := .inRegion ops rest :: k }, cs := c.cs, ob := aft (quietOp o.op) x.2 (idOf c.fr.fb o) (wid o) ob1 s.2 }) := by
      intro c' e
      subst e
      rw [aExec_of (c := c') (by rw [hss, hob]; exact hfull)]
      simp only [Cfg.did, hss]
    unfold gOn at hg
    unfold aGuard
    split at hg
    · rename_i he
      simp only [he]
      exact hc c rfl
    · rename_i j want he
      split at hg
      · exact absurd hg (by simp)
      · rename_i d hd
        simp only [he, hd]
        split at hg
        · rename_i m t hs
          have hset : c.fr.ss.set d (.pv m .bool t) = c.fr.ss := set_getD (by rw [hss]; exact hs) (by simp)
          have hself : c.ss c.fr.ss = c := rfl
          rw [hss, hs]
          rw [hss] at hset hself
          simp only [Tr.run]
          simp only [Option.some.injEq] at hg
          cases t with
          | true =>
            cases want with
            | true => simp only [if_true]; rw [hset, hself]; exact hc c rfl
            | false => simp at hg
          | false =>
            cases want with
            | false => simp only [Bool.false_eq_true, if_false]; rw [hset, hself]; exact hc c rfl
            | true => simp at hg
        · exact absurd hg (by simp)
        · exact absurd hg (by simp)

theorem dRun_ok (hE : env.Ok P) (cs0 : List Frame) {ops : Array Oper} {k : List Item} : ∀ (L : List (Nat × Foot)) (X : Ctx) (c : Cfg) (ts : Array Value) (fs : List Frame) (s' : DS), Sim E X c ts fs → c.fr.todo = .inRegion ops (L.map (·.1)) :: k → DRun env c.fr.fb ops L (c.fr.ss, c.ob) s' →
    ∃ X' ts' fs', Sim E X' { fr := { c.fr with ss := s'.1, todo := k }, cs := c.cs, ob := s'.2 } ts' fs' ∧ Evo X X' ∧ Steps P (lone (mk c.fr ts) (fs ++ cs0) X.w) (lone (mk { c.fr with ss := s'.1, todo := k } ts') (fs' ++ cs0) X'.w) := by
  intro L
  induction L with
  | nil =>
    intro X c ts fs s' S ht h
    obtain rfl : (c.fr.ss, c.ob) = s' := h
    refine ⟨X, ts, fs, ⟨S.fits, S.ss, S.cs, S.ob⟩, Evo.refl S.fits.ij, .one ?_⟩
    have hmk : mk c.fr ts = (baseOf c.fr.fn).at { tmps := ts, defers := [] } (.inRegion ops [] :: k) := by rw [mk_at, ht]; rfl
    rw [hmk, step_region_end]
    rfl
  | cons x L ih =>
    intro X c ts fs s' S ht h
    obtain ⟨s1, h1, h2⟩ := h
    obtain ⟨o, ho, hg⟩ := aGuard_of (c := c) (rest := L.map (·.1)) (k := k) rfl rfl h1
    have ht' : c.fr.todo = .inRegion ops (x.1 :: L.map (·.1)) :: k := by rw [ht]; rfl
    obtain ⟨X1, ts1, fs1, S1, e1, _, st1⟩ := aGuard_ok hE S ht' ho hg cs0
    obtain ⟨X2, ts2, fs2, S2, e2, st2⟩ := ih X1 _ ts1 fs1 s' S1 rfl h2
    exact ⟨X2, ts2, fs2, S2, e1.trans e2, st1.trans st2⟩

theorem astepD_ok (hE : env.Ok P) {c : Cfg} {ts : Array Value} {fs : List Frame} (S : Sim E X c ts fs) {s : Stp} (h : (astepD env c).run = some s) (cs0 : List Frame) : Led P E X cs0 (lone (mk c.fr ts) (fs ++ cs0) X.w) (rootL c.fr c.cs) s := by
  unfold astepD at h
  split at h
  · rename_i id ops k ht
    rw [Tr.run_bind] at h
    obtain ⟨s1, hs, h⟩ := Option.bind_eq_some_iff.1 h
    obtain rfl := Tr.run_ret h
    have hmk : mk c.fr ts = (baseOf c.fr.fn).at { tmps := ts, defers := [] } (.code (.region id ops true) :: k) := by rw [mk_at, ht]
    have hst := step_region_draw (P := P) (b := baseOf c.fr.fn) (a := { tmps := ts, defers := [] }) (k := k) (cs := fs ++ cs0) (w := X.w) (ops := ops) (id := id)
    rw [hE.mixed, ← hmk] at hst
    generalize X.w.tape X.w.drawn (.order (baseOf c.fr.fn).fn id) = t at hst
    obtain ⟨L, l1, l2⟩ := dReg_ok hs t
    obtain ⟨F1, e1⟩ := S.fits.same (w' := { X.w with drawn := X.w.drawn + 1 }) rfl rfl rfl rfl
    have S1 : Sim E { X with w := { X.w with drawn := X.w.drawn + 1 } } (c.to (.inRegion ops (L.map (·.1)) :: k)) ts fs := ⟨F1, S.ss.evo e1, S.cs.evo e1, S.ob⟩
    obtain ⟨X2, ts2, fs2, S2, e2, st2⟩ := dRun_ok hE cs0 L _ _ ts fs s1 S1 rfl l2
    refine ⟨X2, ts2, fs2, S2, e1.trans e2, by show rootL _ c.cs = _; cases c.cs <;> rfl, .head hst ?_⟩
    rw [← l1]
    exact st2
  · exact astep_ok hE S h cs0
end
end Go.Proofs.Ytmggpiijahiaiaa.Ev
/- The whole run of a function, told abstractly; and that it meets its contract. -/
namespace Go.Proofs.Ytmggpiijahiaiaa.Ev
open Go
set_option linter.unusedVariables false
set_option linter.unusedSimpArgs false

/-- What is told otherwise at a loop's head: a nil slice asv a row of the call's own; a value asv one that lasts. In a slot, or at a path in the variable that a slot points to. -/
inductive Co where
  | nil (d : Nat) (p : Option (List Step)) (e : Ty)
  | pur (d : Nat) (p : Option (List Step)) (T : Ty)
structure Ann where
  fn : FuncId
  key : Nat
  keep : List Nat
  co : List Co
def firstReg : Code → Option Nat
  | .region id _ _ => some id
  | .seq a b => match firstReg a with
    | some i => some i
    | none => firstReg b
  | .cond _ a b => match firstReg a with
    | some i => some i
    | none => firstReg b
  | .block _ b => firstReg b
  | .loop b => firstReg b
  | .scope b => firstReg b
  | _ => none
def annOf : List Ann → FuncId → Nat → Option Ann
  | [], _, _ => none
  | a :: r, f, k => bif Nat.beq a.fn f && Nat.beq a.key k then some a else annOf r f k
def pathOkB : List Step → Ty → Bool
  | [], _ => true
  | .fst :: p, .pair a _ => pathOkB p a
  | .snd :: p, .pair _ b => pathOkB p b
  | .ix i :: p, .arr n e => Nat.ble (i + 1) n && pathOkB p e
  | _, _ => false
theorem pathOkB_ok : ∀ {p : List Step} {T : Ty}, pathOkB p T = true → PathOk p T := by
  intro p
  induction p with
  | nil => intro T _; cases T <;> trivial
  | cons s p ih =>
    intro T h
    cases s <;> cases T <;> simp only [pathOkB, Bool.and_eq_true, reduceCtorEq] at h
    · exact ih h
    · exact ih h
    · exact ⟨Nat.le_of_ble_eq_true h.1, ih h.2⟩
def coe1 (id : Nat) : Co → Cfg → Option Cfg
  | .nil d none e, c => match c.fr.ss.getD d .undef with
    | .nilv => match c.ob id with
      | none => some { fr := { c.fr with ss := c.fr.ss.set d (.row id 0) }, cs := c.cs, ob := c.ob.put id (.row 0 false e []) }
      | some _ => none
    | .row _ _ => some c
    | _ => none
  | .nil d (some p) e, c => match c.fr.ss.getD d .undef with
    | .bptr o [] => match c.ob o with
      | some (.box T a) => match AV.get p a with
        | some .nilv => match c.ob id, Ty.at p T, AV.upd p a (.row id 0), pathOkB p T with
          | none, some (_, .slice _), some a', true => some { fr := c.fr, cs := c.cs, ob := (c.ob.put id (.row 0 false e [])).put o (.box T a') }
          | _, _, _, _ => none
        | some (.row _ _) => some c
        | _ => none
      | _ => none
    | _ => none
  | .pur d none T, c => match purify T c.ob (c.fr.ss.getD d .undef) with
    | some (q, ob') => some { fr := { c.fr with ss := c.fr.ss.set d (.pv q.1 T q.2) }, cs := c.cs, ob := ob' }
    | none => none
  | .pur d (some p) T, c => match c.fr.ss.getD d .undef with
    | .bptr o [] => match c.ob o with
      | some (.box T0 a) => match Ty.at p T0, AV.get p a with
        | some (_, T1), some b => if T1 = T then (match purify T c.ob b with
          | some (q, ob') => match AV.upd p a (.pv q.1 T q.2), pathOkB p T0 with
            | some a', true => some { fr := c.fr, cs := c.cs, ob := ob'.put o (.box T0 a') }
            | _, _ => none
          | none => none) else none
        | _, _ => none
      | _ => none
    | _ => none
def coes : Nat → List Co → Cfg → Option Cfg
  | _, [], c => some c
  | id, x :: r, c => match coe1 id x c with
    | some c' => coes (id + 1) r c'
    | none => none
/-- Where a run stops: at a loop's head; at a branch or a region that the annotations name. -/
def loopKey : List Item → Option Nat
  | .code body :: _ => firstReg body
  | _ => none
def cutKey : List Item → Option Nat
  | .code (.cond (.tmp t) _ _) :: _ => some (100000 + t)
  | .code (.region id _ _) :: _ => some (200000 + id)
  | _ => none
/-- Frames that wait for a call: what they no longer need is forgotten, too. -/
def callKey : List Item → Option Nat
  | .inRegion ops (i :: _) :: _ => match ops[i]? with
    | some o => match o.dst with
      | some d => some (300000 + d)
      | none => none
    | none => none
  | _ => none
def keepF (anns : List Ann) (b : AFr) : AFr := match callKey b.todo with
  | some k => match annOf anns b.fn k with
    | some an => { fn := b.fn, fb := b.fb, ss := keepS an.keep 0 b.ss, todo := b.todo }
    | none => b
  | none => b
def keepFs (anns : List Ann) : List AFr → List AFr
  | [] => []
  | b :: r => keepF anns b :: keepFs anns r
def normC (anns : List Ann) (n : Nat) (key : Option Nat) (c : Cfg) : Option Cfg :=
  match key with
  | some k => match annOf anns c.fr.fn k with
    | some an => match coes 200 an.co { fr := { c.fr with ss := keepS an.keep 0 c.fr.ss }, cs := keepFs anns c.cs, ob := c.ob } with
      | some c' => ren n c'
      | none => none
    | none => none
  | none => none
def cutB (anns : List Ann) (f : FuncId) : Option Nat → Bool
  | some k => (annOf anns f k).isSome
  | none => false

@[reducible] def Sig.R (sg : Sig) : Ty := .pair sg.outs.ty (mutsTy sg.ps)
def ev (env : Env) (anns : List Ann) (sg : Sig) (rec : Cfg → Option sg.R.D) : Nat → Cfg → Tr sg.R.D
  | 0, _ => .fail
  | n + 1, c => (astepD env c).bind fun
    | .next c' => match cutB anns c'.fr.fn (cutKey c'.fr.todo) with
      | true => Tr.of (normC anns (mCount sg.ps) (cutKey c'.fr.todo) c') fun c'' => .call sg.R (rec c'') .ret
      | false => forceN c'.fr.fb fun fb => forceL c'.fr.ss fun ss => ev env anns sg rec n { fr := { fn := c'.fr.fn, fb := fb, ss := ss, todo := c'.fr.todo }, cs := c'.cs, ob := c'.ob }
    | .loop c' => Tr.of (normC anns (mCount sg.ps) (loopKey c'.fr.todo) c') fun c'' => .call sg.R (rec c'') .ret
    | .done a ob => Tr.of (fin sg a ob) .ret
def Om (env : Env) (anns : List Ann) (sg : Sig) (N : Nat) : Nat → Cfg → Option sg.R.D
  | 0, _ => none
  | k + 1, c => (ev env anns sg (Om env anns sg N k) N c).run
def entryS : (ps : List Par) → (parsTy ps).D → Nat → Nat → List AV
  | [], _, _, _ => []
  | .lent T :: ps, x, n, k => .pv (!T.flat) T x.1 :: entryS ps x.2 n k
  | .leak T :: ps, x, n, k => .pv false T x.1 :: entryS ps x.2 n k
  | .mbox _ :: ps, x, n, k => .bptr n [] :: entryS ps x.2 (n + 1) k
  | .ptr T :: ps, x, n, k => .pp true T x.1 :: entryS ps x.2 n k
  | .own _ :: ps, x, n, k => .row k 0 :: entryS ps x.2 n (k + 1)
def entryO : (ps : List Par) → (parsTy ps).D → Nat → Nat → Objs → Objs
  | [], _, _, _, s => s
  | .lent _ :: ps, x, n, k, s => entryO ps x.2 n k s
  | .leak _ :: ps, x, n, k, s => entryO ps x.2 n k s
  | .mbox T :: ps, x, n, k, s => entryO ps x.2 (n + 1) k (s.put n (.box T (.pv false T x.1)))
  | .ptr _ :: ps, x, n, k, s => entryO ps x.2 n k s
  | .own e :: ps, x, n, k, s => entryO ps x.2 n (k + 1) (s.put k (.row 0 false e x.1))
def entry (sg : Sig) (g : FuncId) (fn : Func) (body : Code) (xs : (parsTy sg.ps).D) : Cfg :=
  { fr := { fn := g, fb := 0, ss := entryS sg.ps xs 0 (mCount sg.ps) ++ List.replicate (fn.ntmps - (entryS sg.ps xs 0 (mCount sg.ps)).length) AV.undef, todo := [.code body] }, cs := [], ob := entryO sg.ps xs 0 (mCount sg.ps) (fun _ => none) }
def runF (env : Env) (anns : List Ann) (sg : Sig) (N k : Nat) (g : FuncId) (fn : Func) (body : Code) (xs : (parsTy sg.ps).D) : Option sg.R.D :=
  (ev env anns sg (Om env anns sg N k) N (entry sg g fn body xs)).run

section
variable {P : Program} {E : Fix} {X : Ctx} {env : Env}

/-- One thing that is told otherwise, with the same world. -/
def Same (E : Fix) (X : Ctx) (c c' : Cfg) (ts : Array Value) (fs : List Frame) : Prop := ∃ X', X'.w = X.w ∧ Sim E X' c' ts fs ∧ Evo X X' ∧ c'.fr.todo = c.fr.todo ∧ c'.fr.fn = c.fr.fn ∧ rootL c'.fr c'.cs = rootL c.fr c.cs

theorem nilRow (F : Fits E X) {id : Nat} (hid : X.objs id = none) (e : Ty) : ∃ X', X'.w = X.w ∧ X'.objs = X.objs.put id (.row 0 false e []) ∧ Fits E X' ∧ Evo X X' ∧ ∀ c : Cs, c 0 = some (.slice none 0 0) → AVR X' (.row id 0) c := by
  obtain ⟨g1, g2⟩ := Fits.put F (w' := X.w) (o := id) (ob := .row 0 false e []) (l := ⟨0, 0, 0, true⟩) (mine := fun _ => False) (Turns.refl X) (fun b hb => hb.elim) (fun ob0 h0 => by rw [hid] at h0; exact absurd h0 (by simp))
    (fun b hb => absurd hb.1 (by simp)) (fun hev => ⟨rfl, fun _ => rfl, fun hh => absurd hh (by simp)⟩)
  refine ⟨X.put X.w id (.row 0 false e []) ⟨0, 0, 0, true⟩, rfl, rfl, g1, g2, fun c hc => ?_⟩
  have e0 : (X.put X.w id (.row 0 false e []) ⟨0, 0, 0, true⟩).objs id = some (.row 0 false e []) := Objs.put_same _ _ _
  simp only [AVR, e0, Ctx.put_φ_same]
  exact ⟨Nat.le_refl _, fun _ => hc⟩
/-- The same variable, told otherwise. -/
theorem boxTold (F : Fits E X) {o : Nat} {T : Ty} {a a' : AV} (ho : X.objs o = some (.box T a)) (hf : a'.fits T = true) (hr : AVR X a' (mem X.w (X.φ o).blk 0)) :
    ∃ X', X'.w = X.w ∧ X'.objs = X.objs.put o (.box T a') ∧ Fits E X' ∧ Evo X X' := by
  obtain ⟨g1, g2⟩ := Fits.put F (w' := X.w) (o := o) (ob := .box T a') (l := X.φ o) (mine := fun _ => False) (Turns.refl X) (fun b hb => hb.elim) (fun ob0 h0 => by rw [ho] at h0; obtain rfl := Option.some.inj h0; exact ⟨rfl, rfl⟩)
    (fun b hb => .inl (by unfold Own; rw [ho]; exact hb)) (fun hev => ⟨hf, box_cells F ho, hr.evo hev⟩)
  exact ⟨X.put X.w o (.box T a') (X.φ o), rfl, rfl, g1, g2⟩

theorem getD_slot {ss : List AV} {ts : Array Value} (h : SlotsR X ss ts) (d : Nat) : SlotR X (ss.getD d .undef) (ts.getD d (.tuple #[])) := h.2 d
theorem slots_tell {ss : List AV} {ts : Array Value} (h : SlotsR X ss ts) {d : Nat} {a : AV} (ha : SlotR X a (ts.getD d (.tuple #[]))) : SlotsR X (ss.set d a) ts := by
  refine ⟨by simp [h.1], fun i => ?_⟩
  by_cases hi : i = d
  · subst hi
    by_cases hl : i < ss.length
    · have : (ss.set i a).getD i .undef = a := by simp [List.getD_eq_getElem?_getD, hl]
      rw [this]; exact ha
    · have : (ss.set i a).getD i .undef = .undef := by
        rw [List.getD_eq_getElem?_getD, List.getElem?_eq_none (by simp; omega)]; rfl
      rw [this]; trivial
  · have : (ss.set d a).getD i .undef = ss.getD i .undef := by
      simp [List.getD_eq_getElem?_getD, List.getElem?_set_ne (Ne.symm hi)]
    rw [this]; exact h.2 i

theorem coe1_ok {id : Nat} {x : Co} {c c' : Cfg} {ts : Array Value} {fs : List Frame} (S : Sim E X c ts fs) (h : coe1 id x c = some c') : Same E X c c' ts fs := by
  have hsame : Same E X c c ts fs := ⟨X, rfl, S, Evo.refl S.fits.ij, rfl, rfl, rfl⟩
  have hroot : ∀ (ss : List AV), rootL { c.fr with ss := ss } c.cs = rootL c.fr c.cs := by intro ss; cases c.cs <;> rfl
  cases x with
  | nil d p e =>
    cases p with
    | none =>
      simp only [coe1] at h
      split at h
      · rename_i hs
        split at h
        · rename_i hid
          simp only [Option.some.injEq] at h
          subst h
          have hsl := S.ss.2 d
          rw [hs] at hsl
          rw [← S.ob] at hid
          obtain ⟨X', w1, o1, F1, e1, k1⟩ := nilRow S.fits hid e
          refine ⟨X', w1, ⟨F1, slots_tell (S.ss.evo e1) ?_, S.cs.evo e1, by rw [o1, S.ob]⟩, e1, rfl, rfl, hroot _⟩
          obtain ⟨q1, q2, q3⟩ := hsl
          exact ⟨q1, q2, k1 _ q3⟩
        · exact absurd h (by simp)
      · simp only [Option.some.injEq] at h; subst h; exact hsame
      · exact absurd h (by simp)
    | some p =>
      simp only [coe1] at h
      split at h
      · rename_i o hs
        split at h
        · rename_i T a ho
          split at h
          · rename_i hg
            split at h
            · rename_i off e' a' hid hat hu hpk
              simp only [Option.some.injEq] at h
              subst h
              rw [← S.ob] at hid ho
              obtain ⟨hf, hm⟩ := box_mem S.fits ho
              obtain ⟨X1, w1, o1, F1, e1, k1⟩ := nilRow S.fits hid e
              have ho1 : X1.objs o = some (.box T a) := by
                rw [o1, Objs.put_ne]; exact ho
                intro e; subst e; rw [hid] at ho; cases ho
              have hφ := evo_boxφ e1 ho
              have hm1 := hm.evo e1
              have hok := pathOkB_ok hpk
              obtain ⟨g1, g2⟩ := AV.get_ok hm1 hf hat hok hg
              obtain ⟨u1, u2⟩ := AV.upd_ok F1.ij hm1 hf hat hok (v := .row id 0) (by simp [AV.fits]) (k1 _ g1) (fun _ _ _ => rfl) hu
              have hmem : mem X1.w (X1.φ o).blk 0 = mem X.w (X.φ o).blk 0 := by rw [hφ, w1]
              obtain ⟨X2, w2, o2, F2, e2⟩ := boxTold F1 ho1 u2 (by rw [hmem]; exact u1)
              exact ⟨X2, w2.trans w1, ⟨F2, (S.ss.evo e1).evo e2, (S.cs.evo e1).evo e2, by rw [o2, o1, S.ob]⟩, e1.trans e2, rfl, rfl, rfl⟩
            · exact absurd h (by simp)
          · simp only [Option.some.injEq] at h; subst h; exact hsame
          · exact absurd h (by simp)
        · exact absurd h (by simp)
      · exact absurd h (by simp)
  | pur d p T =>
    cases p with
    | none =>
      simp only [coe1] at h
      split at h
      · rename_i q ob' hq
        simp only [Option.some.injEq] at h
        subst h
        rw [← S.ob] at hq
        have hval : ValR X (c.fr.ss.getD d .undef) (ts.getD d (.tuple #[])) := by
          have hsl := S.ss.2 d
          cases hc : c.fr.ss.getD d .undef with
          | undef => rw [hc] at hq; cases T <;> simp [purify, AV.pureAs] at hq
          | tnil => rw [hc] at hq; cases T <;> simp [purify, AV.pureAs] at hq
          | tcons y z => rw [hc] at hq; cases T <;> simp [purify, AV.pureAs] at hq
          | _ => rw [hc] at hsl; exact hsl
        obtain ⟨X', o1, F1, t1, r1, s1, g1⟩ := purify_ok S.fits hval.2.2 hq
        refine ⟨X', t1.w, ⟨F1, slots_tell (S.ss.evo t1.evo) ⟨hval.1.trans g1, hval.2.1.trans s1, r1⟩, S.cs.evo t1.evo, o1⟩, t1.evo, rfl, rfl, hroot _⟩
      · exact absurd h (by simp)
    | some p =>
      simp only [coe1] at h
      split at h
      · rename_i o hs
        split at h
        · rename_i T0 a ho
          split at h
          · rename_i off T1 b hat hg
            split at h
            · rename_i hT
              subst hT
              split at h
              · rename_i q ob' hq
                split at h
                · rename_i a' hu hpk
                  simp only [Option.some.injEq] at h
                  subst h
                  rw [← S.ob] at ho hq
                  obtain ⟨hf, hm⟩ := box_mem S.fits ho
                  have hok := pathOkB_ok hpk
                  obtain ⟨g1, g2⟩ := AV.get_ok hm hf hat hok hg
                  obtain ⟨X1, o1, F1, t1, r1, _, _⟩ := purify_ok S.fits g1 hq
                  have ho1 := t1.box o _ _ ho
                  have hm1 := hm.evo t1.evo
                  have hmem : mem X1.w (X1.φ o).blk 0 = mem X.w (X.φ o).blk 0 := by rw [t1.φ, t1.w]
                  obtain ⟨u1, u2⟩ := AV.upd_ok F1.ij hm1 hf hat hok (v := .pv q.1 T1 q.2) (by simp [AV.fits]) r1 (fun _ _ _ => rfl) hu
                  obtain ⟨X2, w2, o2, F2, e2⟩ := boxTold F1 ho1 u2 (by rw [hmem]; exact u1)
                  exact ⟨X2, w2.trans t1.w, ⟨F2, (S.ss.evo t1.evo).evo e2, (S.cs.evo t1.evo).evo e2, by rw [o2, o1]⟩, t1.evo.trans e2, rfl, rfl, rfl⟩
                · exact absurd h (by simp)
              · exact absurd h (by simp)
            · exact absurd h (by simp)
          · exact absurd h (by simp)
        · exact absurd h (by simp)
      · exact absurd h (by simp)

theorem coes_ok : ∀ {l : List Co} {id : Nat} {X : Ctx} {c c' : Cfg} {ts : Array Value} {fs : List Frame}, Sim E X c ts fs → coes id l c = some c' → Same E X c c' ts fs := by
  intro l
  induction l with
  | nil => intro id X c c' ts fs S h; simp only [coes, Option.some.injEq] at h; subst h; exact ⟨X, rfl, S, Evo.refl S.fits.ij, rfl, rfl, rfl⟩
  | cons x l ih =>
    intro id X c c' ts fs S h
    simp only [coes] at h
    split at h
    · rename_i c1 h1
      obtain ⟨X1, w1, S1, e1, t1, f1, r1⟩ := coe1_ok S h1
      obtain ⟨X2, w2, S2, e2, t2, f2, r2⟩ := ih S1 h
      exact ⟨X2, w2.trans w1, S2, e1.trans e2, t2.trans t1, f2.trans f1, r2.trans r1⟩
    · exact absurd h (by simp)

theorem keepF_same (anns : List Ann) (b : AFr) : (keepF anns b).fn = b.fn ∧ (keepF anns b).todo = b.todo := by
  unfold keepF
  split
  · split <;> exact ⟨rfl, rfl⟩
  · exact ⟨rfl, rfl⟩
theorem keepF_ss {anns : List Ann} {b : AFr} {ts : Array Value} (h : SlotsR X b.ss ts) : SlotsR X (keepF anns b).ss ts := by
  unfold keepF
  split
  · split
    · exact keepS_ok h
    · exact h
  · exact h
theorem keepFs_ok {anns : List Ann} : ∀ {cs : List AFr} {fs : List Frame}, CsR X cs fs → CsR X (keepFs anns cs) fs := by
  intro cs
  induction cs with
  | nil => intro fs h; exact h
  | cons b r ih =>
    intro fs h
    obtain ⟨ts, s, e, h1, h2⟩ := h
    obtain ⟨k1, k2⟩ := keepF_same anns b
    refine ⟨ts, s, ?_, keepF_ss h1, ih h2⟩
    rw [e]
    unfold mk
    rw [k1, k2]
theorem keepFs_root {anns : List Ann} : ∀ (cs : List AFr) (a b : AFr), a.fn = b.fn → rootL a (keepFs anns cs) = rootL b cs := by
  intro cs
  induction cs with
  | nil => intro a b h; exact h
  | cons x r ih => intro a b _; exact ih _ _ (keepF_same anns x).1
theorem normC_ok {anns : List Ann} {c c' : Cfg} {ts : Array Value} {fs : List Frame} (S : Sim E X c ts fs) {ps : List Par} {bs : List Nat} (hMB : MB X ps 0 bs) {key : Option Nat} (h : normC anns (mCount ps) key c = some c') :
    ∃ X', X'.w = X.w ∧ Sim E X' c' ts fs ∧ MB X' ps 0 bs ∧ c'.fr.todo = c.fr.todo ∧ c'.fr.fn = c.fr.fn ∧ rootL c'.fr c'.cs = rootL c.fr c.cs := by
  unfold normC at h
  split at h
  · split at h
    · rename_i an _
      split at h
      · rename_i c1 hc
        have S0 : Sim E X { fr := { c.fr with ss := keepS an.keep 0 c.fr.ss }, cs := keepFs anns c.cs, ob := c.ob } ts fs := ⟨S.fits, keepS_ok S.ss, keepFs_ok S.cs, S.ob⟩
        have hroot : rootL { c.fr with ss := keepS an.keep 0 c.fr.ss } (keepFs anns c.cs) = rootL c.fr c.cs := keepFs_root c.cs _ _ rfl
        obtain ⟨X1, w1, S1, e1, t1, f1, r1⟩ := coes_ok S0 hc
        obtain ⟨X2, w2, S2, m2, t2, f2, r2⟩ := ren_ok S1 (MB.evo e1 ps 0 bs hMB) h
        exact ⟨X2, w2.trans w1, S2, m2, t2.trans t1, f2.trans f1, (r2.trans r1).trans hroot⟩
      · exact absurd h (by simp)
    · exact absurd h (by simp)
  · exact absurd h (by simp)

/-- Where a run ends. -/
def Final (P : Program) (E : Fix) (sg : Sig) (bs : List Nat) (ls : List Loc) (cs0 : List Frame) (m : Machine) (root : FuncId) (r : sg.R.D) : Prop :=
  ∃ w' v fr I' owns, Steps P m (lone fr cs0 w') ∧ fr.fn = root ∧ fr.leaving P w' (.returned v) ∧ PostR E.w0 w' E.I0 bs ls sg r v I' owns
theorem Final.of_steps {sg : Sig} {bs : List Nat} {ls : List Loc} {cs0 : List Frame} {m m' : Machine} {root : FuncId} {r : sg.R.D} (h : Steps P m m') (k : Final P E sg bs ls cs0 m' root r) : Final P E sg bs ls cs0 m root r := by
  obtain ⟨w', v, fr, I', owns, h1, h2⟩ := k
  exact ⟨w', v, fr, I', owns, h.trans h1, h2⟩

theorem ev_ok (hE : env.Ok P) {anns : List Ann} {sg : Sig} {bs : List Nat} {ls : List Loc} (hS : ∀ b, E.S b ↔ b ∈ bs ++ ls.flatMap Loc.blks) (cs0 : List Frame) {rec : Cfg → Option sg.R.D}
    (hrec : ∀ (X : Ctx) (c : Cfg) (ts : Array Value) (fs : List Frame) (r : sg.R.D), Sim E X c ts fs → MB X sg.ps 0 bs → rec c = some r → Final P E sg bs ls cs0 (lone (mk c.fr ts) (fs ++ cs0) X.w) (rootL c.fr c.cs) r) :
    ∀ (n : Nat) (X : Ctx) (c : Cfg) (ts : Array Value) (fs : List Frame) (r : sg.R.D), Sim E X c ts fs → MB X sg.ps 0 bs → (ev env anns sg rec n c).run = some r → Final P E sg bs ls cs0 (lone (mk c.fr ts) (fs ++ cs0) X.w) (rootL c.fr c.cs) r := by
  have head : ∀ (X' : Ctx) (c' c'' : Cfg) (ts' : Array Value) (fs' : List Frame) (r : sg.R.D) (key : Option Nat), Sim E X' c' ts' fs' → MB X' sg.ps 0 bs → normC anns (mCount sg.ps) key c' = some c'' → (Tr.call sg.R (rec c'') .ret).run = some r → ∀ {root : FuncId}, rootL c'.fr c'.cs = root → Final P E sg bs ls cs0 (lone (mk c'.fr ts') (fs' ++ cs0) X'.w) root r := by
    intro X' c' c'' ts' fs' r key S' hMB hn h root r'
    simp only [Tr.run] at h
    obtain ⟨q, hq, h⟩ := Option.bind_eq_some_iff.1 h
    obtain rfl := Option.some.inj h
    obtain ⟨X2, w2, S2, m2, t2, f2, r2⟩ := normC_ok S' hMB hn
    have := hrec X2 c'' ts' fs' q S2 m2 hq
    rw [r2, r', w2] at this
    have hmk : mk c''.fr ts' = mk c'.fr ts' := by unfold mk; rw [t2, f2]
    rw [hmk] at this
    exact this
  intro n
  induction n with
  | zero => intro X c ts fs r _ _ h; exact (Tr.run_fail h).elim
  | succ n ih =>
    intro X c ts fs r S hMB h
    simp only [ev] at h
    rw [Tr.run_bind] at h
    obtain ⟨s, hs, h⟩ := Option.bind_eq_some_iff.1 h
    have hl := astepD_ok hE S hs cs0
    cases s with
    | next c' =>
      obtain ⟨X', ts', fs', S', e', r', st⟩ := hl
      dsimp only at h
      split at h
      · obtain ⟨c'', hn, h⟩ := Tr.run_of h
        exact (head X' c' c'' ts' fs' r _ S' (MB.evo e' _ _ _ hMB) hn h r').of_steps st
      · rw [forceN_eq, forceL_eq] at h
        have := ih X' c' ts' fs' r S' (MB.evo e' _ _ _ hMB) h
        rw [r'] at this
        exact this.of_steps st
    | loop c' =>
      obtain ⟨X', ts', fs', S', e', r', st⟩ := hl
      obtain ⟨c'', hn, h⟩ := Tr.run_of h
      exact (head X' c' c'' ts' fs' r _ S' (MB.evo e' _ _ _ hMB) hn h r').of_steps st
    | done a ob =>
      obtain ⟨X', v, fr, hv, F', o', e', st, hf, hlv⟩ := hl
      obtain ⟨q, hq, h⟩ := Tr.run_of h
      obtain rfl := Option.some.inj h
      subst o'
      obtain ⟨I', owns, hp⟩ := fin_ok F' hv (MB.evo e' _ _ _ hMB) hS hq
      exact ⟨X'.w, v, fr, I', owns, st, hf, hlv, hp⟩
theorem Om_ok (hE : env.Ok P) {anns : List Ann} {sg : Sig} {bs : List Nat} {ls : List Loc} (hS : ∀ b, E.S b ↔ b ∈ bs ++ ls.flatMap Loc.blks) (cs0 : List Frame) (N : Nat) :
    ∀ (k : Nat) (X : Ctx) (c : Cfg) (ts : Array Value) (fs : List Frame) (r : sg.R.D), Sim E X c ts fs → MB X sg.ps 0 bs → Om env anns sg N k c = some r → Final P E sg bs ls cs0 (lone (mk c.fr ts) (fs ++ cs0) X.w) (rootL c.fr c.cs) r := by
  intro k
  induction k with
  | zero => intro X c ts fs r _ _ h; exact absurd h (by simp [Om])
  | succ k ih => intro X c ts fs r S hMB h; exact ev_ok hE hS cs0 ih N X c ts fs r S hMB h

/-- The variables that were handed over, at the begin; and the rows. -/
def EB (X : Ctx) : (ps : List Par) → (parsTy ps).D → Nat → List Nat → Prop
  | [], _, _, bs => bs = []
  | .lent _ :: ps, x, n, bs => EB X ps x.2 n bs
  | .leak _ :: ps, x, n, bs => EB X ps x.2 n bs
  | .ptr _ :: ps, x, n, bs => EB X ps x.2 n bs
  | .own _ :: ps, x, n, bs => EB X ps x.2 n bs
  | .mbox T :: ps, x, n, bs => ∃ b r, bs = b :: r ∧ (X.φ n).blk = b ∧ X.objs n = some (.box T (.pv false T x.1)) ∧ EB X ps x.2 (n + 1) r
def ER (X : Ctx) : (ps : List Par) → (parsTy ps).D → Nat → List Loc → Prop
  | [], _, _, ls => ls = []
  | .lent _ :: ps, x, k, ls => ER X ps x.2 k ls
  | .leak _ :: ps, x, k, ls => ER X ps x.2 k ls
  | .ptr _ :: ps, x, k, ls => ER X ps x.2 k ls
  | .mbox _ :: ps, x, k, ls => ER X ps x.2 k ls
  | .own e :: ps, x, k, ls => ∃ l r, ls = l :: r ∧ X.φ k = l ∧ X.objs k = some (.row 0 false e x.1) ∧ ER X ps x.2 (k + 1) r
def oCount : List Par → Nat
  | [] => 0
  | .own _ :: ps => oCount ps + 1
  | .lent _ :: ps => oCount ps
  | .leak _ :: ps => oCount ps
  | .ptr _ :: ps => oCount ps
  | .mbox _ :: ps => oCount ps
theorem entryO_off : ∀ {ps : List Par} {xs : (parsTy ps).D} {n k o : Nat} {s : Objs}, (o < n ∨ n + mCount ps ≤ o) → (o < k ∨ k + oCount ps ≤ o) → entryO ps xs n k s o = s o := by
  intro ps
  induction ps with
  | nil => intro xs n k o s _ _; rfl
  | cons p ps ih =>
    intro xs n k o s h1 h2
    cases p with
    | lent T => exact ih (xs := xs.2) (s := s) h1 h2
    | leak T => exact ih (xs := xs.2) (s := s) h1 h2
    | ptr T => exact ih (xs := xs.2) (s := s) h1 h2
    | mbox T =>
      simp only [mCount] at h1
      simp only [oCount] at h2
      simp only [entryO]
      rw [ih (xs := xs.2) (by omega) h2, Objs.put_ne _ _ _ (by omega)]
    | own e =>
      simp only [mCount] at h1
      simp only [oCount] at h2
      simp only [entryO]
      rw [ih (xs := xs.2) h1 (by omega), Objs.put_ne _ _ _ (by omega)]
theorem entryO_at : ∀ {ps : List Par} {xs : (parsTy ps).D} {n k o : Nat} {s : Objs} {ob : AObj}, entryO ps xs n k s o = some ob → s o = some ob ∨ (n ≤ o ∧ o < n + mCount ps) ∨ (k ≤ o ∧ o < k + oCount ps) := by
  intro ps xs n k o s ob h
  by_cases h1 : n ≤ o ∧ o < n + mCount ps
  · exact .inr (.inl h1)
  · by_cases h2 : k ≤ o ∧ o < k + oCount ps
    · exact .inr (.inr h2)
    · rw [entryO_off (by omega) (by omega)] at h; exact .inl h
theorem EB_of {w : World} {I J : Bs} {X : Ctx} {all : List Nat} : ∀ {ps : List Par} {xs : (parsTy ps).D} {vs : List Value} {bs : List Nat} {ls : List Loc} {n k : Nat} {s : Objs}, ArgsR w I J ps xs vs bs ls → n + mCount ps ≤ k → (∀ i, n ≤ i → i < n + mCount ps → (X.φ i).blk = all.getD i 0) → (∀ i, bs[i]? = all[n + i]?) → (∀ o, n ≤ o → o < n + mCount ps → X.objs o = entryO ps xs n k s o) → EB X ps xs n bs := by
  intro ps
  induction ps with
  | nil => intro xs vs bs ls n k s h _ _ _ _; exact h.2.1
  | cons p ps ih =>
    intro xs vs bs ls n k s h hk hφ hall ho
    cases p with
    | lent T => obtain ⟨v, r, _, _, h⟩ := h; exact ih (xs := xs.2) h hk hφ hall ho
    | leak T => obtain ⟨v, r, _, _, h⟩ := h; exact ih (xs := xs.2) h hk hφ hall ho
    | ptr T => obtain ⟨b, off, r, _, _, _, h⟩ := h; exact ih (xs := xs.2) h hk hφ hall ho
    | own e =>
      obtain ⟨l, r, ls', _, _, _, h⟩ := h
      simp only [mCount] at hk hφ ho
      exact ih (xs := xs.2) (k := k + 1) (s := s.put k (.row 0 false e xs.1)) h (by omega) hφ hall ho
    | mbox T =>
      obtain ⟨b, r, bs', e1, e2, h1, h2, h⟩ := h
      subst e2
      simp only [mCount] at hk hφ ho
      refine ⟨b, bs', rfl, ?_, ?_, ih (xs := xs.2) (k := k) (s := s.put n (.box T (.pv false T xs.1))) h (by omega) (fun i hi hi' => hφ i (by omega) (by omega)) (fun i => ?_) (fun o hn hn' => ?_)⟩
      · rw [hφ n (Nat.le_refl _) (by omega), List.getD_eq_getElem?_getD]
        have := hall 0
        simp only [Nat.add_zero, List.getElem?_cons_zero] at this
        rw [← this]; rfl
      · rw [ho n (Nat.le_refl _) (by omega)]
        simp only [entryO]
        rw [entryO_off (xs := xs.2) (by omega) (by omega), Objs.put_same]
      · have := hall (i + 1)
        simp only [List.getElem?_cons_succ] at this
        rw [this]
        congr 1; omega
      · rw [ho o (by omega) (by omega)]; rfl
theorem ER_of {w : World} {I J : Bs} {X : Ctx} {M : Nat} {all : List Loc} : ∀ {ps : List Par} {xs : (parsTy ps).D} {vs : List Value} {bs : List Nat} {ls : List Loc} {n k : Nat} {s : Objs}, ArgsR w I J ps xs vs bs ls → n + mCount ps ≤ k → M ≤ k → (∀ i, M ≤ i → X.φ i = all.getD (i - M) ⟨0, 0, 0, true⟩) → (∀ i, ls[i]? = all[k - M + i]?) → (∀ o, k ≤ o → X.objs o = entryO ps xs n k s o) → ER X ps xs k ls := by
  intro ps
  induction ps with
  | nil => intro xs vs bs ls n k s h _ _ _ _ _; exact h.2.2
  | cons p ps ih =>
    intro xs vs bs ls n k s h hk hM hφ hall ho
    cases p with
    | lent T => obtain ⟨v, r, _, _, h⟩ := h; exact ih (xs := xs.2) (n := n) h hk hM hφ hall ho
    | leak T => obtain ⟨v, r, _, _, h⟩ := h; exact ih (xs := xs.2) (n := n) h hk hM hφ hall ho
    | ptr T => obtain ⟨b, off, r, _, _, _, h⟩ := h; exact ih (xs := xs.2) (n := n) h hk hM hφ hall ho
    | mbox T =>
      obtain ⟨b, r, bs', _, _, _, _, h⟩ := h
      simp only [mCount] at hk
      exact ih (xs := xs.2) (n := n + 1) h (by omega) hM hφ hall ho
    | own e =>
      obtain ⟨l, r, ls', _, e2, _, h⟩ := h
      subst e2
      simp only [mCount] at hk
      refine ⟨l, ls', rfl, ?_, ?_, ih (xs := xs.2) (n := n) (s := s.put k (.row 0 false e xs.1)) h (by omega) (by omega) hφ (fun i => ?_) (fun o hn => ?_)⟩
      · rw [hφ k hM, List.getD_eq_getElem?_getD]
        have := hall 0
        simp only [Nat.add_zero, List.getElem?_cons_zero] at this
        rw [← this]; rfl
      · rw [ho k (Nat.le_refl _)]
        simp only [entryO]
        rw [entryO_off (xs := xs.2) (by omega) (by omega), Objs.put_same]
      · have := hall (i + 1)
        simp only [List.getElem?_cons_succ] at this
        rw [this]
        congr 1; omega
      · rw [ho o (by omega)]; rfl
theorem EB.mb {X : Ctx} : ∀ {ps : List Par} {xs : (parsTy ps).D} {n : Nat} {bs : List Nat}, EB X ps xs n bs → MB X ps n bs := by
  intro ps
  induction ps with
  | nil => intro xs n bs h; exact h
  | cons p ps ih =>
    intro xs n bs h
    cases p with
    | lent T => exact ih (xs := xs.2) h
    | leak T => exact ih (xs := xs.2) h
    | ptr T => exact ih (xs := xs.2) h
    | own T => exact ih (xs := xs.2) h
    | mbox T => obtain ⟨b, r, e, h1, h2, h3⟩ := h; exact ⟨b, r, e, h1, ⟨_, h2⟩, ih h3⟩
theorem EB.slots {X : Ctx} {w : World} (hw : X.w = w) : ∀ {ps : List Par} {xs : (parsTy ps).D} {n k : Nat} {vs : List Value} {bs : List Nat} {ls : List Loc}, ArgsR w X.I X.J ps xs vs bs ls → EB X ps xs n bs → ER X ps xs k ls → (entryS ps xs n k).length = vs.length ∧ ∀ i, SlotR X ((entryS ps xs n k).getD i .undef) (vs.getD i (.tuple #[])) := by
  subst hw
  intro ps
  induction ps with
  | nil => intro xs n k vs bs ls h _ _; rw [h.1]; exact ⟨rfl, fun i => trivial⟩
  | cons p ps ih =>
    intro xs n kk vs bs ls h k kr
    cases p with
    | lent T =>
      obtain ⟨v, r, rfl, h1, h⟩ := h
      obtain ⟨l1, l2⟩ := ih (xs := xs.2) h k kr
      refine ⟨by simp [entryS, l1], fun i => ?_⟩
      cases i with
      | zero =>
        refine slot_of_val ⟨h1.1, h1.2.1, ?_⟩
        show Rep X.w (X.set (!T.flat)) T xs.1 (cv v)
        cases hf : T.flat with
        | true => exact h1.2.2.flat hf
        | false => exact h1.2.2
      | succ i => simpa [entryS] using l2 i
    | leak T =>
      obtain ⟨v, r, rfl, h1, h⟩ := h
      obtain ⟨l1, l2⟩ := ih (xs := xs.2) h k kr
      refine ⟨by simp [entryS, l1], fun i => ?_⟩
      cases i with
      | zero => exact slot_of_val ⟨h1.1, h1.2.1, h1.2.2⟩
      | succ i => simpa [entryS] using l2 i
    | ptr T =>
      obtain ⟨b, off, r, rfl, h1, h2, h⟩ := h
      obtain ⟨l1, l2⟩ := ih (xs := xs.2) h k kr
      refine ⟨by simp [entryS, l1], fun i => ?_⟩
      cases i with
      | zero => exact slot_of_val ⟨rfl, rfl, b, off, rfl, h1, h2⟩
      | succ i => simpa [entryS] using l2 i
    | own e =>
      obtain ⟨l, r, ls', rfl, rfl, h1, h⟩ := h
      obtain ⟨l', r', e1, k1, k2, k3⟩ := kr
      simp only [List.cons.injEq] at e1
      obtain ⟨rfl, rfl⟩ := e1
      obtain ⟨l1, l2⟩ := ih (xs := xs.2) h k k3
      refine ⟨by simp [entryS, l1], fun i => ?_⟩
      cases i with
      | zero =>
        refine slot_of_val ⟨?_, ?_, ?_⟩
        · show Value.isAgg l.sl = false
          unfold Loc.sl; split <;> rfl
        · show l.sl.cells.size = 1
          unfold Loc.sl; split <;> rfl
        · show AVR X (.row kk 0) (cv l.sl)
          simp only [AVR, k2]
          refine ⟨Nat.le_refl _, fun _ => ?_⟩
          rw [k1]
          unfold Loc.sl; split <;> rfl
      | succ i => simpa [entryS] using l2 i
    | mbox T =>
      obtain ⟨b, r, bs', rfl, rfl, h1, h2, h⟩ := h
      obtain ⟨b', r', e, k1, k2, k3⟩ := k
      simp only [List.cons.injEq] at e
      obtain ⟨rfl, rfl⟩ := e
      obtain ⟨l1, l2⟩ := ih (xs := xs.2) h k3 kr
      refine ⟨by simp [entryS, l1], fun i => ?_⟩
      cases i with
      | zero =>
        refine slot_of_val ⟨rfl, rfl, ?_⟩
        show AVR X (.bptr n []) (cv (.pointer (some ⟨b, 0, none⟩)))
        simp only [AVR, k2, k1]
        refine ⟨trivial, fun off T' h' => ?_⟩
        simp only [Ty.at, Option.some.injEq, Prod.mk.injEq] at h'
        obtain ⟨rfl, rfl⟩ := h'
        rfl
      | succ i => simpa [entryS] using l2 i
theorem EB.objs {X : Ctx} : ∀ {ps : List Par} {xs : (parsTy ps).D} {n : Nat} {vs : List Value} {bs : List Nat} {ls : List Loc}, ArgsR X.w X.I X.J ps xs vs bs ls → EB X ps xs n bs → ∀ o, n ≤ o → o < n + mCount ps → ∃ T x, X.objs o = some (.box T (.pv false T x)) ∧ (X.φ o).blk ∈ bs ∧ bs[o - n]? = some (X.φ o).blk ∧ ObjR X (X.φ o) (.box T (.pv false T x)) := by
  intro ps
  induction ps with
  | nil => intro xs n vs bs ls _ _ o h1 h2; simp only [mCount] at h2; omega
  | cons p ps ih =>
    intro xs n vs bs ls h k o h1 h2
    cases p with
    | lent T => obtain ⟨v, r, rfl, _, h⟩ := h; exact ih (xs := xs.2) h k o h1 h2
    | leak T => obtain ⟨v, r, rfl, _, h⟩ := h; exact ih (xs := xs.2) h k o h1 h2
    | ptr T => obtain ⟨b, off, r, rfl, _, _, h⟩ := h; exact ih (xs := xs.2) h k o h1 h2
    | own T => obtain ⟨l, r, ls', rfl, _, _, h⟩ := h; exact ih (xs := xs.2) h k o h1 h2
    | mbox T =>
      obtain ⟨b, r, bs', rfl, rfl, g1, g2, h⟩ := h
      obtain ⟨b', r', e, k1, k2, k3⟩ := k
      simp only [List.cons.injEq] at e
      obtain ⟨rfl, rfl⟩ := e
      by_cases e : o = n
      · subst e
        refine ⟨T, xs.1, k2, by rw [k1]; simp, by rw [k1]; simp, by simp [AV.fits], ?_, ?_⟩
        · rw [k1]; exact g1
        · rw [k1]; exact g2
      · simp only [mCount] at h2
        obtain ⟨T', x, q1, q2, q3, q4⟩ := ih (xs := xs.2) h k3 o (by omega) (by omega)
        refine ⟨T', x, q1, by simp [q2], ?_, q4⟩
        have : o - n = (o - (n + 1)) + 1 := by omega
        rw [this]
        simpa using q3
theorem ER.objs {X : Ctx} : ∀ {ps : List Par} {xs : (parsTy ps).D} {k : Nat} {vs : List Value} {bs : List Nat} {ls : List Loc}, ArgsR X.w X.I X.J ps xs vs bs ls → ER X ps xs k ls → ∀ o, k ≤ o → o < k + oCount ps → ∃ T x, X.objs o = some (.row 0 false T x) ∧ ls[o - k]? = some (X.φ o) ∧ ObjR X (X.φ o) (.row 0 false T x) := by
  intro ps
  induction ps with
  | nil => intro xs n vs bs ls _ _ o h1 h2; simp only [oCount] at h2; omega
  | cons p ps ih =>
    intro xs n vs bs ls h k o h1 h2
    cases p with
    | lent T => obtain ⟨v, r, rfl, _, h⟩ := h; exact ih (xs := xs.2) h k o h1 h2
    | leak T => obtain ⟨v, r, rfl, _, h⟩ := h; exact ih (xs := xs.2) h k o h1 h2
    | ptr T => obtain ⟨b, off, r, rfl, _, _, h⟩ := h; exact ih (xs := xs.2) h k o h1 h2
    | mbox T => obtain ⟨b, r, bs', rfl, _, _, _, h⟩ := h; exact ih (xs := xs.2) h k o h1 h2
    | own T =>
      obtain ⟨l, r, ls', rfl, rfl, g1, h⟩ := h
      obtain ⟨l', r', e, k1, k2, k3⟩ := k
      simp only [List.cons.injEq] at e
      obtain ⟨rfl, rfl⟩ := e
      by_cases e : o = n
      · subst e
        refine ⟨T, xs.1, k2, by rw [k1]; simp, ?_⟩
        rw [k1]; exact g1
      · simp only [oCount] at h2
        obtain ⟨T', x, q1, q2, q3⟩ := ih (xs := xs.2) h k3 o (by omega) (by omega)
        refine ⟨T', x, q1, ?_, q3⟩
        have : o - n = (o - (n + 1)) + 1 := by omega
        rw [this]
        simpa using q2
theorem nodup_flat {α β : Type} {f : α → List β} : ∀ {l : List α}, (l.flatMap f).Nodup → ∀ (i j : Nat) (a c : α) (b : β), l[i]? = some a → l[j]? = some c → b ∈ f a → b ∈ f c → i = j := by
  intro l
  induction l with
  | nil => intro _ i j a c b h; simp at h
  | cons x r ih =>
    intro h i j a c b h1 h2 h3 h4
    rw [List.flatMap_cons] at h
    obtain ⟨n1, n2, n3⟩ := List.nodup_append.1 h
    cases i with
    | zero =>
      simp only [List.getElem?_cons_zero, Option.some.injEq] at h1
      subst h1
      cases j with
      | zero => rfl
      | succ j =>
        simp only [List.getElem?_cons_succ] at h2
        exact absurd rfl (n3 b h3 b (List.mem_flatMap.2 ⟨c, List.mem_of_getElem? h2, h4⟩))
    | succ i =>
      simp only [List.getElem?_cons_succ] at h1
      cases j with
      | zero =>
        simp only [List.getElem?_cons_zero, Option.some.injEq] at h2
        subst h2
        exact absurd rfl (n3 b h4 b (List.mem_flatMap.2 ⟨a, List.mem_of_getElem? h1, h3⟩))
      | succ j =>
        simp only [List.getElem?_cons_succ] at h2
        rw [ih n2 i j a c b h1 h2 h3 h4]

theorem meets (hE : env.Ok P) {anns : List Ann} {sg : Sig} {N : Nat} {g : FuncId} {fn : Func} {body : Code} (hf : P.funcs[g]? = some fn) (hb : fn.body = some body)
    (h : ∀ xs r, sg.fn xs = some r → ∃ k, runF env anns sg N k g fn body xs = some r) : Meets P g sg := by
  intro w I J xs vs bs ls hij hj hargs hnd hnJ r hr cs0
  let E : Fix := { w0 := w, I0 := I, J0 := J, S := fun b => b ∈ bs ++ ls.flatMap Loc.blks }
  let X : Ctx := { w := w, I := I, J := J, objs := entryO sg.ps xs 0 (mCount sg.ps) (fun _ => none), φ := fun i => if i < mCount sg.ps then ⟨bs.getD i 0, 0, 0, false⟩ else ls.getD (i - mCount sg.ps) ⟨0, 0, 0, true⟩ }
  have hEB : EB X sg.ps xs 0 bs := EB_of (X := X) (all := bs) (k := mCount sg.ps) (s := fun _ => none) hargs (by omega) (fun i _ hi => by show (if i < mCount sg.ps then (⟨bs.getD i 0, 0, 0, false⟩ : Loc) else _).blk = _; rw [if_pos (by omega)]) (fun i => by rw [Nat.zero_add]) (fun o _ _ => rfl)
  have hER : ER X sg.ps xs (mCount sg.ps) ls := ER_of (X := X) (M := mCount sg.ps) (all := ls) (n := 0) (s := fun _ => none) hargs (by omega) (Nat.le_refl _) (fun i hi => by show (if i < mCount sg.ps then _ else _) = _; rw [if_neg (by omega)]) (fun i => by rw [Nat.sub_self, Nat.zero_add]) (fun o _ => rfl)
  have hobj : ∀ o ob, X.objs o = some ob → (∃ T x, ob = .box T (.pv false T x) ∧ bs[o]? = some (X.φ o).blk ∧ ObjR X (X.φ o) ob) ∨ (∃ T x, ob = .row 0 false T x ∧ mCount sg.ps ≤ o ∧ ls[o - mCount sg.ps]? = some (X.φ o) ∧ ObjR X (X.φ o) ob) := fun o ob ho => by
    rcases entryO_at (show entryO sg.ps xs 0 (mCount sg.ps) (fun _ => none) o = some ob from ho) with h1 | h1 | h1
    · exact absurd h1 (by simp)
    · obtain ⟨T, x, q1, q2, q3, q4⟩ := EB.objs (X := X) hargs hEB o h1.1 h1.2
      rw [ho] at q1
      obtain rfl := Option.some.inj q1
      exact .inl ⟨T, x, rfl, by simpa using q3, q4⟩
    · obtain ⟨T, x, q1, q2, q3⟩ := ER.objs (X := X) hargs hER o h1.1 h1.2
      rw [ho] at q1
      obtain rfl := Option.some.inj q1
      exact .inr ⟨T, x, rfl, h1.1, q2, q3⟩
  have hown : ∀ o b, Own X.objs X.φ o b → bs[o]? = some b ∨ (mCount sg.ps ≤ o ∧ ∃ l, ls[o - mCount sg.ps]? = some l ∧ b ∈ l.blks) := fun o b hb => by
    cases ho : X.objs o with
    | none => unfold Own at hb; rw [ho] at hb; exact hb.elim
    | some ob =>
      unfold Own at hb
      rw [ho] at hb
      rcases hobj o ob ho with ⟨T, x, rfl, h1, _⟩ | ⟨T, x, rfl, h0, h1, _⟩
      · rw [hb]; exact .inl h1
      · refine .inr ⟨h0, _, h1, ?_⟩
        unfold Loc.blks
        rw [if_neg (by rw [hb.1]; simp), hb.2]
        simp
  have hmem : ∀ o b, Own X.objs X.φ o b → b ∈ bs ++ ls.flatMap Loc.blks := fun o b hb => by
    rcases hown o b hb with h | ⟨_, l, h1, h2⟩
    · exact List.mem_append_left _ (List.mem_of_getElem? h)
    · exact List.mem_append_right _ (List.mem_flatMap.2 ⟨l, List.mem_of_getElem? h1, h2⟩)
  have hlt : ∀ b, b ∈ bs ++ ls.flatMap Loc.blks → b < w.heap.size := by
    have aux : ∀ (ps : List Par) (xs : (parsTy ps).D) (vs : List Value) (bs : List Nat) (ls : List Loc), ArgsR w I J ps xs vs bs ls → ∀ b, b ∈ bs ++ ls.flatMap Loc.blks → b < w.heap.size := by
      intro ps
      induction ps with
      | nil => intro xs vs bs ls h b hb; rw [h.2.1, h.2.2] at hb; exact absurd hb (by simp)
      | cons p ps ih =>
        intro xs vs bs ls h b hb
        cases p with
        | lent T => obtain ⟨v, r, _, _, h⟩ := h; exact ih xs.2 _ _ _ h b hb
        | leak T => obtain ⟨v, r, _, _, h⟩ := h; exact ih xs.2 _ _ _ h b hb
        | ptr T => obtain ⟨_, _, r, _, _, _, h⟩ := h; exact ih xs.2 _ _ _ h b hb
        | own T =>
          obtain ⟨l, r, ls', _, rfl, h1, h⟩ := h
          rw [List.flatMap_cons, List.mem_append, List.mem_append] at hb
          rcases hb with hb | hb | hb
          · exact ih xs.2 _ _ _ h b (List.mem_append_left _ hb)
          · unfold Loc.blks at hb
            split at hb
            · exact absurd hb (by simp)
            · rename_i hn
              simp only [List.mem_singleton] at hb
              obtain ⟨⟨cs, te, hc, _⟩, _⟩ := h1.2.2 (by simpa using hn)
              rw [hb]
              exact (Array.getElem?_eq_some_iff.1 hc).1
          · exact ih xs.2 _ _ _ h b (List.mem_append_right _ hb)
        | mbox T =>
          obtain ⟨b0, r, bs', _, rfl, ⟨cs, te, hc, _⟩, _, h⟩ := h
          rw [List.cons_append, List.mem_cons] at hb
          rcases hb with e | e
          · subst e; exact (Array.getElem?_eq_some_iff.1 hc).1
          · exact ih xs.2 _ _ _ h b e
    exact aux _ _ _ _ _ hargs
  have F : Fits E X := by
    refine ⟨Keep.refl _ _, fun o ob ho => ?_, fun o o' b h1 h2 => ?_, fun o b h1 => hnJ b (hmem o b h1), fun o b h1 => ⟨hlt b (hmem o b h1), .inr (hmem o b h1)⟩,
      hij, hj, fun _ h => h, fun _ h => .inl h, fun _ h => h, fun _ h => .inl h⟩
    · rcases hobj o ob ho with ⟨_, _, _, _, h⟩ | ⟨_, _, _, _, _, h⟩ <;> exact h
    · obtain ⟨n1, n2, n3⟩ := List.nodup_append.1 hnd
      rcases hown o b h1 with h1 | ⟨l1, a, h1, m1⟩
      · rcases hown o' b h2 with h2 | ⟨l2, c, h2, m2⟩
        · obtain ⟨hi, e3⟩ := List.getElem?_eq_some_iff.1 h1
          obtain ⟨hj, e4⟩ := List.getElem?_eq_some_iff.1 h2
          exact (List.getElem_inj n1).1 (e3.trans e4.symm)
        · exact absurd rfl (n3 b (List.mem_of_getElem? h1) b (List.mem_flatMap.2 ⟨c, List.mem_of_getElem? h2, m2⟩))
      · rcases hown o' b h2 with h2 | ⟨l2, c, h2, m2⟩
        · exact absurd rfl (n3 b (List.mem_of_getElem? h2) b (List.mem_flatMap.2 ⟨a, List.mem_of_getElem? h1, m1⟩))
        · have := nodup_flat n2 _ _ _ _ b h1 h2 m1 m2
          omega
  obtain ⟨hl, hs⟩ := EB.slots (X := X) rfl hargs hEB hER
  have S : Sim E X (entry sg g fn body xs) (vs.toArray ++ Array.replicate (fn.ntmps - vs.length) undef) [] := ⟨F, slots_enter hl hs fn.ntmps, rfl, rfl⟩
  obtain ⟨k, hrun⟩ := h xs r hr
  obtain ⟨w', v, fr, I', owns, st, hfn, hlv, hp⟩ := ev_ok hE (E := E) (bs := bs) (ls := ls) (fun b => Iff.rfl) cs0 (Om_ok hE (fun b => Iff.rfl) cs0 N k) N X _ _ [] r S hEB.mb hrun
  refine ⟨.returned v, w', fr, ⟨v, rfl, I', owns, hp⟩, ?_, hfn, hlv⟩
  rw [enter_mk hf hb vs 0 (entry sg g fn body xs).fr.ss]
  exact st
end
end Go.Proofs.Ytmggpiijahiaiaa.Ev
/- Where a loop's head stands in a function's code, and where a call stands. -/
namespace Go.Proofs.Ytmggpiijahiaiaa.Ev
open Go
set_option linter.unusedVariables false
set_option linter.unusedSimpArgs false

def bodyOf (f : Func) : Code := f.body.getD .skip
def todoAt : Code → List Bool → List Item → List Item
  | .seq a b, true :: p, k => todoAt a p (.code b :: k)
  | .seq _ b, false :: p, k => todoAt b p k
  | .cond _ a _, true :: p, k => todoAt a p k
  | .cond _ _ b, false :: p, k => todoAt b p k
  | .block id b, _ :: p, k => todoAt b p (.inBlock id :: k)
  | .loop b, [], k => .code b :: .inLoop b :: k
  | .loop b, _ :: p, k => todoAt b p (.inLoop b :: k)
  | _, _, k => k
def callAt : Code → List Bool → Nat → List Item → List Item
  | .seq a b, true :: p, i, k => callAt a p i (.code b :: k)
  | .seq _ b, false :: p, i, k => callAt b p i k
  | .cond _ a _, true :: p, i, k => callAt a p i k
  | .cond _ _ b, false :: p, i, k => callAt b p i k
  | .block id b, _ :: p, i, k => callAt b p i (.inBlock id :: k)
  | .loop b, _ :: p, i, k => callAt b p i (.inLoop b :: k)
  | .region _ ops _, _, i, k => .inRegion ops ((List.range ops.size).drop i) :: k
  | _, _, _, k => k
def cutAt : Code → List Bool → List Item → List Item
  | c, [], k => .code c :: k
  | .seq a b, true :: p, k => cutAt a p (.code b :: k)
  | .seq _ b, false :: p, k => cutAt b p k
  | .cond _ a _, true :: p, k => cutAt a p k
  | .cond _ _ b, false :: p, k => cutAt b p k
  | .block id b, _ :: p, k => cutAt b p (.inBlock id :: k)
  | .loop b, _ :: p, k => cutAt b p (.inLoop b :: k)
  | _, _, k => k
/-- A frame's slots: those that are known. -/
def sl (n : Nat) (l : List (Nat × AV)) : List AV := l.foldl (fun s p => s.set p.1 p.2) (List.replicate n .undef)
/-! The run told straight out: what is decided leaves no branch behind, so that the kernel never compares what is dead. -/
@[reducible] noncomputable def br {β : Type} (c : Bool) (a b : Option β) : Option β := @Bool.rec (fun _ => Option β) b a c
theorem br_ite {β : Type} (c : Bool) (a b : Option β) : br c a b = if c = true then a else b := by cases c <;> rfl
noncomputable def Tr.k {α β : Type} : Tr α → (α → Option β) → Option β
  | .ret a, f => f a
  | .fail, _ => none
  | .ite c t e, f => @Bool.rec (fun _ => Option β) (e.k f) (t.k f) c
  | .call _ o g, f => o.bind fun x => (g x).k f
theorem Tr.k_eq {α β : Type} (t : Tr α) (f : α → Option β) : t.k f = t.run.bind f := by
  induction t with
  | ret a => rfl
  | fail => rfl
  | ite c t e iht ihe =>
    simp only [Tr.k, Tr.run, iht, ihe]
    cases c <;> rfl
  | call R o g ih => cases o <;> simp [Tr.k, Tr.run, ih]
theorem Tr.k_some {α : Type} (t : Tr α) : t.run = t.k some := by rw [Tr.k_eq]; cases t.run <;> rfl
/-- A function's run, told from head to head. -/
theorem Om_go {α : Type} {env : Env} {anns : List Ann} {sg : Sig} {N : Nat} {cfg : α → Cfg} {body : (α → Option sg.R.D) → α → Option sg.R.D} {go : Nat → α → Option sg.R.D}
    (h0 : ∀ h, go 0 h = none) (h1 : ∀ k h, go (k + 1) h = body (go k) h) (hs : ∀ (rec : Cfg → Option sg.R.D) h, (ev env anns sg rec N (cfg h)).run = body (fun h' => rec (cfg h')) h) : ∀ k h, Om env anns sg N k (cfg h) = go k h := by
  intro k
  induction k with
  | zero => intro h; rw [h0]; rfl
  | succ k ih =>
    intro h
    rw [h1]
    have : (fun h' => Om env anns sg N k (cfg h')) = go k := funext ih
    rw [← this]
    exact hs _ h

/-! Functions that the machine stands in for. -/
theorem three_run {P : Program} (s : String) (x y z : Int) (w : World) (hz : z.toNat ≤ 1) : (Extern.MathBitsCarry.three s #[.int .u64 x, .int .u64 y, .int .u64 z]).run P w = .ok (x.toNat, y.toNat, z.toNat) w := by
  have : z.toNat = 0 ∨ z.toNat = 1 := by omega
  have ea : ∀ n : Int, asInt (.int .u64 n) = pure n := fun n => by
    unfold asInt asIntOf
    rfl
  show Sem.run P (do
      let c := (← asInt (.int .u64 z)).toNat
      if c > 1 then unsupported (.noEntry ("extern/math/bits." ++ s ++ ": a carry that is neither 0 nor 1"))
      pure ((← asInt (.int .u64 x)).toNat, (← asInt (.int .u64 y)).toNat, c)) w = _
  simp only [ea, pure_bind]
  rw [if_neg (by omega)]
  rfl
theorem add64_ext {P : Program} {g : FuncId} {fn : Func} (hf : P.funcs[g]? = some fn) (h1 : (fn.name == "runtime.NumGoroutine") = false) (h2 : fn.body.isNone = true) (h3 : Extern.findNext fn = none) (h4 : Extern.find fn = some add64Entry) : ExtOk P g .add64 := by
  intro x y z w hz
  rw [run_callFunc_extern hf h1 h2 h3 h4]
  unfold add64Entry
  rw [Sem.run_bind, three_run _ _ _ _ _ hz]
  rfl
end Go.Proofs.Ytmggpiijahiaiaa.Ev
/- From a law's contract to its row: what came in, told asv data. -/
namespace Go.Proofs.Ytmggpiijahiaiaa.Ev
open Go Go.RowKit
set_option linter.unusedVariables false
set_option linter.unusedSimpArgs false

def IsRow (k : IntKind) (w : World) (a : Option Addr) (len cap : Nat) (zs : List Int) : Prop :=
  (a = none ∧ len = 0 ∧ cap = 0 ∧ zs = []) ∨ ∃ x, a = some x ∧ len ≤ cap ∧ cap ≤ maxLen ∧ zs.length = cap ∧ (∀ i, i < zs.length → w.cell? (x.add i) = some (.int k (zs.getD i 0))) ∧ ∀ n ∈ zs, (Lit.int k n).wf = true
theorem pval_ints {k : IntKind} {w : World} {a : Option Addr} {len cap : Nat} {zs : List Int} (h : IsRow k w a len cap zs) : PVal w (fun b => b < w.heap.size) (.slice (.int k)) (zs.take len) (.slice a len cap) := by
  rcases h with ⟨rfl, rfl, rfl, rfl⟩ | ⟨x, rfl, hl, _, hz, hc, _⟩
  · exact ⟨rfl, rfl, none, 0, rfl, Nat.le_refl _, fun hp => absurd hp (by simp)⟩
  · have hlen : (zs.take len).length = len := by rw [List.length_take]; omega
    refine ⟨rfl, rfl, some x, cap, by rw [hlen]; rfl, by rw [hlen]; exact hl, fun hp => ?_⟩
    rw [hlen] at hp
    have h0 := hc 0 (by omega)
    obtain ⟨b, off, spot⟩ := x
    simp only [Addr.add, if_true] at h0
    cases hh : w.heap[b]? with
    | none => simp only [World.cell?, hh] at h0; exact absurd h0 (by simp)
    | some blk =>
      have hb : b < w.heap.size := (Array.getElem?_eq_some_iff.1 hh).1
      have hs : spot = none := by
        cases spot with
        | none => rfl
        | some s =>
          simp only [World.cell?, hh] at h0
          cases blk <;> simp at h0
      subst hs
      refine ⟨b, off, rfl, hb, fun i hi => ?_⟩
      rw [hlen] at hi
      show w.cell? ⟨b, off + i * 1 + 0, none⟩ = _
      have h1 := hc i (by omega)
      have h2 : (⟨b, off + i * 1 + 0, none⟩ : Addr) = (⟨b, off, none⟩ : Addr).add i := by
        unfold Addr.add
        split
        · rename_i e; subst e; simp
        · simp
      rw [h2, h1, List.getElem_take]
      congr 2
      rw [List.getD_eq_getElem?_getD, List.getElem?_eq_getElem (by omega)]
      rfl
theorem pval_int {k : IntKind} {w : World} {J : Bs} {n : Int} : PVal w J (.int k) n (.int k n) := ⟨rfl, rfl, rfl⟩
theorem keep_below {w w' : World} (h : Keep (· ∈ ([] : List Nat) ++ ([] : List Loc).flatMap Loc.blks) w w') : Below w.heap.size w w' := ⟨h.os, h.tape, h.output, h.size, fun k hk => h.block k hk (by simp)⟩
/-- A law that is met and says true. -/
theorem law_true {P : Program} {g : FuncId} {sg : Sig} (hM : Meets P g sg) {w : World} {xs : (parsTy sg.ps).D} {vs : List Value} (ha : ArgsR w (fun b => b < w.heap.size) (fun b => b < w.heap.size) sg.ps xs vs [] [])
    (ho : sg.outs = .one (.pure .bool)) {r : sg.outs.ty.D × (mutsTy sg.ps).D} (hr : sg.fn xs = some r) (ht : HEq r.1 true) : Calls P g vs.toArray w fun e w' => e = .returned (.bool true) ∧ Below w.heap.size w w' := by
  refine (hM w _ _ xs vs [] [] (fun _ h => h) (fun _ h => h) ha (by simp) (fun b hb => absurd hb (by simp)) r hr).mono fun e w' h => ?_
  obtain ⟨v, rfl, I', owns, hp⟩ := h
  refine ⟨?_, keep_below hp.keep⟩
  have h1 := hp.outs
  obtain ⟨ps, outs, fn⟩ := sg
  dsimp only at ho
  subst ho
  have ht' : r.1 = true := eq_of_heq ht
  obtain ⟨h2, h3, h4, _⟩ := h1
  rw [ht'] at h4
  have h5 := one_cell h2 h3
  have h6 : cv v 0 = some (.bool true) := h4
  rw [h5] at h6
  injection h6 with h6
  rw [h6]
end Go.Proofs.Ytmggpiijahiaiaa.Ev
/- What came in, told asv data of a type. -/
namespace Go.Proofs.Ytmggpiijahiaiaa.Ev
open Go Go.RowKit
set_option linter.unusedVariables false
set_option linter.unusedSimpArgs false
/-- The values that a program can meet. -/
def WF : (T : Ty) → T.D → Prop
  | .int k, x => (Lit.int k x).wf = true
  | .bool, _ => True
  | .str, x => x.size ≤ maxLen
  | .unit, _ => True
  | .pair a b, x => WF a x.1 ∧ WF b x.2
  | .slice e, xs => xs.length ≤ maxLen ∧ ∀ x ∈ xs, WF e x
  | .arr _ e, xs => ∀ x ∈ xs, WF e x
  | .opq, _ => True
/-- No array, no part untold, no rows of empty elements. -/
def Ty.told : Ty → Bool
  | .pair a b => a.told && b.told
  | .slice e => e.told && !Nat.beq e.sz 0
  | .arr _ _ => false
  | .opq => false
  | _ => true
theorem TB_cells {P : Program} {T : Ty} {t : TypeId} (h : (TB P T).1 t = true) : P.cellsOf t = T.sz := by
  obtain ⟨i, z, hi⟩ := TB_info h
  simp [Program.cellsOf, hi.info, hi.size]
theorem desc_of {P : Program} {t : TypeId} {f : TypeDesc → Bool} (h : descB P t f = true) : ∃ d, P.underlying t = some d ∧ f d = true := by
  unfold descB at h
  split at h
  · exact ⟨_, by assumption, h⟩
  · cases h
section
variable {H : Type} {enc : TypeId × Value → H} {P : Program} {w : World} {spare : Nat → Bool} {held : Bool}
/-- Cells of a place in memory asv a function. -/
theorem list_ex {α : Type} {p : Nat → α → Prop} : ∀ n : Nat, (∀ i, i < n → ∃ y, p i y) → ∃ ys : List α, ys.length = n ∧ ∀ i (h : i < ys.length), p i ys[i] := by
  intro n
  induction n with
  | zero => intro _; exact ⟨[], rfl, fun i h => absurd h (by simp)⟩
  | succ n ih =>
    intro h
    obtain ⟨ys, h1, h2⟩ := ih fun i hi => h i (by omega)
    obtain ⟨y, hy⟩ := h n (by omega)
    refine ⟨ys ++ [y], by simp [h1], fun i hi => ?_⟩
    by_cases hn : i < ys.length
    · rw [List.getElem_append_left hn]
      exact h2 i hn
    · have : i = n := by simp at hi; omega
      subst this
      simpa [List.getElem_append_right, h1] using hy
theorem rep_trod : ∀ T : Ty, T.told = true →
    (∀ (t : TypeId) (fuel : Nat) (cs : List Value) (x : DataW H × List MemPlace), (TB P T).1 t = true → DataW.trod enc P w 0 spare held fuel t cs = some x → ∃ y : T.D, Rep w (fun b => b < w.heap.size) T y (fun j => cs[j]?) ∧ WF T y ∧ cs.length = T.sz) ∧
    (∀ (off : Nat) (fs : List Field) (n : Nat) (cs : List Value), (TB P T).2 off fs = true → (∀ f ∈ fs, ∃ x, DataW.trod enc P w 0 spare held n f.type ((cs.drop f.offset).take (P.cellsOf f.type)) = some x) → ∃ y : T.D, Rep w (fun b => b < w.heap.size) T y (fun j => cs[off + j]?) ∧ WF T y) := by
  intro T
  induction T with
  | int k =>
    refine fun _ => ⟨fun t fuel cs x ht h => ?_, fun off fs n cs ht => by simp [TB] at ht⟩
    obtain ⟨n, rfl, _, hw⟩ := DataW.trod_int (TB_int ht) h
    exact ⟨n, rfl, hw, rfl⟩
  | bool =>
    refine fun _ => ⟨fun t fuel cs x ht h => ?_, fun off fs n cs ht => by simp [TB] at ht⟩
    simp only [TB, Bool.and_eq_true] at ht
    obtain ⟨d, hd, hb⟩ := desc_of ht.2
    have hd' : P.underlying t = some .bool := by
      cases d <;> simp [isBoolD] at hb
      exact hd
    obtain ⟨b, rfl, _⟩ := DataW.trod_bool hd' h
    exact ⟨b, rfl, trivial, rfl⟩
  | str =>
    refine fun _ => ⟨fun t fuel cs x ht h => ?_, fun off fs n cs ht => by simp [TB] at ht⟩
    obtain ⟨s, rfl, _, hs⟩ := DataW.trod_string (TB_str ht) h
    exact ⟨s, rfl, hs, rfl⟩
  | opq => intro h; cases h
  | arr n e => intro h; cases h
  | unit =>
    refine fun _ => ⟨fun t fuel cs x ht h => ?_, fun off fs n cs ht _ => ⟨(), trivial, trivial⟩⟩
    have hc := TB_cells ht
    simp only [TB, Bool.and_eq_true] at ht
    obtain ⟨d, hd, hb⟩ := desc_of ht.2
    cases d with
    | struct fs =>
      obtain ⟨xs, n, _, _, hl, _⟩ := DataW.trod_struct hd h
      exact ⟨(), trivial, trivial, hl.trans hc⟩
    | _ => simp at hb
  | pair a b iha ihb =>
    intro hp
    simp only [Ty.told, Bool.and_eq_true] at hp
    have two : ∀ (off : Nat) (fs : List Field) (n : Nat) (cs : List Value), (TB P (.pair a b)).2 off fs = true → (∀ f ∈ fs, ∃ x, DataW.trod enc P w 0 spare held n f.type ((cs.drop f.offset).take (P.cellsOf f.type)) = some x) → ∃ y : (Ty.pair a b).D, Rep w (fun b => b < w.heap.size) (.pair a b) y (fun j => cs[off + j]?) ∧ WF (.pair a b) y := by
      intro off fs n cs ht hx
      cases fs with
      | nil => simp [TB] at ht
      | cons f r =>
        simp only [TB, Bool.and_eq_true, decide_eq_true_eq] at ht
        obtain ⟨⟨ho, h1⟩, h2⟩ := ht
        obtain ⟨x, hx1⟩ := hx f (by simp)
        obtain ⟨y1, r1, w1, l1⟩ := (iha hp.1).1 _ _ _ _ h1 hx1
        obtain ⟨y2, r2, w2⟩ := (ihb hp.2).2 _ _ n cs h2 (fun g hg => hx g (by simp [hg]))
        refine ⟨(y1, y2), ⟨Rep.congr (fun j hj => ?_) r1, ?_⟩, w1, w2⟩
        · rw [List.getElem?_take, TB_cells h1, if_pos hj, List.getElem?_drop, ho]
        · have e : shift (fun j => cs[off + j]?) a.sz = fun j => cs[off + a.sz + j]? := by funext j; simp [shift, Nat.add_assoc]
          show Rep w _ b y2 (shift (fun j => cs[off + j]?) a.sz)
          rw [e]
          exact r2
    refine ⟨fun t fuel cs x ht h => ?_, two⟩
    have hc := TB_cells ht
    have ht' := ht
    simp only [TB, Bool.and_eq_true] at ht
    obtain ⟨d, hd, hb⟩ := desc_of ht.2
    cases d with
    | struct fs =>
      obtain ⟨xs, n, _, _, hl, hxl, hf⟩ := DataW.trod_struct hd h
      obtain ⟨y, hy, hw⟩ := two 0 fs.toList n cs (by
        cases hfs : fs.toList with
        | nil => simp [hfs] at hb
        | cons f r =>
          simp only [hfs] at hb
          simpa [TB] using hb) (fun f hm => by
        obtain ⟨i, hi, rfl⟩ := List.getElem_of_mem hm
        have hi' : i < fs.size := by simpa using hi
        refine ⟨xs[i]'(by omega), ?_⟩
        rw [hf i _ (by simp)]
        exact List.getElem?_eq_getElem (by omega))
      refine ⟨y, ?_, hw, hl.trans hc⟩
      have e : (fun j => cs[0 + j]?) = fun j => cs[j]? := by funext j; rw [Nat.zero_add]
      rw [e] at hy
      exact hy
    | _ => simp at hb
  | slice e ih =>
    refine fun hp => ⟨fun t fuel cs x ht h => ?_, fun off fs n cs ht => by simp [TB] at ht⟩
    simp only [Ty.told, Bool.and_eq_true] at hp
    have hz : e.sz ≠ 0 := fun hz => by rw [hz] at hp; exact absurd hp.2 (by decide)
    obtain ⟨te, hu, hte⟩ := TB_slice ht
    have hce := TB_cells hte
    rcases Go.Deep.open_slice hu h with ⟨rfl, _⟩ | ⟨a, len, cap, m, n, D, Pl, rfl, _, hlc, hcm, hm, _, hx⟩
    · exact ⟨[], ⟨none, 0, rfl, Nat.le_refl _, fun h => absurd h (by simp)⟩, ⟨by simp, fun x hx => by simp at hx⟩, rfl⟩
    · have hlm : len ≤ m := by rw [hm]; split <;> omega
      rw [hce] at hx
      obtain ⟨b, off, spot⟩ := a
      by_cases h0 : len = 0
      · subst h0
        exact ⟨[], ⟨some ⟨b, off, spot⟩, cap, rfl, by simp, fun h => absurd h (by simp)⟩, ⟨by simp, fun x hx => by simp at hx⟩, rfl⟩
      · · have hin : spot = none ∧ b < w.heap.size := by
            obtain ⟨cs', h1, _⟩ := hx 0 (by omega)
            obtain ⟨_, hl', hcell⟩ := World.cells?_some h1
            have := hcell 0 (by omega)
            rw [List.getElem?_eq_getElem (by omega)] at this
            cases hh : w.heap[b]? with
            | none => simp [World.cell?, Addr.add, hh] at this
            | some blk =>
              refine ⟨?_, (Array.getElem?_eq_some_iff.1 hh).1⟩
              cases spot with
              | none => rfl
              | some s => simp [World.cell?, Addr.add, hh] at this; cases blk <;> simp at this
          obtain ⟨rfl, hb⟩ := hin
          obtain ⟨ys, hyl, hy⟩ := list_ex (p := fun i y => Rep w (fun b => b < w.heap.size) e y (mem w b (off + i * e.sz)) ∧ WF e y) len (fun i hi => by
            obtain ⟨cs', h1, h2⟩ := hx i (by omega)
            obtain ⟨_, hl', hcell⟩ := World.cells?_some h1
            obtain ⟨y, hr, hw, _⟩ := (ih hp.1).1 _ _ _ _ hte h2
            refine ⟨y, Rep.congr (fun j hj => ?_) hr, hw⟩
            show w.cell? ⟨b, off + i * e.sz + j, none⟩ = cs'[j]?
            rw [← hcell j hj, Addr.add_lit, Addr.add_lit])
          refine ⟨ys, ⟨some ⟨b, off, none⟩, cap, by rw [hyl]; rfl, by rw [hyl]; exact hlc, fun _ => ⟨b, off, rfl, hb, fun i hi => (hy i hi).1⟩⟩, ⟨by rw [hyl]; omega, fun y hm => ?_⟩, rfl⟩
          obtain ⟨i, hi, rfl⟩ := List.getElem_of_mem hm
          exact (hy i hi).2
end
end Go.Proofs.Ytmggpiijahiaiaa.Ev
namespace Go.Proofs.Ytmggpiijahiaiaa.Ev
open Go
abbrev tl01Cur : Ty := .pair (.slice (.int .u8)) (.pair (.int .i64) (.pair (.int .i64) .unit))
abbrev tLedgerCall : Ty := .pair (.int .i64) (.pair (.int .u64) (.pair (.int .u64) (.pair (.int .u64) .unit)))
abbrev tAccount : Ty := .pair (.int .u64) (.pair (.int .u64) (.pair (.int .u64) (.pair (.int .u64) (.pair (.int .i64) .unit))))
abbrev tBook : Ty := .pair (.slice tAccount) .unit
abbrev tPast : Ty := .pair tLedgerCall (.pair (.int .i64) (.pair (.int .i64) (.pair (.int .i64) (.pair (.int .u64) .unit))))
abbrev l01CurD : Type := List Int × Int × Int × Unit
abbrev LedgerCallD : Type := Int × Int × Int × Int × Unit
abbrev AccountD : Type := Int × Int × Int × Int × Int × Unit
abbrev BookD : Type := List AccountD × Unit
abbrev PastD : Type := LedgerCallD × Int × Int × Int × Int × Unit
end Go.Proofs.Ytmggpiijahiaiaa.Ev
namespace Go.Proofs.Ytmggpiijahiaiaa.Ev
open Go
set_option linter.unusedVariables false
set_option linter.unusedSimpArgs false
set_option maxRecDepth 100000
def w_szPastS_tab : TTab := [⟨3, (.int .i64), 0⟩, ⟨4, .bool, 0⟩, ⟨22, (.slice tPast), 64⟩]
abbrev w_szPastS_ps : List Par := [.lent (.slice tPast), .lent (.int .i64)]
abbrev w_szPastS_outs : Outs := .one (.pure (.int .i64))
abbrev w_szPastS_R : Type := (Int × Unit)
abbrev w_szPastS_T : Ty := .pair (Outs.ty w_szPastS_outs) (mutsTy w_szPastS_ps)
noncomputable def w_szPastS_env : Env := { tab := w_szPastS_tab, fns := [(8, Try.f8)], sigs := [] }
def w_szPastS_anns : List Ann := []
inductive w_szPastS_H where
  | none
noncomputable def w_szPastS_cfg : w_szPastS_H → Cfg
  | .none => { fr := { fn := 0, fb := 0, ss := [], todo := [] }, cs := [], ob := fun _ => none }
def w_szPastS_body (rec : w_szPastS_H → Option w_szPastS_R) : w_szPastS_H → Option w_szPastS_R
  | .none => none
def w_szPastS_start (rec : w_szPastS_H → Option w_szPastS_R) (x0 : (List PastD)) (x1 : Int) : Option w_szPastS_R :=
  if (decide (IntKind.i64.wrap (x1 - (↑x0.length : Int)) < 0)) = true then
    some (-1, ())
  else
    some (IntKind.i64.wrap (x1 - (↑x0.length : Int)), ())
def w_szPastS_go : Nat → w_szPastS_H → Option w_szPastS_R
  | 0, _ => none
  | k + 1, h => w_szPastS_body (w_szPastS_go k) h
def w_szPastS_k (k : Nat) (x0 : (List PastD)) (x1 : Int) : Option w_szPastS_R := w_szPastS_start (w_szPastS_go k) x0 x1
def w_szPastS_fn (x0 : (List PastD)) (x1 : Int) : Option w_szPastS_R := w_szPastS_k (1) x0 x1
noncomputable def w_szPastS_sig : Sig := { ps := w_szPastS_ps, outs := w_szPastS_outs, fn := fun x => w_szPastS_fn (x.1) (x.2.1) }
theorem w_szPastS_begin_t (rec : Cfg → Option w_szPastS_R) (x0 : (List PastD)) (x1 : Int) : Tr.k (ev w_szPastS_env w_szPastS_anns w_szPastS_sig rec 20000 (entry w_szPastS_sig 8 Try.f8 (bodyOf Try.f8) (x0, x1, ()))) some = (br (decide (IntKind.i64.wrap (x1 - (↑x0.length : Int)) < 0)) (some (-1, ())) (some (IntKind.i64.wrap (x1 - (↑x0.length : Int)), ())) : Option w_szPastS_R) := by kernel_rfl
theorem w_szPastS_begin (rec : Cfg → Option w_szPastS_sig.R.D) (x0 : (List PastD)) (x1 : Int) : (ev w_szPastS_env w_szPastS_anns w_szPastS_sig rec 20000 (entry w_szPastS_sig 8 Try.f8 (bodyOf Try.f8) (x0, x1, ()))).run = w_szPastS_start (fun h => rec (w_szPastS_cfg h)) x0 x1 := (Tr.k_some _).trans ((w_szPastS_begin_t rec x0 x1).trans (by first | rfl | (simp only [br_ite]; rfl)))
theorem w_szPastS_tab_ok : w_szPastS_tab.ok Try.prog = true := by decide +kernel
theorem w_szPastS_env_ok : (w_szPastS_env).Ok Try.prog where
  mixed := by decide +kernel
  tab := w_szPastS_tab_ok
  fns := by
    intro p hp
    simp only [w_szPastS_env, List.mem_cons, List.not_mem_nil, or_false] at hp
    subst hp
    · exact ⟨Try.func8, by decide +kernel⟩
  sigs := by
    intro p hp
    simp only [w_szPastS_env, List.mem_cons, List.not_mem_nil, or_false] at hp
  exts := by
    intro p hp
    simp only [w_szPastS_env, List.mem_cons, List.not_mem_nil, or_false] at hp
theorem w_szPastS_meets : Meets Try.prog 8 w_szPastS_sig := by
  refine meets (anns := w_szPastS_anns) (N := 20000) w_szPastS_env_ok Try.func8 (body := bodyOf Try.f8) (by rfl) ?_
  rintro ⟨x0, x1, ⟨⟩⟩ r hr
  refine ⟨1, ?_⟩
  show (ev w_szPastS_env w_szPastS_anns w_szPastS_sig (Om w_szPastS_env w_szPastS_anns w_szPastS_sig 20000 (1)) 20000 (entry w_szPastS_sig 8 Try.f8 (bodyOf Try.f8) (x0, x1, ()))).run = some r
  rw [w_szPastS_begin]
  exact hr
end Go.Proofs.Ytmggpiijahiaiaa.Ev
namespace Go.Proofs.Ytmggpiijahiaiaa.Ev
open Go
set_option linter.unusedVariables false
set_option linter.unusedSimpArgs false
set_option maxRecDepth 100000
def w_toLedgerCall_tab : TTab := [⟨3, (.int .i64), 0⟩, ⟨40, (.int .u64), 0⟩, ⟨42, tLedgerCall, 0⟩, ⟨56, tLedgerCall, 0⟩]
abbrev w_toLedgerCall_ps : List Par := [.lent tLedgerCall]
abbrev w_toLedgerCall_outs : Outs := .one (.pure tLedgerCall)
abbrev w_toLedgerCall_R : Type := ((Int × (Int × (Int × (Int × Unit)))) × Unit)
abbrev w_toLedgerCall_T : Ty := .pair (Outs.ty w_toLedgerCall_outs) (mutsTy w_toLedgerCall_ps)
noncomputable def w_toLedgerCall_env : Env := { tab := w_toLedgerCall_tab, fns := [(53, Try.f53)], sigs := [] }
def w_toLedgerCall_anns : List Ann := []
inductive w_toLedgerCall_H where
  | none
noncomputable def w_toLedgerCall_cfg : w_toLedgerCall_H → Cfg
  | .none => { fr := { fn := 0, fb := 0, ss := [], todo := [] }, cs := [], ob := fun _ => none }
def w_toLedgerCall_body (rec : w_toLedgerCall_H → Option w_toLedgerCall_R) : w_toLedgerCall_H → Option w_toLedgerCall_R
  | .none => none
def w_toLedgerCall_start (rec : w_toLedgerCall_H → Option w_toLedgerCall_R) (x0 : LedgerCallD) : Option w_toLedgerCall_R :=
  some ((x0.fst, x0.snd.fst, x0.snd.snd.fst, x0.snd.snd.snd.fst, ()), ())
def w_toLedgerCall_go : Nat → w_toLedgerCall_H → Option w_toLedgerCall_R
  | 0, _ => none
  | k + 1, h => w_toLedgerCall_body (w_toLedgerCall_go k) h
def w_toLedgerCall_k (k : Nat) (x0 : LedgerCallD) : Option w_toLedgerCall_R := w_toLedgerCall_start (w_toLedgerCall_go k) x0
def w_toLedgerCall_fn (x0 : LedgerCallD) : Option w_toLedgerCall_R := w_toLedgerCall_k (1) x0
noncomputable def w_toLedgerCall_sig : Sig := { ps := w_toLedgerCall_ps, outs := w_toLedgerCall_outs, fn := fun x => w_toLedgerCall_fn (x.1) }
theorem w_toLedgerCall_begin_t (rec : Cfg → Option w_toLedgerCall_R) (x0 : LedgerCallD) : Tr.k (ev w_toLedgerCall_env w_toLedgerCall_anns w_toLedgerCall_sig rec 20000 (entry w_toLedgerCall_sig 53 Try.f53 (bodyOf Try.f53) (x0, ()))) some = (some ((x0.fst, x0.snd.fst, x0.snd.snd.fst, x0.snd.snd.snd.fst, ()), ()) : Option w_toLedgerCall_R) := by kernel_rfl
theorem w_toLedgerCall_begin (rec : Cfg → Option w_toLedgerCall_sig.R.D) (x0 : LedgerCallD) : (ev w_toLedgerCall_env w_toLedgerCall_anns w_toLedgerCall_sig rec 20000 (entry w_toLedgerCall_sig 53 Try.f53 (bodyOf Try.f53) (x0, ()))).run = w_toLedgerCall_start (fun h => rec (w_toLedgerCall_cfg h)) x0 := (Tr.k_some _).trans ((w_toLedgerCall_begin_t rec x0).trans (by first | rfl | (simp only [br_ite]; rfl)))
theorem w_toLedgerCall_tab_ok : w_toLedgerCall_tab.ok Try.prog = true := by decide +kernel
theorem w_toLedgerCall_env_ok : (w_toLedgerCall_env).Ok Try.prog where
  mixed := by decide +kernel
  tab := w_toLedgerCall_tab_ok
  fns := by
    intro p hp
    simp only [w_toLedgerCall_env, List.mem_cons, List.not_mem_nil, or_false] at hp
    subst hp
    · exact ⟨Try.func53, by decide +kernel⟩
  sigs := by
    intro p hp
    simp only [w_toLedgerCall_env, List.mem_cons, List.not_mem_nil, or_false] at hp
  exts := by
    intro p hp
    simp only [w_toLedgerCall_env, List.mem_cons, List.not_mem_nil, or_false] at hp
theorem w_toLedgerCall_meets : Meets Try.prog 53 w_toLedgerCall_sig := by
  refine meets (anns := w_toLedgerCall_anns) (N := 20000) w_toLedgerCall_env_ok Try.func53 (body := bodyOf Try.f53) (by rfl) ?_
  rintro ⟨x0, ⟨⟩⟩ r hr
  refine ⟨1, ?_⟩
  show (ev w_toLedgerCall_env w_toLedgerCall_anns w_toLedgerCall_sig (Om w_toLedgerCall_env w_toLedgerCall_anns w_toLedgerCall_sig 20000 (1)) 20000 (entry w_toLedgerCall_sig 53 Try.f53 (bodyOf Try.f53) (x0, ()))).run = some r
  rw [w_toLedgerCall_begin]
  exact hr
end Go.Proofs.Ytmggpiijahiaiaa.Ev
namespace Go.Proofs.Ytmggpiijahiaiaa.Ev
open Go
set_option linter.unusedVariables false
set_option linter.unusedSimpArgs false
set_option maxRecDepth 100000
def w_toPast_tab : TTab := [⟨3, (.int .i64), 0⟩, ⟨40, (.int .u64), 0⟩, ⟨42, tLedgerCall, 0⟩, ⟨44, tPast, 0⟩, ⟨56, tLedgerCall, 0⟩, ⟨58, tPast, 0⟩]
abbrev w_toPast_ps : List Par := [.lent tPast]
abbrev w_toPast_outs : Outs := .one (.pure tPast)
abbrev w_toPast_R : Type := (((Int × (Int × (Int × (Int × Unit)))) × (Int × (Int × (Int × (Int × Unit))))) × Unit)
abbrev w_toPast_T : Ty := .pair (Outs.ty w_toPast_outs) (mutsTy w_toPast_ps)
noncomputable def w_toPast_env : Env := { tab := w_toPast_tab, fns := [(35, Try.f35)], sigs := [(53, w_toLedgerCall_sig)] }
def w_toPast_anns : List Ann := []
inductive w_toPast_H where
  | none
noncomputable def w_toPast_cfg : w_toPast_H → Cfg
  | .none => { fr := { fn := 0, fb := 0, ss := [], todo := [] }, cs := [], ob := fun _ => none }
def w_toPast_body (rec : w_toPast_H → Option w_toPast_R) : w_toPast_H → Option w_toPast_R
  | .none => none
def w_toPast_start (rec : w_toPast_H → Option w_toPast_R) (x0 : PastD) : Option w_toPast_R :=
  (w_toLedgerCall_fn x0.fst).bind fun y0 =>
    some ((y0.fst, x0.snd.fst, x0.snd.snd.fst, x0.snd.snd.snd.fst, x0.snd.snd.snd.snd.fst, ()), ())
def w_toPast_go : Nat → w_toPast_H → Option w_toPast_R
  | 0, _ => none
  | k + 1, h => w_toPast_body (w_toPast_go k) h
def w_toPast_k (k : Nat) (x0 : PastD) : Option w_toPast_R := w_toPast_start (w_toPast_go k) x0
def w_toPast_fn (x0 : PastD) : Option w_toPast_R := w_toPast_k (1) x0
noncomputable def w_toPast_sig : Sig := { ps := w_toPast_ps, outs := w_toPast_outs, fn := fun x => w_toPast_fn (x.1) }
theorem w_toPast_begin_t (rec : Cfg → Option w_toPast_R) (x0 : PastD) : Tr.k (ev w_toPast_env w_toPast_anns w_toPast_sig rec 20000 (entry w_toPast_sig 35 Try.f35 (bodyOf Try.f35) (x0, ()))) some = ((w_toLedgerCall_fn x0.fst).bind fun y0 => some ((y0.fst, x0.snd.fst, x0.snd.snd.fst, x0.snd.snd.snd.fst, x0.snd.snd.snd.snd.fst, ()), ()) : Option w_toPast_R) := by kernel_rfl
theorem w_toPast_begin (rec : Cfg → Option w_toPast_sig.R.D) (x0 : PastD) : (ev w_toPast_env w_toPast_anns w_toPast_sig rec 20000 (entry w_toPast_sig 35 Try.f35 (bodyOf Try.f35) (x0, ()))).run = w_toPast_start (fun h => rec (w_toPast_cfg h)) x0 := (Tr.k_some _).trans ((w_toPast_begin_t rec x0).trans (by first | rfl | (simp only [br_ite]; rfl)))
theorem w_toPast_tab_ok : w_toPast_tab.ok Try.prog = true := by decide +kernel
theorem w_toPast_env_ok : (w_toPast_env).Ok Try.prog where
  mixed := by decide +kernel
  tab := w_toPast_tab_ok
  fns := by
    intro p hp
    simp only [w_toPast_env, List.mem_cons, List.not_mem_nil, or_false] at hp
    subst hp
    · exact ⟨Try.func35, by decide +kernel⟩
  sigs := by
    intro p hp
    simp only [w_toPast_env, List.mem_cons, List.not_mem_nil, or_false] at hp
    subst hp
    · exact ⟨w_toLedgerCall_meets, _, Try.func53, by decide +kernel⟩
  exts := by
    intro p hp
    simp only [w_toPast_env, List.mem_cons, List.not_mem_nil, or_false] at hp
theorem w_toPast_meets : Meets Try.prog 35 w_toPast_sig := by
  refine meets (anns := w_toPast_anns) (N := 20000) w_toPast_env_ok Try.func35 (body := bodyOf Try.f35) (by rfl) ?_
  rintro ⟨x0, ⟨⟩⟩ r hr
  refine ⟨1, ?_⟩
  show (ev w_toPast_env w_toPast_anns w_toPast_sig (Om w_toPast_env w_toPast_anns w_toPast_sig 20000 (1)) 20000 (entry w_toPast_sig 35 Try.f35 (bodyOf Try.f35) (x0, ()))).run = some r
  rw [w_toPast_begin]
  exact hr
end Go.Proofs.Ytmggpiijahiaiaa.Ev
namespace Go.Proofs.Ytmggpiijahiaiaa.Ev
open Go
set_option linter.unusedVariables false
set_option linter.unusedSimpArgs false
set_option maxRecDepth 100000
def w_toPastS_tab : TTab := [⟨3, (.int .i64), 0⟩, ⟨4, .bool, 0⟩, ⟨22, (.slice tPast), 64⟩, ⟨25, (.slice tPast), 64⟩, ⟨44, tPast, 0⟩, ⟨58, tPast, 0⟩]
abbrev w_toPastS_ps : List Par := [.lent (.slice tPast)]
abbrev w_toPastS_outs : Outs := .one (.own tPast)
abbrev w_toPastS_R : Type := ((List ((Int × (Int × (Int × (Int × Unit)))) × (Int × (Int × (Int × (Int × Unit)))))) × Unit)
abbrev w_toPastS_T : Ty := .pair (Outs.ty w_toPastS_outs) (mutsTy w_toPastS_ps)
noncomputable def w_toPastS_env : Env := { tab := w_toPastS_tab, fns := [(10, Try.f10)], sigs := [(35, w_toPast_sig)] }
def w_toPastS_anns : List Ann := [⟨10, 3, [0, 3, 4], []⟩]
inductive w_toPastS_H where
  | l0 (v0 : List PastD) (v1 : Int) (v2 : List PastD)
noncomputable def w_toPastS_cfg : w_toPastS_H → Cfg
  | .l0 v0 v1 v2 => { fr := { fn := 10, fb := 0, ss := sl 23 [(0, (.pv true (.slice tPast) v0)), (3, (.row 0 0)), (4, (.pv false (.int .i64) v1))], todo := todoAt (bodyOf Try.f10) [false, false, true, false, true] [] }, cs := [], ob := ofList [.row 0 false tPast v2] }
def w_toPastS_body (rec : w_toPastS_H → Option w_toPastS_R) : w_toPastS_H → Option w_toPastS_R
  | .l0 v0 v1 v2 =>
    if (decide (v1 < (↑v0.length : Int))) = true then
      if (decide (0 ≤ v1)) = true then
        if (decide (v1 < (↑v0.length : Int))) = true then
          (w_toPast_fn (v0.getD v1.toNat ((0, 0, 0, 0, ()), 0, 0, 0, 0, ()))).bind fun y0 =>
            if (decide (0 ≤ v1)) = true then
              if (decide (v1 < (↑v2.length : Int))) = true then
                (rec (.l0 (v0) (IntKind.i64.wrap (v1 + 1)) (v2.set v1.toNat y0.fst))).bind some
              else
                none
            else
              none
        else
          none
      else
        none
    else
      some (v2, ())
def w_toPastS_start (rec : w_toPastS_H → Option w_toPastS_R) (x0 : (List PastD)) : Option w_toPastS_R :=
  if (decide ((↑x0.length : Int) ≤ (↑x0.length : Int))) = true then
    if (decide ((↑64 : Int) * (↑x0.length : Int) ≤ 281474976710656)) = true then
      if (decide ((↑x0.length : Int) ≤ 9223372036854775807)) = true then
        (rec (.l0 (x0) (0) (List.replicate (↑x0.length : Int).toNat ((0, 0, 0, 0, ()), 0, 0, 0, 0, ())))).bind some
      else
        none
    else
      none
  else
    none
def w_toPastS_go : Nat → w_toPastS_H → Option w_toPastS_R
  | 0, _ => none
  | k + 1, h => w_toPastS_body (w_toPastS_go k) h
def w_toPastS_k (k : Nat) (x0 : (List PastD)) : Option w_toPastS_R := w_toPastS_start (w_toPastS_go k) x0
def w_toPastS_fn (x0 : (List PastD)) : Option w_toPastS_R := w_toPastS_k (x0.length + 10000000) x0
noncomputable def w_toPastS_sig : Sig := { ps := w_toPastS_ps, outs := w_toPastS_outs, fn := fun x => w_toPastS_fn (x.1) }
theorem w_toPastS_l0_t (rec : Cfg → Option w_toPastS_R) (v0 : List PastD) (v1 : Int) (v2 : List PastD) : Tr.k (ev w_toPastS_env w_toPastS_anns w_toPastS_sig rec 20000 (w_toPastS_cfg (.l0 v0 v1 v2))) some = (br (decide (v1 < (↑v0.length : Int))) (br (decide (0 ≤ v1)) (br (decide (v1 < (↑v0.length : Int))) ((w_toPast_fn (v0.getD v1.toNat ((0, 0, 0, 0, ()), 0, 0, 0, 0, ()))).bind fun y0 => br (decide (0 ≤ v1)) (br (decide (v1 < (↑v2.length : Int))) ((rec (w_toPastS_cfg (.l0 (v0) (IntKind.i64.wrap (v1 + 1)) (v2.set v1.toNat y0.fst)))).bind some) (none)) (none)) (none)) (none)) (some (v2, ())) : Option w_toPastS_R) := by kernel_rfl
theorem w_toPastS_l0 (rec : Cfg → Option w_toPastS_sig.R.D) (v0 : List PastD) (v1 : Int) (v2 : List PastD) : (ev w_toPastS_env w_toPastS_anns w_toPastS_sig rec 20000 (w_toPastS_cfg (.l0 v0 v1 v2))).run = w_toPastS_body (fun h => rec (w_toPastS_cfg h)) (.l0 v0 v1 v2) := (Tr.k_some _).trans ((w_toPastS_l0_t rec v0 v1 v2).trans (by first | rfl | (simp only [br_ite]; rfl)))
theorem w_toPastS_begin_t (rec : Cfg → Option w_toPastS_R) (x0 : (List PastD)) : Tr.k (ev w_toPastS_env w_toPastS_anns w_toPastS_sig rec 20000 (entry w_toPastS_sig 10 Try.f10 (bodyOf Try.f10) (x0, ()))) some = (br (decide ((↑x0.length : Int) ≤ (↑x0.length : Int))) (br (decide ((↑64 : Int) * (↑x0.length : Int) ≤ 281474976710656)) (br (decide ((↑x0.length : Int) ≤ 9223372036854775807)) ((rec (w_toPastS_cfg (.l0 (x0) (0) (List.replicate (↑x0.length : Int).toNat ((0, 0, 0, 0, ()), 0, 0, 0, 0, ()))))).bind some) (none)) (none)) (none) : Option w_toPastS_R) := by kernel_rfl
theorem w_toPastS_begin (rec : Cfg → Option w_toPastS_sig.R.D) (x0 : (List PastD)) : (ev w_toPastS_env w_toPastS_anns w_toPastS_sig rec 20000 (entry w_toPastS_sig 10 Try.f10 (bodyOf Try.f10) (x0, ()))).run = w_toPastS_start (fun h => rec (w_toPastS_cfg h)) x0 := (Tr.k_some _).trans ((w_toPastS_begin_t rec x0).trans (by first | rfl | (simp only [br_ite]; rfl)))
theorem w_toPastS_tab_ok : w_toPastS_tab.ok Try.prog = true := by decide +kernel
theorem w_toPastS_env_ok : (w_toPastS_env).Ok Try.prog where
  mixed := by decide +kernel
  tab := w_toPastS_tab_ok
  fns := by
    intro p hp
    simp only [w_toPastS_env, List.mem_cons, List.not_mem_nil, or_false] at hp
    subst hp
    · exact ⟨Try.func10, by decide +kernel⟩
  sigs := by
    intro p hp
    simp only [w_toPastS_env, List.mem_cons, List.not_mem_nil, or_false] at hp
    subst hp
    · exact ⟨w_toPast_meets, _, Try.func35, by decide +kernel⟩
  exts := by
    intro p hp
    simp only [w_toPastS_env, List.mem_cons, List.not_mem_nil, or_false] at hp
theorem w_toPastS_run (k : Nat) (h : w_toPastS_H) : Om w_toPastS_env w_toPastS_anns w_toPastS_sig 20000 k (w_toPastS_cfg h) = w_toPastS_go k h :=
  Om_go (sg := w_toPastS_sig) (cfg := w_toPastS_cfg) (body := w_toPastS_body) (go := w_toPastS_go) (fun _ => rfl) (fun _ _ => rfl) (fun rec h => by
  cases h with
  | l0 v0 v1 v2 => exact w_toPastS_l0 rec v0 v1 v2) k h
theorem w_toPastS_meets : Meets Try.prog 10 w_toPastS_sig := by
  refine meets (anns := w_toPastS_anns) (N := 20000) w_toPastS_env_ok Try.func10 (body := bodyOf Try.f10) (by rfl) ?_
  rintro ⟨x0, ⟨⟩⟩ r hr
  refine ⟨x0.length + 10000000, ?_⟩
  show (ev w_toPastS_env w_toPastS_anns w_toPastS_sig (Om w_toPastS_env w_toPastS_anns w_toPastS_sig 20000 (x0.length + 10000000)) 20000 (entry w_toPastS_sig 10 Try.f10 (bodyOf Try.f10) (x0, ()))).run = some r
  rw [w_toPastS_begin]
  have e : (fun h => Om w_toPastS_env w_toPastS_anns w_toPastS_sig 20000 (x0.length + 10000000) (w_toPastS_cfg h)) = w_toPastS_go (x0.length + 10000000) := funext fun h => w_toPastS_run _ h
  rw [e]
  exact hr
end Go.Proofs.Ytmggpiijahiaiaa.Ev
namespace Go.Proofs.Ytmggpiijahiaiaa.Ev
open Go
set_option linter.unusedVariables false
set_option linter.unusedSimpArgs false
set_option maxRecDepth 100000
def w_eqLedgerCall_tab : TTab := [⟨3, (.int .i64), 0⟩, ⟨4, .bool, 0⟩, ⟨40, (.int .u64), 0⟩, ⟨42, tLedgerCall, 0⟩]
abbrev w_eqLedgerCall_ps : List Par := [.lent tLedgerCall, .lent tLedgerCall]
abbrev w_eqLedgerCall_outs : Outs := .one (.pure .bool)
abbrev w_eqLedgerCall_R : Type := (Bool × Unit)
abbrev w_eqLedgerCall_T : Ty := .pair (Outs.ty w_eqLedgerCall_outs) (mutsTy w_eqLedgerCall_ps)
noncomputable def w_eqLedgerCall_env : Env := { tab := w_eqLedgerCall_tab, fns := [(55, Try.f55)], sigs := [] }
def w_eqLedgerCall_anns : List Ann := []
inductive w_eqLedgerCall_H where
  | none
noncomputable def w_eqLedgerCall_cfg : w_eqLedgerCall_H → Cfg
  | .none => { fr := { fn := 0, fb := 0, ss := [], todo := [] }, cs := [], ob := fun _ => none }
def w_eqLedgerCall_body (rec : w_eqLedgerCall_H → Option w_eqLedgerCall_R) : w_eqLedgerCall_H → Option w_eqLedgerCall_R
  | .none => none
def w_eqLedgerCall_start (rec : w_eqLedgerCall_H → Option w_eqLedgerCall_R) (x0 : LedgerCallD) (x1 : LedgerCallD) : Option w_eqLedgerCall_R :=
  if (x0.fst != x1.fst) = true then
    some (false, ())
  else
    if (x0.snd.fst != x1.snd.fst) = true then
      some (false, ())
    else
      if (x0.snd.snd.fst != x1.snd.snd.fst) = true then
        some (false, ())
      else
        if (x0.snd.snd.snd.fst != x1.snd.snd.snd.fst) = true then
          some (false, ())
        else
          some (true, ())
def w_eqLedgerCall_go : Nat → w_eqLedgerCall_H → Option w_eqLedgerCall_R
  | 0, _ => none
  | k + 1, h => w_eqLedgerCall_body (w_eqLedgerCall_go k) h
def w_eqLedgerCall_k (k : Nat) (x0 : LedgerCallD) (x1 : LedgerCallD) : Option w_eqLedgerCall_R := w_eqLedgerCall_start (w_eqLedgerCall_go k) x0 x1
def w_eqLedgerCall_fn (x0 : LedgerCallD) (x1 : LedgerCallD) : Option w_eqLedgerCall_R := w_eqLedgerCall_k (1) x0 x1
noncomputable def w_eqLedgerCall_sig : Sig := { ps := w_eqLedgerCall_ps, outs := w_eqLedgerCall_outs, fn := fun x => w_eqLedgerCall_fn (x.1) (x.2.1) }
theorem w_eqLedgerCall_begin_t (rec : Cfg → Option w_eqLedgerCall_R) (x0 : LedgerCallD) (x1 : LedgerCallD) : Tr.k (ev w_eqLedgerCall_env w_eqLedgerCall_anns w_eqLedgerCall_sig rec 20000 (entry w_eqLedgerCall_sig 55 Try.f55 (bodyOf Try.f55) (x0, x1, ()))) some = (br (x0.fst != x1.fst) (some (false, ())) (br (x0.snd.fst != x1.snd.fst) (some (false, ())) (br (x0.snd.snd.fst != x1.snd.snd.fst) (some (false, ())) (br (x0.snd.snd.snd.fst != x1.snd.snd.snd.fst) (some (false, ())) (some (true, ()))))) : Option w_eqLedgerCall_R) := by kernel_rfl
theorem w_eqLedgerCall_begin (rec : Cfg → Option w_eqLedgerCall_sig.R.D) (x0 : LedgerCallD) (x1 : LedgerCallD) : (ev w_eqLedgerCall_env w_eqLedgerCall_anns w_eqLedgerCall_sig rec 20000 (entry w_eqLedgerCall_sig 55 Try.f55 (bodyOf Try.f55) (x0, x1, ()))).run = w_eqLedgerCall_start (fun h => rec (w_eqLedgerCall_cfg h)) x0 x1 := (Tr.k_some _).trans ((w_eqLedgerCall_begin_t rec x0 x1).trans (by first | rfl | (simp only [br_ite]; rfl)))
theorem w_eqLedgerCall_tab_ok : w_eqLedgerCall_tab.ok Try.prog = true := by decide +kernel
theorem w_eqLedgerCall_env_ok : (w_eqLedgerCall_env).Ok Try.prog where
  mixed := by decide +kernel
  tab := w_eqLedgerCall_tab_ok
  fns := by
    intro p hp
    simp only [w_eqLedgerCall_env, List.mem_cons, List.not_mem_nil, or_false] at hp
    subst hp
    · exact ⟨Try.func55, by decide +kernel⟩
  sigs := by
    intro p hp
    simp only [w_eqLedgerCall_env, List.mem_cons, List.not_mem_nil, or_false] at hp
  exts := by
    intro p hp
    simp only [w_eqLedgerCall_env, List.mem_cons, List.not_mem_nil, or_false] at hp
theorem w_eqLedgerCall_meets : Meets Try.prog 55 w_eqLedgerCall_sig := by
  refine meets (anns := w_eqLedgerCall_anns) (N := 20000) w_eqLedgerCall_env_ok Try.func55 (body := bodyOf Try.f55) (by rfl) ?_
  rintro ⟨x0, x1, ⟨⟩⟩ r hr
  refine ⟨1, ?_⟩
  show (ev w_eqLedgerCall_env w_eqLedgerCall_anns w_eqLedgerCall_sig (Om w_eqLedgerCall_env w_eqLedgerCall_anns w_eqLedgerCall_sig 20000 (1)) 20000 (entry w_eqLedgerCall_sig 55 Try.f55 (bodyOf Try.f55) (x0, x1, ()))).run = some r
  rw [w_eqLedgerCall_begin]
  exact hr
end Go.Proofs.Ytmggpiijahiaiaa.Ev
namespace Go.Proofs.Ytmggpiijahiaiaa.Ev
open Go
set_option linter.unusedVariables false
set_option linter.unusedSimpArgs false
set_option maxRecDepth 100000
def w_eqPast_tab : TTab := [⟨3, (.int .i64), 0⟩, ⟨4, .bool, 0⟩, ⟨40, (.int .u64), 0⟩, ⟨42, tLedgerCall, 0⟩, ⟨44, tPast, 0⟩]
abbrev w_eqPast_ps : List Par := [.lent tPast, .lent tPast]
abbrev w_eqPast_outs : Outs := .one (.pure .bool)
abbrev w_eqPast_R : Type := (Bool × Unit)
abbrev w_eqPast_T : Ty := .pair (Outs.ty w_eqPast_outs) (mutsTy w_eqPast_ps)
noncomputable def w_eqPast_env : Env := { tab := w_eqPast_tab, fns := [(37, Try.f37)], sigs := [(55, w_eqLedgerCall_sig)] }
def w_eqPast_anns : List Ann := []
inductive w_eqPast_H where
  | none
noncomputable def w_eqPast_cfg : w_eqPast_H → Cfg
  | .none => { fr := { fn := 0, fb := 0, ss := [], todo := [] }, cs := [], ob := fun _ => none }
def w_eqPast_body (rec : w_eqPast_H → Option w_eqPast_R) : w_eqPast_H → Option w_eqPast_R
  | .none => none
def w_eqPast_start (rec : w_eqPast_H → Option w_eqPast_R) (x0 : PastD) (x1 : PastD) : Option w_eqPast_R :=
  (w_eqLedgerCall_fn x0.fst x1.fst).bind fun y0 =>
    if (!y0.fst) = true then
      some (false, ())
    else
      if (x0.snd.fst != x1.snd.fst) = true then
        some (false, ())
      else
        if (x0.snd.snd.fst != x1.snd.snd.fst) = true then
          some (false, ())
        else
          if (x0.snd.snd.snd.fst != x1.snd.snd.snd.fst) = true then
            some (false, ())
          else
            if (x0.snd.snd.snd.snd.fst != x1.snd.snd.snd.snd.fst) = true then
              some (false, ())
            else
              some (true, ())
def w_eqPast_go : Nat → w_eqPast_H → Option w_eqPast_R
  | 0, _ => none
  | k + 1, h => w_eqPast_body (w_eqPast_go k) h
def w_eqPast_k (k : Nat) (x0 : PastD) (x1 : PastD) : Option w_eqPast_R := w_eqPast_start (w_eqPast_go k) x0 x1
def w_eqPast_fn (x0 : PastD) (x1 : PastD) : Option w_eqPast_R := w_eqPast_k (1) x0 x1
noncomputable def w_eqPast_sig : Sig := { ps := w_eqPast_ps, outs := w_eqPast_outs, fn := fun x => w_eqPast_fn (x.1) (x.2.1) }
theorem w_eqPast_begin_t (rec : Cfg → Option w_eqPast_R) (x0 : PastD) (x1 : PastD) : Tr.k (ev w_eqPast_env w_eqPast_anns w_eqPast_sig rec 20000 (entry w_eqPast_sig 37 Try.f37 (bodyOf Try.f37) (x0, x1, ()))) some = ((w_eqLedgerCall_fn x0.fst x1.fst).bind fun y0 => br (!y0.fst) (some (false, ())) (br (x0.snd.fst != x1.snd.fst) (some (false, ())) (br (x0.snd.snd.fst != x1.snd.snd.fst) (some (false, ())) (br (x0.snd.snd.snd.fst != x1.snd.snd.snd.fst) (some (false, ())) (br (x0.snd.snd.snd.snd.fst != x1.snd.snd.snd.snd.fst) (some (false, ())) (some (true, ())))))) : Option w_eqPast_R) := by kernel_rfl
theorem w_eqPast_begin (rec : Cfg → Option w_eqPast_sig.R.D) (x0 : PastD) (x1 : PastD) : (ev w_eqPast_env w_eqPast_anns w_eqPast_sig rec 20000 (entry w_eqPast_sig 37 Try.f37 (bodyOf Try.f37) (x0, x1, ()))).run = w_eqPast_start (fun h => rec (w_eqPast_cfg h)) x0 x1 := (Tr.k_some _).trans ((w_eqPast_begin_t rec x0 x1).trans (by first | rfl | (simp only [br_ite]; rfl)))
theorem w_eqPast_tab_ok : w_eqPast_tab.ok Try.prog = true := by decide +kernel
theorem w_eqPast_env_ok : (w_eqPast_env).Ok Try.prog where
  mixed := by decide +kernel
  tab := w_eqPast_tab_ok
  fns := by
    intro p hp
    simp only [w_eqPast_env, List.mem_cons, List.not_mem_nil, or_false] at hp
    subst hp
    · exact ⟨Try.func37, by decide +kernel⟩
  sigs := by
    intro p hp
    simp only [w_eqPast_env, List.mem_cons, List.not_mem_nil, or_false] at hp
    subst hp
    · exact ⟨w_eqLedgerCall_meets, _, Try.func55, by decide +kernel⟩
  exts := by
    intro p hp
    simp only [w_eqPast_env, List.mem_cons, List.not_mem_nil, or_false] at hp
theorem w_eqPast_meets : Meets Try.prog 37 w_eqPast_sig := by
  refine meets (anns := w_eqPast_anns) (N := 20000) w_eqPast_env_ok Try.func37 (body := bodyOf Try.f37) (by rfl) ?_
  rintro ⟨x0, x1, ⟨⟩⟩ r hr
  refine ⟨1, ?_⟩
  show (ev w_eqPast_env w_eqPast_anns w_eqPast_sig (Om w_eqPast_env w_eqPast_anns w_eqPast_sig 20000 (1)) 20000 (entry w_eqPast_sig 37 Try.f37 (bodyOf Try.f37) (x0, x1, ()))).run = some r
  rw [w_eqPast_begin]
  exact hr
end Go.Proofs.Ytmggpiijahiaiaa.Ev
namespace Go.Proofs.Ytmggpiijahiaiaa.Ev
open Go
set_option linter.unusedVariables false
set_option linter.unusedSimpArgs false
set_option maxRecDepth 100000
def w_eqPastS_tab : TTab := [⟨3, (.int .i64), 0⟩, ⟨4, .bool, 0⟩, ⟨25, (.slice tPast), 64⟩, ⟨44, tPast, 0⟩]
abbrev w_eqPastS_ps : List Par := [.lent (.slice tPast), .lent (.slice tPast)]
abbrev w_eqPastS_outs : Outs := .one (.pure .bool)
abbrev w_eqPastS_R : Type := (Bool × Unit)
abbrev w_eqPastS_T : Ty := .pair (Outs.ty w_eqPastS_outs) (mutsTy w_eqPastS_ps)
noncomputable def w_eqPastS_env : Env := { tab := w_eqPastS_tab, fns := [(12, Try.f12)], sigs := [(37, w_eqPast_sig)] }
def w_eqPastS_anns : List Ann := [⟨12, 4, [0, 1, 5], []⟩]
inductive w_eqPastS_H where
  | l0 (v0 : List PastD) (v1 : List PastD) (v2 : Int)
noncomputable def w_eqPastS_cfg : w_eqPastS_H → Cfg
  | .l0 v0 v1 v2 => { fr := { fn := 12, fb := 0, ss := sl 27 [(0, (.pv true (.slice tPast) v0)), (1, (.pv true (.slice tPast) v1)), (5, (.pv false (.int .i64) v2))], todo := todoAt (bodyOf Try.f12) [false, false, true, false, true] [] }, cs := [], ob := ofList [] }
def w_eqPastS_body (rec : w_eqPastS_H → Option w_eqPastS_R) : w_eqPastS_H → Option w_eqPastS_R
  | .l0 v0 v1 v2 =>
    if (decide (v2 < (↑v0.length : Int))) = true then
      if (decide (0 ≤ v2)) = true then
        if (decide (v2 < (↑v0.length : Int))) = true then
          if (decide (0 ≤ v2)) = true then
            if (decide (v2 < (↑v1.length : Int))) = true then
              (w_eqPast_fn (v0.getD v2.toNat ((0, 0, 0, 0, ()), 0, 0, 0, 0, ())) (v1.getD v2.toNat ((0, 0, 0, 0, ()), 0, 0, 0, 0, ()))).bind fun y0 =>
                if (!y0.fst) = true then
                  some (false, ())
                else
                  (rec (.l0 (v0) (v1) (IntKind.i64.wrap (v2 + 1)))).bind some
            else
              none
          else
            none
        else
          none
      else
        none
    else
      some (true, ())
def w_eqPastS_start (rec : w_eqPastS_H → Option w_eqPastS_R) (x0 : (List PastD)) (x1 : (List PastD)) : Option w_eqPastS_R :=
  if ((↑x0.length : Int) != (↑x1.length : Int)) = true then
    some (false, ())
  else
    (rec (.l0 (x0) (x1) (0))).bind some
def w_eqPastS_go : Nat → w_eqPastS_H → Option w_eqPastS_R
  | 0, _ => none
  | k + 1, h => w_eqPastS_body (w_eqPastS_go k) h
def w_eqPastS_k (k : Nat) (x0 : (List PastD)) (x1 : (List PastD)) : Option w_eqPastS_R := w_eqPastS_start (w_eqPastS_go k) x0 x1
def w_eqPastS_fn (x0 : (List PastD)) (x1 : (List PastD)) : Option w_eqPastS_R := w_eqPastS_k (x0.length + x1.length + 10000000) x0 x1
noncomputable def w_eqPastS_sig : Sig := { ps := w_eqPastS_ps, outs := w_eqPastS_outs, fn := fun x => w_eqPastS_fn (x.1) (x.2.1) }
theorem w_eqPastS_l0_t (rec : Cfg → Option w_eqPastS_R) (v0 : List PastD) (v1 : List PastD) (v2 : Int) : Tr.k (ev w_eqPastS_env w_eqPastS_anns w_eqPastS_sig rec 20000 (w_eqPastS_cfg (.l0 v0 v1 v2))) some = (br (decide (v2 < (↑v0.length : Int))) (br (decide (0 ≤ v2)) (br (decide (v2 < (↑v0.length : Int))) (br (decide (0 ≤ v2)) (br (decide (v2 < (↑v1.length : Int))) ((w_eqPast_fn (v0.getD v2.toNat ((0, 0, 0, 0, ()), 0, 0, 0, 0, ())) (v1.getD v2.toNat ((0, 0, 0, 0, ()), 0, 0, 0, 0, ()))).bind fun y0 => br (!y0.fst) (some (false, ())) ((rec (w_eqPastS_cfg (.l0 (v0) (v1) (IntKind.i64.wrap (v2 + 1))))).bind some)) (none)) (none)) (none)) (none)) (some (true, ())) : Option w_eqPastS_R) := by kernel_rfl
theorem w_eqPastS_l0 (rec : Cfg → Option w_eqPastS_sig.R.D) (v0 : List PastD) (v1 : List PastD) (v2 : Int) : (ev w_eqPastS_env w_eqPastS_anns w_eqPastS_sig rec 20000 (w_eqPastS_cfg (.l0 v0 v1 v2))).run = w_eqPastS_body (fun h => rec (w_eqPastS_cfg h)) (.l0 v0 v1 v2) := (Tr.k_some _).trans ((w_eqPastS_l0_t rec v0 v1 v2).trans (by first | rfl | (simp only [br_ite]; rfl)))
theorem w_eqPastS_begin_t (rec : Cfg → Option w_eqPastS_R) (x0 : (List PastD)) (x1 : (List PastD)) : Tr.k (ev w_eqPastS_env w_eqPastS_anns w_eqPastS_sig rec 20000 (entry w_eqPastS_sig 12 Try.f12 (bodyOf Try.f12) (x0, x1, ()))) some = (br ((↑x0.length : Int) != (↑x1.length : Int)) (some (false, ())) ((rec (w_eqPastS_cfg (.l0 (x0) (x1) (0)))).bind some) : Option w_eqPastS_R) := by kernel_rfl
theorem w_eqPastS_begin (rec : Cfg → Option w_eqPastS_sig.R.D) (x0 : (List PastD)) (x1 : (List PastD)) : (ev w_eqPastS_env w_eqPastS_anns w_eqPastS_sig rec 20000 (entry w_eqPastS_sig 12 Try.f12 (bodyOf Try.f12) (x0, x1, ()))).run = w_eqPastS_start (fun h => rec (w_eqPastS_cfg h)) x0 x1 := (Tr.k_some _).trans ((w_eqPastS_begin_t rec x0 x1).trans (by first | rfl | (simp only [br_ite]; rfl)))
theorem w_eqPastS_tab_ok : w_eqPastS_tab.ok Try.prog = true := by decide +kernel
theorem w_eqPastS_env_ok : (w_eqPastS_env).Ok Try.prog where
  mixed := by decide +kernel
  tab := w_eqPastS_tab_ok
  fns := by
    intro p hp
    simp only [w_eqPastS_env, List.mem_cons, List.not_mem_nil, or_false] at hp
    subst hp
    · exact ⟨Try.func12, by decide +kernel⟩
  sigs := by
    intro p hp
    simp only [w_eqPastS_env, List.mem_cons, List.not_mem_nil, or_false] at hp
    subst hp
    · exact ⟨w_eqPast_meets, _, Try.func37, by decide +kernel⟩
  exts := by
    intro p hp
    simp only [w_eqPastS_env, List.mem_cons, List.not_mem_nil, or_false] at hp
theorem w_eqPastS_run (k : Nat) (h : w_eqPastS_H) : Om w_eqPastS_env w_eqPastS_anns w_eqPastS_sig 20000 k (w_eqPastS_cfg h) = w_eqPastS_go k h :=
  Om_go (sg := w_eqPastS_sig) (cfg := w_eqPastS_cfg) (body := w_eqPastS_body) (go := w_eqPastS_go) (fun _ => rfl) (fun _ _ => rfl) (fun rec h => by
  cases h with
  | l0 v0 v1 v2 => exact w_eqPastS_l0 rec v0 v1 v2) k h
theorem w_eqPastS_meets : Meets Try.prog 12 w_eqPastS_sig := by
  refine meets (anns := w_eqPastS_anns) (N := 20000) w_eqPastS_env_ok Try.func12 (body := bodyOf Try.f12) (by rfl) ?_
  rintro ⟨x0, x1, ⟨⟩⟩ r hr
  refine ⟨x0.length + x1.length + 10000000, ?_⟩
  show (ev w_eqPastS_env w_eqPastS_anns w_eqPastS_sig (Om w_eqPastS_env w_eqPastS_anns w_eqPastS_sig 20000 (x0.length + x1.length + 10000000)) 20000 (entry w_eqPastS_sig 12 Try.f12 (bodyOf Try.f12) (x0, x1, ()))).run = some r
  rw [w_eqPastS_begin]
  have e : (fun h => Om w_eqPastS_env w_eqPastS_anns w_eqPastS_sig 20000 (x0.length + x1.length + 10000000) (w_eqPastS_cfg h)) = w_eqPastS_go (x0.length + x1.length + 10000000) := funext fun h => w_eqPastS_run _ h
  rw [e]
  exact hr
end Go.Proofs.Ytmggpiijahiaiaa.Ev
namespace Go.Proofs.Ytmggpiijahiaiaa.Ev
open Go
set_option linter.unusedVariables false
set_option linter.unusedSimpArgs false
set_option maxRecDepth 100000
def w_eqIntS_tab : TTab := [⟨3, (.int .i64), 0⟩, ⟨4, .bool, 0⟩, ⟨29, (.slice (.int .i64)), 8⟩]
abbrev w_eqIntS_ps : List Par := [.lent (.slice (.int .i64)), .lent (.slice (.int .i64))]
abbrev w_eqIntS_outs : Outs := .one (.pure .bool)
abbrev w_eqIntS_R : Type := (Bool × Unit)
abbrev w_eqIntS_T : Ty := .pair (Outs.ty w_eqIntS_outs) (mutsTy w_eqIntS_ps)
noncomputable def w_eqIntS_env : Env := { tab := w_eqIntS_tab, fns := [(15, Try.f15)], sigs := [] }
def w_eqIntS_anns : List Ann := [⟨15, 4, [0, 1, 5], []⟩]
inductive w_eqIntS_H where
  | l0 (v0 : List Int) (v1 : List Int) (v2 : Int)
noncomputable def w_eqIntS_cfg : w_eqIntS_H → Cfg
  | .l0 v0 v1 v2 => { fr := { fn := 15, fb := 0, ss := sl 26 [(0, (.pv true (.slice (.int .i64)) v0)), (1, (.pv true (.slice (.int .i64)) v1)), (5, (.pv false (.int .i64) v2))], todo := todoAt (bodyOf Try.f15) [false, false, true, false, true] [] }, cs := [], ob := ofList [] }
def w_eqIntS_body (rec : w_eqIntS_H → Option w_eqIntS_R) : w_eqIntS_H → Option w_eqIntS_R
  | .l0 v0 v1 v2 =>
    if (decide (v2 < (↑v0.length : Int))) = true then
      if (decide (0 ≤ v2)) = true then
        if (decide (v2 < (↑v0.length : Int))) = true then
          if (decide (0 ≤ v2)) = true then
            if (decide (v2 < (↑v1.length : Int))) = true then
              if (v0.getD v2.toNat 0 != v1.getD v2.toNat 0) = true then
                some (false, ())
              else
                (rec (.l0 (v0) (v1) (IntKind.i64.wrap (v2 + 1)))).bind some
            else
              none
          else
            none
        else
          none
      else
        none
    else
      some (true, ())
def w_eqIntS_start (rec : w_eqIntS_H → Option w_eqIntS_R) (x0 : (List Int)) (x1 : (List Int)) : Option w_eqIntS_R :=
  if ((↑x0.length : Int) != (↑x1.length : Int)) = true then
    some (false, ())
  else
    (rec (.l0 (x0) (x1) (0))).bind some
def w_eqIntS_go : Nat → w_eqIntS_H → Option w_eqIntS_R
  | 0, _ => none
  | k + 1, h => w_eqIntS_body (w_eqIntS_go k) h
def w_eqIntS_k (k : Nat) (x0 : (List Int)) (x1 : (List Int)) : Option w_eqIntS_R := w_eqIntS_start (w_eqIntS_go k) x0 x1
def w_eqIntS_fn (x0 : (List Int)) (x1 : (List Int)) : Option w_eqIntS_R := w_eqIntS_k (x0.length + x1.length + 10000000) x0 x1
noncomputable def w_eqIntS_sig : Sig := { ps := w_eqIntS_ps, outs := w_eqIntS_outs, fn := fun x => w_eqIntS_fn (x.1) (x.2.1) }
theorem w_eqIntS_l0_t (rec : Cfg → Option w_eqIntS_R) (v0 : List Int) (v1 : List Int) (v2 : Int) : Tr.k (ev w_eqIntS_env w_eqIntS_anns w_eqIntS_sig rec 20000 (w_eqIntS_cfg (.l0 v0 v1 v2))) some = (br (decide (v2 < (↑v0.length : Int))) (br (decide (0 ≤ v2)) (br (decide (v2 < (↑v0.length : Int))) (br (decide (0 ≤ v2)) (br (decide (v2 < (↑v1.length : Int))) (br (v0.getD v2.toNat 0 != v1.getD v2.toNat 0) (some (false, ())) ((rec (w_eqIntS_cfg (.l0 (v0) (v1) (IntKind.i64.wrap (v2 + 1))))).bind some)) (none)) (none)) (none)) (none)) (some (true, ())) : Option w_eqIntS_R) := by kernel_rfl
theorem w_eqIntS_l0 (rec : Cfg → Option w_eqIntS_sig.R.D) (v0 : List Int) (v1 : List Int) (v2 : Int) : (ev w_eqIntS_env w_eqIntS_anns w_eqIntS_sig rec 20000 (w_eqIntS_cfg (.l0 v0 v1 v2))).run = w_eqIntS_body (fun h => rec (w_eqIntS_cfg h)) (.l0 v0 v1 v2) := (Tr.k_some _).trans ((w_eqIntS_l0_t rec v0 v1 v2).trans (by first | rfl | (simp only [br_ite]; rfl)))
theorem w_eqIntS_begin_t (rec : Cfg → Option w_eqIntS_R) (x0 : (List Int)) (x1 : (List Int)) : Tr.k (ev w_eqIntS_env w_eqIntS_anns w_eqIntS_sig rec 20000 (entry w_eqIntS_sig 15 Try.f15 (bodyOf Try.f15) (x0, x1, ()))) some = (br ((↑x0.length : Int) != (↑x1.length : Int)) (some (false, ())) ((rec (w_eqIntS_cfg (.l0 (x0) (x1) (0)))).bind some) : Option w_eqIntS_R) := by kernel_rfl
theorem w_eqIntS_begin (rec : Cfg → Option w_eqIntS_sig.R.D) (x0 : (List Int)) (x1 : (List Int)) : (ev w_eqIntS_env w_eqIntS_anns w_eqIntS_sig rec 20000 (entry w_eqIntS_sig 15 Try.f15 (bodyOf Try.f15) (x0, x1, ()))).run = w_eqIntS_start (fun h => rec (w_eqIntS_cfg h)) x0 x1 := (Tr.k_some _).trans ((w_eqIntS_begin_t rec x0 x1).trans (by first | rfl | (simp only [br_ite]; rfl)))
theorem w_eqIntS_tab_ok : w_eqIntS_tab.ok Try.prog = true := by decide +kernel
theorem w_eqIntS_env_ok : (w_eqIntS_env).Ok Try.prog where
  mixed := by decide +kernel
  tab := w_eqIntS_tab_ok
  fns := by
    intro p hp
    simp only [w_eqIntS_env, List.mem_cons, List.not_mem_nil, or_false] at hp
    subst hp
    · exact ⟨Try.func15, by decide +kernel⟩
  sigs := by
    intro p hp
    simp only [w_eqIntS_env, List.mem_cons, List.not_mem_nil, or_false] at hp
  exts := by
    intro p hp
    simp only [w_eqIntS_env, List.mem_cons, List.not_mem_nil, or_false] at hp
theorem w_eqIntS_run (k : Nat) (h : w_eqIntS_H) : Om w_eqIntS_env w_eqIntS_anns w_eqIntS_sig 20000 k (w_eqIntS_cfg h) = w_eqIntS_go k h :=
  Om_go (sg := w_eqIntS_sig) (cfg := w_eqIntS_cfg) (body := w_eqIntS_body) (go := w_eqIntS_go) (fun _ => rfl) (fun _ _ => rfl) (fun rec h => by
  cases h with
  | l0 v0 v1 v2 => exact w_eqIntS_l0 rec v0 v1 v2) k h
theorem w_eqIntS_meets : Meets Try.prog 15 w_eqIntS_sig := by
  refine meets (anns := w_eqIntS_anns) (N := 20000) w_eqIntS_env_ok Try.func15 (body := bodyOf Try.f15) (by rfl) ?_
  rintro ⟨x0, x1, ⟨⟩⟩ r hr
  refine ⟨x0.length + x1.length + 10000000, ?_⟩
  show (ev w_eqIntS_env w_eqIntS_anns w_eqIntS_sig (Om w_eqIntS_env w_eqIntS_anns w_eqIntS_sig 20000 (x0.length + x1.length + 10000000)) 20000 (entry w_eqIntS_sig 15 Try.f15 (bodyOf Try.f15) (x0, x1, ()))).run = some r
  rw [w_eqIntS_begin]
  have e : (fun h => Om w_eqIntS_env w_eqIntS_anns w_eqIntS_sig 20000 (x0.length + x1.length + 10000000) (w_eqIntS_cfg h)) = w_eqIntS_go (x0.length + x1.length + 10000000) := funext fun h => w_eqIntS_run _ h
  rw [e]
  exact hr
end Go.Proofs.Ytmggpiijahiaiaa.Ev
namespace Go.Proofs.Ytmggpiijahiaiaa.Ev
open Go
set_option linter.unusedVariables false
set_option linter.unusedSimpArgs false
set_option maxRecDepth 100000
def w_heldIntS_tab : TTab := [⟨3, (.int .i64), 0⟩, ⟨4, .bool, 0⟩, ⟨29, (.slice (.int .i64)), 8⟩]
abbrev w_heldIntS_ps : List Par := [.lent (.slice (.int .i64)), .lent (.int .i64)]
abbrev w_heldIntS_outs : Outs := .one (.pure (.int .i64))
abbrev w_heldIntS_R : Type := (Int × Unit)
abbrev w_heldIntS_T : Ty := .pair (Outs.ty w_heldIntS_outs) (mutsTy w_heldIntS_ps)
noncomputable def w_heldIntS_env : Env := { tab := w_heldIntS_tab, fns := [(18, Try.f18)], sigs := [] }
def w_heldIntS_anns : List Ann := [⟨18, 2, [0, 1, 5], []⟩]
inductive w_heldIntS_H where
  | l0 (v0 : List Int) (v1 : Int) (v2 : Int)
noncomputable def w_heldIntS_cfg : w_heldIntS_H → Cfg
  | .l0 v0 v1 v2 => { fr := { fn := 18, fb := 0, ss := sl 21 [(0, (.pv true (.slice (.int .i64)) v0)), (1, (.pv false (.int .i64) v1)), (5, (.pv false (.int .i64) v2))], todo := todoAt (bodyOf Try.f18) [false, true, false, true] [] }, cs := [], ob := ofList [] }
def w_heldIntS_body (rec : w_heldIntS_H → Option w_heldIntS_R) : w_heldIntS_H → Option w_heldIntS_R
  | .l0 v0 v1 v2 =>
    if (decide (v2 < (↑v0.length : Int))) = true then
      if (decide (0 ≤ v2)) = true then
        if (decide (v2 < (↑v0.length : Int))) = true then
          if (v0.getD v2.toNat 0 != v1) = true then
            some (-1, ())
          else
            (rec (.l0 (v0) (IntKind.i64.wrap (v1 + 1)) (IntKind.i64.wrap (v2 + 1)))).bind some
        else
          none
      else
        none
    else
      some (v1, ())
def w_heldIntS_start (rec : w_heldIntS_H → Option w_heldIntS_R) (x0 : (List Int)) (x1 : Int) : Option w_heldIntS_R :=
  (rec (.l0 (x0) (x1) (0))).bind some
def w_heldIntS_go : Nat → w_heldIntS_H → Option w_heldIntS_R
  | 0, _ => none
  | k + 1, h => w_heldIntS_body (w_heldIntS_go k) h
def w_heldIntS_k (k : Nat) (x0 : (List Int)) (x1 : Int) : Option w_heldIntS_R := w_heldIntS_start (w_heldIntS_go k) x0 x1
def w_heldIntS_fn (x0 : (List Int)) (x1 : Int) : Option w_heldIntS_R := w_heldIntS_k (x0.length + 10000000) x0 x1
noncomputable def w_heldIntS_sig : Sig := { ps := w_heldIntS_ps, outs := w_heldIntS_outs, fn := fun x => w_heldIntS_fn (x.1) (x.2.1) }
theorem w_heldIntS_l0_t (rec : Cfg → Option w_heldIntS_R) (v0 : List Int) (v1 : Int) (v2 : Int) : Tr.k (ev w_heldIntS_env w_heldIntS_anns w_heldIntS_sig rec 20000 (w_heldIntS_cfg (.l0 v0 v1 v2))) some = (br (decide (v2 < (↑v0.length : Int))) (br (decide (0 ≤ v2)) (br (decide (v2 < (↑v0.length : Int))) (br (v0.getD v2.toNat 0 != v1) (some (-1, ())) ((rec (w_heldIntS_cfg (.l0 (v0) (IntKind.i64.wrap (v1 + 1)) (IntKind.i64.wrap (v2 + 1))))).bind some)) (none)) (none)) (some (v1, ())) : Option w_heldIntS_R) := by kernel_rfl
theorem w_heldIntS_l0 (rec : Cfg → Option w_heldIntS_sig.R.D) (v0 : List Int) (v1 : Int) (v2 : Int) : (ev w_heldIntS_env w_heldIntS_anns w_heldIntS_sig rec 20000 (w_heldIntS_cfg (.l0 v0 v1 v2))).run = w_heldIntS_body (fun h => rec (w_heldIntS_cfg h)) (.l0 v0 v1 v2) := (Tr.k_some _).trans ((w_heldIntS_l0_t rec v0 v1 v2).trans (by first | rfl | (simp only [br_ite]; rfl)))
theorem w_heldIntS_begin_t (rec : Cfg → Option w_heldIntS_R) (x0 : (List Int)) (x1 : Int) : Tr.k (ev w_heldIntS_env w_heldIntS_anns w_heldIntS_sig rec 20000 (entry w_heldIntS_sig 18 Try.f18 (bodyOf Try.f18) (x0, x1, ()))) some = ((rec (w_heldIntS_cfg (.l0 (x0) (x1) (0)))).bind some : Option w_heldIntS_R) := by kernel_rfl
theorem w_heldIntS_begin (rec : Cfg → Option w_heldIntS_sig.R.D) (x0 : (List Int)) (x1 : Int) : (ev w_heldIntS_env w_heldIntS_anns w_heldIntS_sig rec 20000 (entry w_heldIntS_sig 18 Try.f18 (bodyOf Try.f18) (x0, x1, ()))).run = w_heldIntS_start (fun h => rec (w_heldIntS_cfg h)) x0 x1 := (Tr.k_some _).trans ((w_heldIntS_begin_t rec x0 x1).trans (by first | rfl | (simp only [br_ite]; rfl)))
theorem w_heldIntS_tab_ok : w_heldIntS_tab.ok Try.prog = true := by decide +kernel
theorem w_heldIntS_env_ok : (w_heldIntS_env).Ok Try.prog where
  mixed := by decide +kernel
  tab := w_heldIntS_tab_ok
  fns := by
    intro p hp
    simp only [w_heldIntS_env, List.mem_cons, List.not_mem_nil, or_false] at hp
    subst hp
    · exact ⟨Try.func18, by decide +kernel⟩
  sigs := by
    intro p hp
    simp only [w_heldIntS_env, List.mem_cons, List.not_mem_nil, or_false] at hp
  exts := by
    intro p hp
    simp only [w_heldIntS_env, List.mem_cons, List.not_mem_nil, or_false] at hp
theorem w_heldIntS_run (k : Nat) (h : w_heldIntS_H) : Om w_heldIntS_env w_heldIntS_anns w_heldIntS_sig 20000 k (w_heldIntS_cfg h) = w_heldIntS_go k h :=
  Om_go (sg := w_heldIntS_sig) (cfg := w_heldIntS_cfg) (body := w_heldIntS_body) (go := w_heldIntS_go) (fun _ => rfl) (fun _ _ => rfl) (fun rec h => by
  cases h with
  | l0 v0 v1 v2 => exact w_heldIntS_l0 rec v0 v1 v2) k h
theorem w_heldIntS_meets : Meets Try.prog 18 w_heldIntS_sig := by
  refine meets (anns := w_heldIntS_anns) (N := 20000) w_heldIntS_env_ok Try.func18 (body := bodyOf Try.f18) (by rfl) ?_
  rintro ⟨x0, x1, ⟨⟩⟩ r hr
  refine ⟨x0.length + 10000000, ?_⟩
  show (ev w_heldIntS_env w_heldIntS_anns w_heldIntS_sig (Om w_heldIntS_env w_heldIntS_anns w_heldIntS_sig 20000 (x0.length + 10000000)) 20000 (entry w_heldIntS_sig 18 Try.f18 (bodyOf Try.f18) (x0, x1, ()))).run = some r
  rw [w_heldIntS_begin]
  have e : (fun h => Om w_heldIntS_env w_heldIntS_anns w_heldIntS_sig 20000 (x0.length + 10000000) (w_heldIntS_cfg h)) = w_heldIntS_go (x0.length + 10000000) := funext fun h => w_heldIntS_run _ h
  rw [e]
  exact hr
end Go.Proofs.Ytmggpiijahiaiaa.Ev
/- The plain law of the histories: small facts; what the law's own helpers come to. -/
namespace Go.Proofs.Ytmggpiijahiaiaa.Ev
open Go Go.IntWalk
set_option linter.unusedVariables false
set_option linter.unusedSimpArgs false

instance : DecidableEq LedgerCallD := by unfold LedgerCallD; infer_instance
instance : DecidableEq PastD := by unfold PastD; infer_instance
instance : DecidableEq AccountD := by unfold AccountD; infer_instance
theorem bindSome {α : Type} (o : Option α) : o.bind some = o := by cases o <;> rfl
theorem obind {α β : Type} {o : Option α} {f : α → Option β} {a : α} {b : Option β} (h : o = some a) (k : f a = b) : o.bind f = b := by rw [h]; exact k
theorem dropG {α : Type} {l : List α} {i : Nat} (h : i < l.length) (z : α) : l.drop i = l.getD i z :: l.drop (i + 1) := by
  rw [List.drop_eq_getElem_cons h, List.getD_eq_getElem?_getD, List.getElem?_eq_getElem h]; rfl
theorem takeG {α : Type} {l : List α} {i : Nat} (h : i < l.length) (z : α) : l.take (i + 1) = l.take i ++ [l.getD i z] := by
  rw [List.take_succ_eq_append_getElem h, List.getD_eq_getElem?_getD, List.getElem?_eq_getElem h]; rfl
theorem wrapS {i n : Nat} (h : i < n) (hn : n ≤ 9223372036854775807) : IntKind.i64.wrap ((i : Int) + 1) = ((i + 1 : Nat) : Int) := by rw [i64_in _ (by omega)]; omega
def i64r (n : Int) : Prop := -9223372036854775808 ≤ n ∧ n ≤ 9223372036854775807
def u64r (n : Int) : Prop := 0 ≤ n ∧ n ≤ 18446744073709551615
theorem one_set {α : Type} (z x : α) : (List.replicate 1 z).set 0 x = [x] := rfl

theorem szPastS_ok {l : List PastD} (h : l.length ≤ 9223372036854775807) : ∃ r, w_szPastS_fn l 1048576 = some (r, ()) ∧ (0 ≤ r → l.length ≤ 1048576) := by
  unfold w_szPastS_fn w_szPastS_k w_szPastS_start
  rw [i64_in (1048576 - (l.length : Int)) (by omega)]
  by_cases c : 1048576 - (l.length : Int) < 0
  · exact ⟨-1, by simp only [c, decide_true, if_true], by omega⟩
  · exact ⟨_, by simp only [c, decide_false, Bool.false_eq_true, if_false]; rfl, by omega⟩
theorem toPast_ok (p : PastD) : w_toPast_fn p = some (p, ()) := rfl
theorem toPastS_go {l : List PastD} (hl : l.length ≤ 1048576) : ∀ (n k i : Nat) (v : List PastD), n < k → i + n = l.length → v.length = l.length → w_toPastS_go k (.l0 l i v) = some (v.take i ++ l.drop i, ()) := by
  intro n
  induction n with
  | zero =>
    intro k i v hk hi hv
    obtain ⟨k, rfl⟩ : ∃ k', k = k' + 1 := ⟨k - 1, by omega⟩
    have c : ¬ ((i : Int) < (l.length : Int)) := by omega
    simp only [w_toPastS_go, w_toPastS_body, c, decide_false, Bool.false_eq_true, if_false]
    rw [List.take_of_length_le (by omega), List.drop_of_length_le (by omega), List.append_nil]
  | succ n ih =>
    intro k i v hk hi hv
    obtain ⟨k, rfl⟩ : ∃ k', k = k' + 1 := ⟨k - 1, by omega⟩
    have c : (i : Int) < (l.length : Int) := by omega
    have c0 : (0 : Int) ≤ (i : Int) := by omega
    have c1 : (i : Int) < (v.length : Int) := by omega
    simp only [w_toPastS_go, w_toPastS_body, c, c0, c1, decide_true, if_true, toPast_ok, Option.bind_some, Int.toNat_natCast, wrapS (i := i) (n := l.length) (by omega) (by omega), bindSome]
    rw [ih k (i + 1) _ (by omega) (by omega) (by simp [hv])]
    rw [dropG (l := l) (i := i) (by omega) ((0, 0, 0, 0, ()), 0, 0, 0, 0, ()), List.take_set, takeG (by omega) ((0, 0, 0, 0, ()), 0, 0, 0, 0, ())]
    congr 2
    rw [List.set_append_right _ _ (by simp; omega)]
    have e : i - (v.take i).length = 0 := by simp; omega
    rw [e, List.set_cons_zero, List.append_assoc]
    rfl
theorem toPastS_ok {l : List PastD} (hl : l.length ≤ 1048576) : w_toPastS_fn l = some (l, ()) := by
  unfold w_toPastS_fn w_toPastS_k w_toPastS_start
  have c1 : ((64 : Nat) : Int) * (l.length : Int) ≤ 281474976710656 := by omega
  have c2 : (l.length : Int) ≤ 9223372036854775807 := by omega
  rw [if_pos (by simp), if_pos (by simpa using c1), if_pos (by simpa using c2)]
  simp only [bindSome]
  rw [show (0 : Int) = ((0 : Nat) : Int) from rfl, toPastS_go hl l.length _ 0 _ (by omega) (by omega) (by simp)]
  simp

theorem eqLedgerCall_ok (a b : LedgerCallD) : w_eqLedgerCall_fn a b = some (decide (a = b), ()) := by
  obtain ⟨a1, a2, a3, a4, _⟩ := a
  obtain ⟨b1, b2, b3, b4, _⟩ := b
  simp only [w_eqLedgerCall_fn, w_eqLedgerCall_k, w_eqLedgerCall_start, Prod.mk.injEq, bne_iff_ne, ne_eq]
  repeat' split
  all_goals simp_all
theorem eqPast_ok (a b : PastD) : w_eqPast_fn a b = some (decide (a = b), ()) := by
  obtain ⟨a1, a2, a3, a4, a5, _⟩ := a
  obtain ⟨b1, b2, b3, b4, b5, _⟩ := b
  simp only [w_eqPast_fn, w_eqPast_k, w_eqPast_start, eqLedgerCall_ok, Option.bind_some, bne_iff_ne, ne_eq, Bool.not_eq_true', decide_eq_false_iff_not]
  repeat' split
  all_goals simp_all
theorem eqPastS_go {a b : List PastD} (hl : a.length ≤ 1048576) (hb : b.length = a.length) : ∀ (n k i : Nat), n < k → i + n = a.length → w_eqPastS_go k (.l0 a b i) = some (decide (a.drop i = b.drop i), ()) := by
  intro n
  induction n with
  | zero =>
    intro k i hk hi
    obtain ⟨k, rfl⟩ : ∃ k', k = k' + 1 := ⟨k - 1, by omega⟩
    have c : ¬ ((i : Int) < (a.length : Int)) := by omega
    simp only [w_eqPastS_go, w_eqPastS_body, c, decide_false, Bool.false_eq_true, if_false]
    rw [List.drop_of_length_le (by omega), List.drop_of_length_le (by omega)]
    simp
  | succ n ih =>
    intro k i hk hi
    obtain ⟨k, rfl⟩ : ∃ k', k = k' + 1 := ⟨k - 1, by omega⟩
    have c : (i : Int) < (a.length : Int) := by omega
    have c0 : (0 : Int) ≤ (i : Int) := by omega
    have c1 : (i : Int) < (b.length : Int) := by omega
    simp only [w_eqPastS_go, w_eqPastS_body, c, c0, c1, decide_true, if_true, eqPast_ok, Option.bind_some, Int.toNat_natCast, wrapS (i := i) (n := a.length) (by omega) (by omega), bindSome]
    rw [ih k (i + 1) (by omega) (by omega), dropG (l := a) (i := i) (by omega) ((0, 0, 0, 0, ()), 0, 0, 0, 0, ()), dropG (l := b) (i := i) (by omega) ((0, 0, 0, 0, ()), 0, 0, 0, 0, ())]
    simp only [List.cons.injEq]
    split
    · rename_i h; simp at h; simp [h]
    · rename_i h; simp at h; simp [h]
theorem eqPastS_ok {a b : List PastD} (hl : a.length ≤ 1048576) : w_eqPastS_fn a b = some (decide (a = b), ()) := by
  unfold w_eqPastS_fn w_eqPastS_k w_eqPastS_start
  by_cases h : a.length = b.length
  · have c : ((a.length : Int) != (b.length : Int)) = false := by simp [h]
    simp only [c, Bool.false_eq_true, if_false, bindSome]
    rw [show (0 : Int) = ((0 : Nat) : Int) from rfl, eqPastS_go hl h.symm a.length _ 0 (by omega) (by omega)]
    simp
  · have c : ((a.length : Int) != (b.length : Int)) = true := by simp; omega
    simp only [c, if_true]
    have : ¬ a = b := fun e => h (by rw [e])
    simp [this]
theorem eqIntS_go {a b : List Int} (hl : a.length ≤ 1048576) (hb : b.length = a.length) : ∀ (n k i : Nat), n < k → i + n = a.length → w_eqIntS_go k (.l0 a b i) = some (decide (a.drop i = b.drop i), ()) := by
  intro n
  induction n with
  | zero =>
    intro k i hk hi
    obtain ⟨k, rfl⟩ : ∃ k', k = k' + 1 := ⟨k - 1, by omega⟩
    have c : ¬ ((i : Int) < (a.length : Int)) := by omega
    simp only [w_eqIntS_go, w_eqIntS_body, c, decide_false, Bool.false_eq_true, if_false]
    rw [List.drop_of_length_le (by omega), List.drop_of_length_le (by omega)]
    simp
  | succ n ih =>
    intro k i hk hi
    obtain ⟨k, rfl⟩ : ∃ k', k = k' + 1 := ⟨k - 1, by omega⟩
    have c : (i : Int) < (a.length : Int) := by omega
    have c0 : (0 : Int) ≤ (i : Int) := by omega
    have c1 : (i : Int) < (b.length : Int) := by omega
    simp only [w_eqIntS_go, w_eqIntS_body, c, c0, c1, decide_true, if_true, Int.toNat_natCast, wrapS (i := i) (n := a.length) (by omega) (by omega), bindSome]
    rw [ih k (i + 1) (by omega) (by omega), dropG (l := a) (i := i) (by omega) 0, dropG (l := b) (i := i) (by omega) 0]
    simp only [List.cons.injEq]
    split
    · rename_i h; simp at h; simp [h]
    · rename_i h; simp at h; simp [h]
theorem eqIntS_ok {a b : List Int} (hl : a.length ≤ 1048576) : w_eqIntS_fn a b = some (decide (a = b), ()) := by
  unfold w_eqIntS_fn w_eqIntS_k w_eqIntS_start
  by_cases h : a.length = b.length
  · have c : ((a.length : Int) != (b.length : Int)) = false := by simp [h]
    simp only [c, Bool.false_eq_true, if_false, bindSome]
    rw [show (0 : Int) = ((0 : Nat) : Int) from rfl, eqIntS_go hl h.symm a.length _ 0 (by omega) (by omega)]
    simp
  · have c : ((a.length : Int) != (b.length : Int)) = true := by simp; omega
    simp only [c, if_true]
    have : ¬ a = b := fun e => h (by rw [e])
    simp [this]
end Go.Proofs.Ytmggpiijahiaiaa.Ev
namespace Go.Proofs.Ytmggpiijahiaiaa.Ev
open Go
set_option linter.unusedVariables false
set_option linter.unusedSimpArgs false
set_option maxRecDepth 100000
def i_isBook_tab : TTab := [⟨3, (.int .i64), 0⟩, ⟨4, .bool, 0⟩, ⟨40, (.int .u64), 0⟩, ⟨47, (.slice tAccount), 40⟩, ⟨49, tBook, 0⟩, ⟨71, tAccount, 0⟩]
abbrev i_isBook_ps : List Par := [.lent tBook]
abbrev i_isBook_outs : Outs := .one (.pure .bool)
abbrev i_isBook_R : Type := (Bool × Unit)
abbrev i_isBook_T : Ty := .pair (Outs.ty i_isBook_outs) (mutsTy i_isBook_ps)
noncomputable def i_isBook_env : Env := { tab := i_isBook_tab, fns := [(49, Try.f49)], sigs := [], exts := [(74, .add64)] }
def i_isBook_anns : List Ann := [⟨49, 2, [1, 10, 11, 12], []⟩, ⟨49, 100075, [1, 10, 11, 12, 75], []⟩]
inductive i_isBook_H where
  | l0 (v0 : List AccountD) (v1 : Int) (v2 : Int) (v3 : BookD)
  | l1 (v0 : List AccountD) (v1 : Int) (v2 : Int) (v3 : Bool) (v4 : BookD)
noncomputable def i_isBook_cfg : i_isBook_H → Cfg
  | .l0 v0 v1 v2 v3 => { fr := { fn := 49, fb := 0, ss := sl 81 [(1, (.bptr 0 [])), (10, (.pv true (.slice tAccount) v0)), (11, (.pv false (.int .i64) v1)), (12, (.pv false (.int .i64) v2))], todo := todoAt (bodyOf Try.f49) [false, true, false, true] [] }, cs := [], ob := ofList [.box tBook (.pv true tBook v3)] }
  | .l1 v0 v1 v2 v3 v4 => { fr := { fn := 49, fb := 0, ss := sl 81 [(1, (.bptr 0 [])), (10, (.pv true (.slice tAccount) v0)), (11, (.pv false (.int .i64) v1)), (12, (.pv false (.int .i64) v2)), (75, (.pv false .bool v3))], todo := cutAt (bodyOf Try.f49) [false, true, false, true, true, false, false, true, true, false, false, false, false] [] }, cs := [], ob := ofList [.box tBook (.pv true tBook v4)] }
def i_isBook_body (rec : i_isBook_H → Option i_isBook_R) : i_isBook_H → Option i_isBook_R
  | .l0 v0 v1 v2 v3 =>
    if (decide (v2 < v1)) = true then
      if (decide (0 ≤ v2)) = true then
        if (decide (v2 < (↑v0.length : Int))) = true then
          if (decide (IntKind.u64.wrap ((↑((Int.toNat (v0.getD v2.toNat (0, 0, 0, 0, 0, ())).snd.fst + Int.toNat (v0.getD v2.toNat (0, 0, 0, 0, 0, ())).snd.snd.fst + Int.toNat 0) / 18446744073709551616) : Int) + (↑(((IntKind.u64.wrap ((v0.getD v2.toNat (0, 0, 0, 0, 0, ())).snd.fst + (v0.getD v2.toNat (0, 0, 0, 0, 0, ())).snd.snd.fst)).toNat + Int.toNat (v0.getD v2.toNat (0, 0, 0, 0, 0, ())).snd.snd.snd.fst + Int.toNat 0) / 18446744073709551616) : Int)) > 0)) = true then
            (rec (.l1 (v0) (v1) (v2) (Bool.true) (v3))).bind some
          else
            if (decide ((v0.getD v2.toNat (0, 0, 0, 0, 0, ())).snd.snd.snd.snd.fst < 0)) = true then
              (rec (.l1 (v0) (v1) (v2) (Bool.true) (v3))).bind some
            else
              if ((v0.getD v2.toNat (0, 0, 0, 0, 0, ())).snd.snd.snd.snd.fst == 0) = true then
                if ((v0.getD v2.toNat (0, 0, 0, 0, 0, ())).snd.snd.fst != 0) = true then
                  (rec (.l1 (v0) (v1) (v2) (Bool.true) (v3))).bind some
                else
                  if ((v0.getD v2.toNat (0, 0, 0, 0, 0, ())).snd.snd.snd.fst != 0) = true then
                    (rec (.l1 (v0) (v1) (v2) (Bool.true) (v3))).bind some
                  else
                    if (decide (v2 > 0)) = true then
                      if (decide (0 ≤ IntKind.i64.wrap (v2 - 1))) = true then
                        if (decide (IntKind.i64.wrap (v2 - 1) < (↑(List.length v3.fst) : Int))) = true then
                          (rec (.l1 (v0) (v1) (v2) (decide ((List.getD v3.fst (IntKind.i64.wrap (v2 - 1)).toNat (0, 0, 0, 0, 0, ())).fst ≥ (v0.getD v2.toNat (0, 0, 0, 0, 0, ())).fst)) (v3))).bind some
                        else
                          none
                      else
                        none
                    else
                      (rec (.l1 (v0) (v1) (v2) (Bool.false) (v3))).bind some
              else
                if (decide (v2 > 0)) = true then
                  if (decide (0 ≤ IntKind.i64.wrap (v2 - 1))) = true then
                    if (decide (IntKind.i64.wrap (v2 - 1) < (↑(List.length v3.fst) : Int))) = true then
                      (rec (.l1 (v0) (v1) (v2) (decide ((List.getD v3.fst (IntKind.i64.wrap (v2 - 1)).toNat (0, 0, 0, 0, 0, ())).fst ≥ (v0.getD v2.toNat (0, 0, 0, 0, 0, ())).fst)) (v3))).bind some
                    else
                      none
                  else
                    none
                else
                  (rec (.l1 (v0) (v1) (v2) (Bool.false) (v3))).bind some
        else
          none
      else
        none
    else
      some (decide ((↑(List.length v3.fst) : Int) ≤ 40), ())
  | .l1 v0 v1 v2 v3 v4 =>
    if (v3) = true then
      some (false, ())
    else
      (rec (.l0 (v0) (v1) (IntKind.i64.wrap (v2 + 1)) (v4))).bind some
def i_isBook_start (rec : i_isBook_H → Option i_isBook_R) (x0 : BookD) : Option i_isBook_R :=
  (rec (.l0 (x0.fst) ((↑(List.length x0.fst) : Int)) (0) (x0))).bind some
def i_isBook_go : Nat → i_isBook_H → Option i_isBook_R
  | 0, _ => none
  | k + 1, h => i_isBook_body (i_isBook_go k) h
def i_isBook_k (k : Nat) (x0 : BookD) : Option i_isBook_R := i_isBook_start (i_isBook_go k) x0
def i_isBook_fn (x0 : BookD) : Option i_isBook_R := i_isBook_k (10000000) x0
noncomputable def i_isBook_sig : Sig := { ps := i_isBook_ps, outs := i_isBook_outs, fn := fun x => i_isBook_fn (x.1) }
theorem i_isBook_l0_t (rec : Cfg → Option i_isBook_R) (v0 : List AccountD) (v1 : Int) (v2 : Int) (v3 : BookD) : Tr.k (ev i_isBook_env i_isBook_anns i_isBook_sig rec 20000 (i_isBook_cfg (.l0 v0 v1 v2 v3))) some = (br (decide (v2 < v1)) (br (decide (0 ≤ v2)) (br (decide (v2 < (↑v0.length : Int))) (br (decide (IntKind.u64.wrap ((↑((Int.toNat (v0.getD v2.toNat (0, 0, 0, 0, 0, ())).snd.fst + Int.toNat (v0.getD v2.toNat (0, 0, 0, 0, 0, ())).snd.snd.fst + Int.toNat 0) / 18446744073709551616) : Int) + (↑(((IntKind.u64.wrap ((v0.getD v2.toNat (0, 0, 0, 0, 0, ())).snd.fst + (v0.getD v2.toNat (0, 0, 0, 0, 0, ())).snd.snd.fst)).toNat + Int.toNat (v0.getD v2.toNat (0, 0, 0, 0, 0, ())).snd.snd.snd.fst + Int.toNat 0) / 18446744073709551616) : Int)) > 0)) ((rec (i_isBook_cfg (.l1 (v0) (v1) (v2) (Bool.true) (v3)))).bind some) (br (decide ((v0.getD v2.toNat (0, 0, 0, 0, 0, ())).snd.snd.snd.snd.fst < 0)) ((rec (i_isBook_cfg (.l1 (v0) (v1) (v2) (Bool.true) (v3)))).bind some) (br ((v0.getD v2.toNat (0, 0, 0, 0, 0, ())).snd.snd.snd.snd.fst == 0) (br ((v0.getD v2.toNat (0, 0, 0, 0, 0, ())).snd.snd.fst != 0) ((rec (i_isBook_cfg (.l1 (v0) (v1) (v2) (Bool.true) (v3)))).bind some) (br ((v0.getD v2.toNat (0, 0, 0, 0, 0, ())).snd.snd.snd.fst != 0) ((rec (i_isBook_cfg (.l1 (v0) (v1) (v2) (Bool.true) (v3)))).bind some) (br (decide (v2 > 0)) (br (decide (0 ≤ IntKind.i64.wrap (v2 - 1))) (br (decide (IntKind.i64.wrap (v2 - 1) < (↑(List.length v3.fst) : Int))) ((rec (i_isBook_cfg (.l1 (v0) (v1) (v2) (decide ((List.getD v3.fst (IntKind.i64.wrap (v2 - 1)).toNat (0, 0, 0, 0, 0, ())).fst ≥ (v0.getD v2.toNat (0, 0, 0, 0, 0, ())).fst)) (v3)))).bind some) (none)) (none)) ((rec (i_isBook_cfg (.l1 (v0) (v1) (v2) (Bool.false) (v3)))).bind some)))) (br (decide (v2 > 0)) (br (decide (0 ≤ IntKind.i64.wrap (v2 - 1))) (br (decide (IntKind.i64.wrap (v2 - 1) < (↑(List.length v3.fst) : Int))) ((rec (i_isBook_cfg (.l1 (v0) (v1) (v2) (decide ((List.getD v3.fst (IntKind.i64.wrap (v2 - 1)).toNat (0, 0, 0, 0, 0, ())).fst ≥ (v0.getD v2.toNat (0, 0, 0, 0, 0, ())).fst)) (v3)))).bind some) (none)) (none)) ((rec (i_isBook_cfg (.l1 (v0) (v1) (v2) (Bool.false) (v3)))).bind some))))) (none)) (none)) (some (decide ((↑(List.length v3.fst) : Int) ≤ 40), ())) : Option i_isBook_R) := by kernel_rfl
theorem i_isBook_l0 (rec : Cfg → Option i_isBook_sig.R.D) (v0 : List AccountD) (v1 : Int) (v2 : Int) (v3 : BookD) : (ev i_isBook_env i_isBook_anns i_isBook_sig rec 20000 (i_isBook_cfg (.l0 v0 v1 v2 v3))).run = i_isBook_body (fun h => rec (i_isBook_cfg h)) (.l0 v0 v1 v2 v3) := (Tr.k_some _).trans ((i_isBook_l0_t rec v0 v1 v2 v3).trans (by first | rfl | (simp only [br_ite]; rfl)))
theorem i_isBook_l1_t (rec : Cfg → Option i_isBook_R) (v0 : List AccountD) (v1 : Int) (v2 : Int) (v3 : Bool) (v4 : BookD) : Tr.k (ev i_isBook_env i_isBook_anns i_isBook_sig rec 20000 (i_isBook_cfg (.l1 v0 v1 v2 v3 v4))) some = (br (v3) (some (false, ())) ((rec (i_isBook_cfg (.l0 (v0) (v1) (IntKind.i64.wrap (v2 + 1)) (v4)))).bind some) : Option i_isBook_R) := by kernel_rfl
theorem i_isBook_l1 (rec : Cfg → Option i_isBook_sig.R.D) (v0 : List AccountD) (v1 : Int) (v2 : Int) (v3 : Bool) (v4 : BookD) : (ev i_isBook_env i_isBook_anns i_isBook_sig rec 20000 (i_isBook_cfg (.l1 v0 v1 v2 v3 v4))).run = i_isBook_body (fun h => rec (i_isBook_cfg h)) (.l1 v0 v1 v2 v3 v4) := (Tr.k_some _).trans ((i_isBook_l1_t rec v0 v1 v2 v3 v4).trans (by first | rfl | (simp only [br_ite]; rfl)))
theorem i_isBook_begin_t (rec : Cfg → Option i_isBook_R) (x0 : BookD) : Tr.k (ev i_isBook_env i_isBook_anns i_isBook_sig rec 20000 (entry i_isBook_sig 49 Try.f49 (bodyOf Try.f49) (x0, ()))) some = ((rec (i_isBook_cfg (.l0 (x0.fst) ((↑(List.length x0.fst) : Int)) (0) (x0)))).bind some : Option i_isBook_R) := by kernel_rfl
theorem i_isBook_begin (rec : Cfg → Option i_isBook_sig.R.D) (x0 : BookD) : (ev i_isBook_env i_isBook_anns i_isBook_sig rec 20000 (entry i_isBook_sig 49 Try.f49 (bodyOf Try.f49) (x0, ()))).run = i_isBook_start (fun h => rec (i_isBook_cfg h)) x0 := (Tr.k_some _).trans ((i_isBook_begin_t rec x0).trans (by first | rfl | (simp only [br_ite]; rfl)))
theorem i_isBook_tab_ok : i_isBook_tab.ok Try.prog = true := by decide +kernel
theorem i_isBook_env_ok : (i_isBook_env).Ok Try.prog where
  mixed := by decide +kernel
  tab := i_isBook_tab_ok
  fns := by
    intro p hp
    simp only [i_isBook_env, List.mem_cons, List.not_mem_nil, or_false] at hp
    subst hp
    · exact ⟨Try.func49, by decide +kernel⟩
  sigs := by
    intro p hp
    simp only [i_isBook_env, List.mem_cons, List.not_mem_nil, or_false] at hp
  exts := by
    intro p hp
    simp only [i_isBook_env, List.mem_cons, List.not_mem_nil, or_false] at hp
    subst hp
    · exact add64_ext Try.func74 (by kernel_rfl) (by kernel_rfl) (by kernel_rfl) (by kernel_rfl)
theorem i_isBook_run (k : Nat) (h : i_isBook_H) : Om i_isBook_env i_isBook_anns i_isBook_sig 20000 k (i_isBook_cfg h) = i_isBook_go k h :=
  Om_go (sg := i_isBook_sig) (cfg := i_isBook_cfg) (body := i_isBook_body) (go := i_isBook_go) (fun _ => rfl) (fun _ _ => rfl) (fun rec h => by
  cases h with
  | l0 v0 v1 v2 v3 => exact i_isBook_l0 rec v0 v1 v2 v3
  | l1 v0 v1 v2 v3 v4 => exact i_isBook_l1 rec v0 v1 v2 v3 v4) k h
theorem i_isBook_meets : Meets Try.prog 49 i_isBook_sig := by
  refine meets (anns := i_isBook_anns) (N := 20000) i_isBook_env_ok Try.func49 (body := bodyOf Try.f49) (by rfl) ?_
  rintro ⟨x0, ⟨⟩⟩ r hr
  refine ⟨10000000, ?_⟩
  show (ev i_isBook_env i_isBook_anns i_isBook_sig (Om i_isBook_env i_isBook_anns i_isBook_sig 20000 (10000000)) 20000 (entry i_isBook_sig 49 Try.f49 (bodyOf Try.f49) (x0, ()))).run = some r
  rw [i_isBook_begin]
  have e : (fun h => Om i_isBook_env i_isBook_anns i_isBook_sig 20000 (10000000) (i_isBook_cfg h)) = i_isBook_go (10000000) := funext fun h => i_isBook_run _ h
  rw [e]
  exact hr
end Go.Proofs.Ytmggpiijahiaiaa.Ev
namespace Go.Proofs.Ytmggpiijahiaiaa.Ev
open Go
set_option linter.unusedVariables false
set_option linter.unusedSimpArgs false
set_option maxRecDepth 100000
def s_BookOk_tab : TTab := [⟨3, (.int .i64), 0⟩, ⟨4, .bool, 0⟩, ⟨40, (.int .u64), 0⟩, ⟨47, (.slice tAccount), 40⟩, ⟨49, tBook, 0⟩, ⟨71, tAccount, 0⟩]
abbrev s_BookOk_ps : List Par := [.lent tBook]
abbrev s_BookOk_outs : Outs := .one (.pure .bool)
abbrev s_BookOk_R : Type := (Bool × Unit)
abbrev s_BookOk_T : Ty := .pair (Outs.ty s_BookOk_outs) (mutsTy s_BookOk_ps)
noncomputable def s_BookOk_env : Env := { tab := s_BookOk_tab, fns := [(80, Try.f80)], sigs := [] }
def s_BookOk_anns : List Ann := [⟨80, 4, [1, 3], []⟩, ⟨80, 100054, [1, 3, 4, 54], []⟩, ⟨80, 100071, [1, 3, 71], []⟩]
inductive s_BookOk_H where
  | l0 (v0 : Int) (v1 : BookD)
  | l1 (v0 : Int) (v1 : Bool) (v2 : BookD) (v3 : AccountD)
  | l2 (v0 : Int) (v1 : Bool) (v2 : BookD)
noncomputable def s_BookOk_cfg : s_BookOk_H → Cfg
  | .l0 v0 v1 => { fr := { fn := 80, fb := 0, ss := sl 72 [(1, (.bptr 0 [])), (3, (.pv false (.int .i64) v0))], todo := todoAt (bodyOf Try.f80) [false, false, true, false, true] [] }, cs := [], ob := ofList [.box tBook (.pv true tBook v1)] }
  | .l1 v0 v1 v2 v3 => { fr := { fn := 80, fb := 0, ss := sl 72 [(1, (.bptr 0 [])), (3, (.pv false (.int .i64) v0)), (4, (.bptr 1 [])), (54, (.pv false .bool v1))], todo := cutAt (bodyOf Try.f80) [false, false, true, false, true, true, false, true, true, false, true, false] [] }, cs := [], ob := ofList [.box tBook (.pv true tBook v2), .box tAccount (.pv false tAccount v3)] }
  | .l2 v0 v1 v2 => { fr := { fn := 80, fb := 0, ss := sl 72 [(1, (.bptr 0 [])), (3, (.pv false (.int .i64) v0)), (71, (.pv false .bool v1))], todo := cutAt (bodyOf Try.f80) [false, false, true, false, true, true, false, true, true, false, false, false] [] }, cs := [], ob := ofList [.box tBook (.pv true tBook v2)] }
def s_BookOk_body (rec : s_BookOk_H → Option s_BookOk_R) : s_BookOk_H → Option s_BookOk_R
  | .l0 v0 v1 =>
    if (decide (v0 < (↑(List.length v1.fst) : Int))) = true then
      if (decide (0 ≤ v0)) = true then
        if (decide (v0 < (↑(List.length v1.fst) : Int))) = true then
          if (decide (v0 > 0)) = true then
            if (decide (0 ≤ IntKind.i64.wrap (v0 - 1))) = true then
              if (decide (IntKind.i64.wrap (v0 - 1) < (↑(List.length v1.fst) : Int))) = true then
                if (decide ((List.getD v1.fst (IntKind.i64.wrap (v0 - 1)).toNat (0, 0, 0, 0, 0, ())).fst ≥ (List.getD v1.fst v0.toNat (0, 0, 0, 0, 0, ())).fst)) = true then
                  (rec (.l1 (v0) (Bool.true) (v1) (List.getD v1.fst v0.toNat (0, 0, 0, 0, 0, ())))).bind some
                else
                  if (decide ((List.getD v1.fst v0.toNat (0, 0, 0, 0, 0, ())).snd.snd.snd.snd.fst < 0)) = true then
                    (rec (.l1 (v0) (Bool.true) (v1) (List.getD v1.fst v0.toNat (0, 0, 0, 0, 0, ())))).bind some
                  else
                    if ((List.getD v1.fst v0.toNat (0, 0, 0, 0, 0, ())).snd.snd.snd.snd.fst == 0) = true then
                      if ((List.getD v1.fst v0.toNat (0, 0, 0, 0, 0, ())).snd.snd.fst != 0) = true then
                        (rec (.l1 (v0) (Bool.true) (v1) (List.getD v1.fst v0.toNat (0, 0, 0, 0, 0, ())))).bind some
                      else
                        (rec (.l1 (v0) ((List.getD v1.fst v0.toNat (0, 0, 0, 0, 0, ())).snd.snd.snd.fst != 0) (v1) (List.getD v1.fst v0.toNat (0, 0, 0, 0, 0, ())))).bind some
                    else
                      (rec (.l1 (v0) (Bool.false) (v1) (List.getD v1.fst v0.toNat (0, 0, 0, 0, 0, ())))).bind some
              else
                none
            else
              none
          else
            if (decide ((List.getD v1.fst v0.toNat (0, 0, 0, 0, 0, ())).snd.snd.snd.snd.fst < 0)) = true then
              (rec (.l1 (v0) (Bool.true) (v1) (List.getD v1.fst v0.toNat (0, 0, 0, 0, 0, ())))).bind some
            else
              if ((List.getD v1.fst v0.toNat (0, 0, 0, 0, 0, ())).snd.snd.snd.snd.fst == 0) = true then
                if ((List.getD v1.fst v0.toNat (0, 0, 0, 0, 0, ())).snd.snd.fst != 0) = true then
                  (rec (.l1 (v0) (Bool.true) (v1) (List.getD v1.fst v0.toNat (0, 0, 0, 0, 0, ())))).bind some
                else
                  (rec (.l1 (v0) ((List.getD v1.fst v0.toNat (0, 0, 0, 0, 0, ())).snd.snd.snd.fst != 0) (v1) (List.getD v1.fst v0.toNat (0, 0, 0, 0, 0, ())))).bind some
              else
                (rec (.l1 (v0) (Bool.false) (v1) (List.getD v1.fst v0.toNat (0, 0, 0, 0, 0, ())))).bind some
        else
          none
      else
        none
    else
      some (true, ())
  | .l1 v0 v1 v2 v3 =>
    if (v1) = true then
      some (false, ())
    else
      if (decide (v3.snd.snd.fst > IntKind.u64.wrap (18446744073709551615 - v3.snd.fst))) = true then
        (rec (.l2 (v0) (Bool.true) (v2))).bind some
      else
        (rec (.l2 (v0) (decide (v3.snd.snd.snd.fst > IntKind.u64.wrap (IntKind.u64.wrap (18446744073709551615 - v3.snd.fst) - v3.snd.snd.fst))) (v2))).bind some
  | .l2 v0 v1 v2 =>
    if (v1) = true then
      some (false, ())
    else
      (rec (.l0 (IntKind.i64.wrap (v0 + 1)) (v2))).bind some
def s_BookOk_start (rec : s_BookOk_H → Option s_BookOk_R) (x0 : BookD) : Option s_BookOk_R :=
  if (decide ((↑(List.length x0.fst) : Int) > 40)) = true then
    some (false, ())
  else
    (rec (.l0 (0) (x0))).bind some
def s_BookOk_go : Nat → s_BookOk_H → Option s_BookOk_R
  | 0, _ => none
  | k + 1, h => s_BookOk_body (s_BookOk_go k) h
def s_BookOk_k (k : Nat) (x0 : BookD) : Option s_BookOk_R := s_BookOk_start (s_BookOk_go k) x0
def s_BookOk_fn (x0 : BookD) : Option s_BookOk_R := s_BookOk_k (10000000) x0
noncomputable def s_BookOk_sig : Sig := { ps := s_BookOk_ps, outs := s_BookOk_outs, fn := fun x => s_BookOk_fn (x.1) }
theorem s_BookOk_l0_t (rec : Cfg → Option s_BookOk_R) (v0 : Int) (v1 : BookD) : Tr.k (ev s_BookOk_env s_BookOk_anns s_BookOk_sig rec 20000 (s_BookOk_cfg (.l0 v0 v1))) some = (br (decide (v0 < (↑(List.length v1.fst) : Int))) (br (decide (0 ≤ v0)) (br (decide (v0 < (↑(List.length v1.fst) : Int))) (br (decide (v0 > 0)) (br (decide (0 ≤ IntKind.i64.wrap (v0 - 1))) (br (decide (IntKind.i64.wrap (v0 - 1) < (↑(List.length v1.fst) : Int))) (br (decide ((List.getD v1.fst (IntKind.i64.wrap (v0 - 1)).toNat (0, 0, 0, 0, 0, ())).fst ≥ (List.getD v1.fst v0.toNat (0, 0, 0, 0, 0, ())).fst)) ((rec (s_BookOk_cfg (.l1 (v0) (Bool.true) (v1) (List.getD v1.fst v0.toNat (0, 0, 0, 0, 0, ()))))).bind some) (br (decide ((List.getD v1.fst v0.toNat (0, 0, 0, 0, 0, ())).snd.snd.snd.snd.fst < 0)) ((rec (s_BookOk_cfg (.l1 (v0) (Bool.true) (v1) (List.getD v1.fst v0.toNat (0, 0, 0, 0, 0, ()))))).bind some) (br ((List.getD v1.fst v0.toNat (0, 0, 0, 0, 0, ())).snd.snd.snd.snd.fst == 0) (br ((List.getD v1.fst v0.toNat (0, 0, 0, 0, 0, ())).snd.snd.fst != 0) ((rec (s_BookOk_cfg (.l1 (v0) (Bool.true) (v1) (List.getD v1.fst v0.toNat (0, 0, 0, 0, 0, ()))))).bind some) ((rec (s_BookOk_cfg (.l1 (v0) ((List.getD v1.fst v0.toNat (0, 0, 0, 0, 0, ())).snd.snd.snd.fst != 0) (v1) (List.getD v1.fst v0.toNat (0, 0, 0, 0, 0, ()))))).bind some)) ((rec (s_BookOk_cfg (.l1 (v0) (Bool.false) (v1) (List.getD v1.fst v0.toNat (0, 0, 0, 0, 0, ()))))).bind some)))) (none)) (none)) (br (decide ((List.getD v1.fst v0.toNat (0, 0, 0, 0, 0, ())).snd.snd.snd.snd.fst < 0)) ((rec (s_BookOk_cfg (.l1 (v0) (Bool.true) (v1) (List.getD v1.fst v0.toNat (0, 0, 0, 0, 0, ()))))).bind some) (br ((List.getD v1.fst v0.toNat (0, 0, 0, 0, 0, ())).snd.snd.snd.snd.fst == 0) (br ((List.getD v1.fst v0.toNat (0, 0, 0, 0, 0, ())).snd.snd.fst != 0) ((rec (s_BookOk_cfg (.l1 (v0) (Bool.true) (v1) (List.getD v1.fst v0.toNat (0, 0, 0, 0, 0, ()))))).bind some) ((rec (s_BookOk_cfg (.l1 (v0) ((List.getD v1.fst v0.toNat (0, 0, 0, 0, 0, ())).snd.snd.snd.fst != 0) (v1) (List.getD v1.fst v0.toNat (0, 0, 0, 0, 0, ()))))).bind some)) ((rec (s_BookOk_cfg (.l1 (v0) (Bool.false) (v1) (List.getD v1.fst v0.toNat (0, 0, 0, 0, 0, ()))))).bind some)))) (none)) (none)) (some (true, ())) : Option s_BookOk_R) := by kernel_rfl
theorem s_BookOk_l0 (rec : Cfg → Option s_BookOk_sig.R.D) (v0 : Int) (v1 : BookD) : (ev s_BookOk_env s_BookOk_anns s_BookOk_sig rec 20000 (s_BookOk_cfg (.l0 v0 v1))).run = s_BookOk_body (fun h => rec (s_BookOk_cfg h)) (.l0 v0 v1) := (Tr.k_some _).trans ((s_BookOk_l0_t rec v0 v1).trans (by first | rfl | (simp only [br_ite]; rfl)))
theorem s_BookOk_l1_t (rec : Cfg → Option s_BookOk_R) (v0 : Int) (v1 : Bool) (v2 : BookD) (v3 : AccountD) : Tr.k (ev s_BookOk_env s_BookOk_anns s_BookOk_sig rec 20000 (s_BookOk_cfg (.l1 v0 v1 v2 v3))) some = (br (v1) (some (false, ())) (br (decide (v3.snd.snd.fst > IntKind.u64.wrap (18446744073709551615 - v3.snd.fst))) ((rec (s_BookOk_cfg (.l2 (v0) (Bool.true) (v2)))).bind some) ((rec (s_BookOk_cfg (.l2 (v0) (decide (v3.snd.snd.snd.fst > IntKind.u64.wrap (IntKind.u64.wrap (18446744073709551615 - v3.snd.fst) - v3.snd.snd.fst))) (v2)))).bind some)) : Option s_BookOk_R) := by kernel_rfl
theorem s_BookOk_l1 (rec : Cfg → Option s_BookOk_sig.R.D) (v0 : Int) (v1 : Bool) (v2 : BookD) (v3 : AccountD) : (ev s_BookOk_env s_BookOk_anns s_BookOk_sig rec 20000 (s_BookOk_cfg (.l1 v0 v1 v2 v3))).run = s_BookOk_body (fun h => rec (s_BookOk_cfg h)) (.l1 v0 v1 v2 v3) := (Tr.k_some _).trans ((s_BookOk_l1_t rec v0 v1 v2 v3).trans (by first | rfl | (simp only [br_ite]; rfl)))
theorem s_BookOk_l2_t (rec : Cfg → Option s_BookOk_R) (v0 : Int) (v1 : Bool) (v2 : BookD) : Tr.k (ev s_BookOk_env s_BookOk_anns s_BookOk_sig rec 20000 (s_BookOk_cfg (.l2 v0 v1 v2))) some = (br (v1) (some (false, ())) ((rec (s_BookOk_cfg (.l0 (IntKind.i64.wrap (v0 + 1)) (v2)))).bind some) : Option s_BookOk_R) := by kernel_rfl
theorem s_BookOk_l2 (rec : Cfg → Option s_BookOk_sig.R.D) (v0 : Int) (v1 : Bool) (v2 : BookD) : (ev s_BookOk_env s_BookOk_anns s_BookOk_sig rec 20000 (s_BookOk_cfg (.l2 v0 v1 v2))).run = s_BookOk_body (fun h => rec (s_BookOk_cfg h)) (.l2 v0 v1 v2) := (Tr.k_some _).trans ((s_BookOk_l2_t rec v0 v1 v2).trans (by first | rfl | (simp only [br_ite]; rfl)))
theorem s_BookOk_begin_t (rec : Cfg → Option s_BookOk_R) (x0 : BookD) : Tr.k (ev s_BookOk_env s_BookOk_anns s_BookOk_sig rec 20000 (entry s_BookOk_sig 80 Try.f80 (bodyOf Try.f80) (x0, ()))) some = (br (decide ((↑(List.length x0.fst) : Int) > 40)) (some (false, ())) ((rec (s_BookOk_cfg (.l0 (0) (x0)))).bind some) : Option s_BookOk_R) := by kernel_rfl
theorem s_BookOk_begin (rec : Cfg → Option s_BookOk_sig.R.D) (x0 : BookD) : (ev s_BookOk_env s_BookOk_anns s_BookOk_sig rec 20000 (entry s_BookOk_sig 80 Try.f80 (bodyOf Try.f80) (x0, ()))).run = s_BookOk_start (fun h => rec (s_BookOk_cfg h)) x0 := (Tr.k_some _).trans ((s_BookOk_begin_t rec x0).trans (by first | rfl | (simp only [br_ite]; rfl)))
theorem s_BookOk_tab_ok : s_BookOk_tab.ok Try.prog = true := by decide +kernel
theorem s_BookOk_env_ok : (s_BookOk_env).Ok Try.prog where
  mixed := by decide +kernel
  tab := s_BookOk_tab_ok
  fns := by
    intro p hp
    simp only [s_BookOk_env, List.mem_cons, List.not_mem_nil, or_false] at hp
    subst hp
    · exact ⟨Try.func80, by decide +kernel⟩
  sigs := by
    intro p hp
    simp only [s_BookOk_env, List.mem_cons, List.not_mem_nil, or_false] at hp
  exts := by
    intro p hp
    simp only [s_BookOk_env, List.mem_cons, List.not_mem_nil, or_false] at hp
theorem s_BookOk_run (k : Nat) (h : s_BookOk_H) : Om s_BookOk_env s_BookOk_anns s_BookOk_sig 20000 k (s_BookOk_cfg h) = s_BookOk_go k h :=
  Om_go (sg := s_BookOk_sig) (cfg := s_BookOk_cfg) (body := s_BookOk_body) (go := s_BookOk_go) (fun _ => rfl) (fun _ _ => rfl) (fun rec h => by
  cases h with
  | l0 v0 v1 => exact s_BookOk_l0 rec v0 v1
  | l1 v0 v1 v2 v3 => exact s_BookOk_l1 rec v0 v1 v2 v3
  | l2 v0 v1 v2 => exact s_BookOk_l2 rec v0 v1 v2) k h
theorem s_BookOk_meets : Meets Try.prog 80 s_BookOk_sig := by
  refine meets (anns := s_BookOk_anns) (N := 20000) s_BookOk_env_ok Try.func80 (body := bodyOf Try.f80) (by rfl) ?_
  rintro ⟨x0, ⟨⟩⟩ r hr
  refine ⟨10000000, ?_⟩
  show (ev s_BookOk_env s_BookOk_anns s_BookOk_sig (Om s_BookOk_env s_BookOk_anns s_BookOk_sig 20000 (10000000)) 20000 (entry s_BookOk_sig 80 Try.f80 (bodyOf Try.f80) (x0, ()))).run = some r
  rw [s_BookOk_begin]
  have e : (fun h => Om s_BookOk_env s_BookOk_anns s_BookOk_sig 20000 (10000000) (s_BookOk_cfg h)) = s_BookOk_go (10000000) := funext fun h => s_BookOk_run _ h
  rw [e]
  exact hr
end Go.Proofs.Ytmggpiijahiaiaa.Ev
namespace Go.Proofs.Ytmggpiijahiaiaa.Ev
open Go
set_option linter.unusedVariables false
set_option linter.unusedSimpArgs false
set_option maxRecDepth 100000
def i_copyBook_tab : TTab := [⟨47, (.slice tAccount), 40⟩, ⟨49, tBook, 0⟩]
abbrev i_copyBook_ps : List Par := [.lent tBook]
abbrev i_copyBook_outs : Outs := .one (.pair (.own tAccount) .unit)
abbrev i_copyBook_R : Type := (((List (Int × (Int × (Int × (Int × (Int × Unit)))))) × Unit) × Unit)
abbrev i_copyBook_T : Ty := .pair (Outs.ty i_copyBook_outs) (mutsTy i_copyBook_ps)
noncomputable def i_copyBook_env : Env := { tab := i_copyBook_tab, fns := [(67, Try.f67)], sigs := [] }
def i_copyBook_anns : List Ann := []
inductive i_copyBook_H where
  | none
noncomputable def i_copyBook_cfg : i_copyBook_H → Cfg
  | .none => { fr := { fn := 0, fb := 0, ss := [], todo := [] }, cs := [], ob := fun _ => none }
def i_copyBook_body (rec : i_copyBook_H → Option i_copyBook_R) : i_copyBook_H → Option i_copyBook_R
  | .none => none
def i_copyBook_start (rec : i_copyBook_H → Option i_copyBook_R) (x0 : BookD) : Option i_copyBook_R :=
  if (decide (((List.replicate 0 (0, 0, 0, 0, 0, ())).length + List.length x0.fst) * 40 ≤ 140737488355328)) = true then
    if (decide ((List.replicate 0 (0, 0, 0, 0, 0, ())).length + List.length x0.fst ≤ 9223372036854775807)) = true then
      some ((List.replicate 0 (0, 0, 0, 0, 0, ()) ++ x0.fst, ()), ())
    else
      none
  else
    none
def i_copyBook_go : Nat → i_copyBook_H → Option i_copyBook_R
  | 0, _ => none
  | k + 1, h => i_copyBook_body (i_copyBook_go k) h
def i_copyBook_k (k : Nat) (x0 : BookD) : Option i_copyBook_R := i_copyBook_start (i_copyBook_go k) x0
def i_copyBook_fn (x0 : BookD) : Option i_copyBook_R := i_copyBook_k (1) x0
noncomputable def i_copyBook_sig : Sig := { ps := i_copyBook_ps, outs := i_copyBook_outs, fn := fun x => i_copyBook_fn (x.1) }
theorem i_copyBook_begin_t (rec : Cfg → Option i_copyBook_R) (x0 : BookD) : Tr.k (ev i_copyBook_env i_copyBook_anns i_copyBook_sig rec 20000 (entry i_copyBook_sig 67 Try.f67 (bodyOf Try.f67) (x0, ()))) some = (br (decide (((List.replicate 0 (0, 0, 0, 0, 0, ())).length + List.length x0.fst) * 40 ≤ 140737488355328)) (br (decide ((List.replicate 0 (0, 0, 0, 0, 0, ())).length + List.length x0.fst ≤ 9223372036854775807)) (some ((List.replicate 0 (0, 0, 0, 0, 0, ()) ++ x0.fst, ()), ())) (none)) (none) : Option i_copyBook_R) := by kernel_rfl
theorem i_copyBook_begin (rec : Cfg → Option i_copyBook_sig.R.D) (x0 : BookD) : (ev i_copyBook_env i_copyBook_anns i_copyBook_sig rec 20000 (entry i_copyBook_sig 67 Try.f67 (bodyOf Try.f67) (x0, ()))).run = i_copyBook_start (fun h => rec (i_copyBook_cfg h)) x0 := (Tr.k_some _).trans ((i_copyBook_begin_t rec x0).trans (by first | rfl | (simp only [br_ite]; rfl)))
theorem i_copyBook_tab_ok : i_copyBook_tab.ok Try.prog = true := by decide +kernel
theorem i_copyBook_env_ok : (i_copyBook_env).Ok Try.prog where
  mixed := by decide +kernel
  tab := i_copyBook_tab_ok
  fns := by
    intro p hp
    simp only [i_copyBook_env, List.mem_cons, List.not_mem_nil, or_false] at hp
    subst hp
    · exact ⟨Try.func67, by decide +kernel⟩
  sigs := by
    intro p hp
    simp only [i_copyBook_env, List.mem_cons, List.not_mem_nil, or_false] at hp
  exts := by
    intro p hp
    simp only [i_copyBook_env, List.mem_cons, List.not_mem_nil, or_false] at hp
theorem i_copyBook_meets : Meets Try.prog 67 i_copyBook_sig := by
  refine meets (anns := i_copyBook_anns) (N := 20000) i_copyBook_env_ok Try.func67 (body := bodyOf Try.f67) (by rfl) ?_
  rintro ⟨x0, ⟨⟩⟩ r hr
  refine ⟨1, ?_⟩
  show (ev i_copyBook_env i_copyBook_anns i_copyBook_sig (Om i_copyBook_env i_copyBook_anns i_copyBook_sig 20000 (1)) 20000 (entry i_copyBook_sig 67 Try.f67 (bodyOf Try.f67) (x0, ()))).run = some r
  rw [i_copyBook_begin]
  exact hr
end Go.Proofs.Ytmggpiijahiaiaa.Ev
namespace Go.Proofs.Ytmggpiijahiaiaa.Ev
open Go
set_option linter.unusedVariables false
set_option linter.unusedSimpArgs false
set_option maxRecDepth 100000
def s_l10Copy_tab : TTab := [⟨3, (.int .i64), 0⟩, ⟨4, .bool, 0⟩, ⟨47, (.slice tAccount), 40⟩, ⟨49, tBook, 0⟩, ⟨71, tAccount, 0⟩]
abbrev s_l10Copy_ps : List Par := [.lent tBook]
abbrev s_l10Copy_outs : Outs := .one (.pair (.own tAccount) .unit)
abbrev s_l10Copy_R : Type := (((List (Int × (Int × (Int × (Int × (Int × Unit)))))) × Unit) × Unit)
abbrev s_l10Copy_T : Ty := .pair (Outs.ty s_l10Copy_outs) (mutsTy s_l10Copy_ps)
noncomputable def s_l10Copy_env : Env := { tab := s_l10Copy_tab, fns := [(48, Try.f48)], sigs := [] }
def s_l10Copy_anns : List Ann := [⟨48, 3, [1, 2, 3, 4], []⟩]
inductive s_l10Copy_H where
  | l0 (v0 : Int) (v1 : BookD)
  | l1 (v0 : Int) (v1 : BookD) (v2 : List AccountD)
noncomputable def s_l10Copy_cfg : s_l10Copy_H → Cfg
  | .l0 v0 v1 => { fr := { fn := 48, fb := 0, ss := sl 24 [(1, (.bptr 0 [])), (2, (.bptr 1 [])), (3, (.bptr 2 [])), (4, (.pv false (.int .i64) v0))], todo := todoAt (bodyOf Try.f48) [false, false, true, false, true] [] }, cs := [], ob := ofList [.box tBook (.pv true tBook v1), .box tBook (.pair .nilv .unit), .box tBook (.pair .nilv .unit)] }
  | .l1 v0 v1 v2 => { fr := { fn := 48, fb := 0, ss := sl 24 [(1, (.bptr 0 [])), (2, (.bptr 1 [])), (3, (.bptr 2 [])), (4, (.pv false (.int .i64) v0))], todo := todoAt (bodyOf Try.f48) [false, false, true, false, true] [] }, cs := [], ob := ofList [.box tBook (.pv true tBook v1), .box tBook (.pair .nilv .unit), .box tBook (.pair (.row 3 0) .unit), .row 0 false tAccount v2] }
def s_l10Copy_body (rec : s_l10Copy_H → Option s_l10Copy_R) : s_l10Copy_H → Option s_l10Copy_R
  | .l0 v0 v1 =>
    if (decide (v0 < (↑(List.length v1.fst) : Int))) = true then
      if (decide (0 ≤ v0)) = true then
        if (decide (v0 < (↑(List.length v1.fst) : Int))) = true then
          (rec (.l1 (IntKind.i64.wrap (v0 + 1)) (v1) ((List.replicate 1 (0, 0, 0, 0, 0, ())).set 0 (List.getD v1.fst v0.toNat (0, 0, 0, 0, 0, ()))))).bind some
        else
          none
      else
        none
    else
      some (([], ()), ())
  | .l1 v0 v1 v2 =>
    if (decide (v0 < (↑(List.length v1.fst) : Int))) = true then
      if (decide (0 ≤ v0)) = true then
        if (decide (v0 < (↑(List.length v1.fst) : Int))) = true then
          if (decide ((v2.length + ((List.replicate 1 (0, 0, 0, 0, 0, ())).set 0 (List.getD v1.fst v0.toNat (0, 0, 0, 0, 0, ()))).length) * 40 ≤ 140737488355328)) = true then
            if (decide (v2.length + ((List.replicate 1 (0, 0, 0, 0, 0, ())).set 0 (List.getD v1.fst v0.toNat (0, 0, 0, 0, 0, ()))).length ≤ 9223372036854775807)) = true then
              (rec (.l1 (IntKind.i64.wrap (v0 + 1)) (v1) (v2 ++ (List.replicate 1 (0, 0, 0, 0, 0, ())).set 0 (List.getD v1.fst v0.toNat (0, 0, 0, 0, 0, ()))))).bind some
            else
              none
          else
            none
        else
          none
      else
        none
    else
      some ((v2, ()), ())
def s_l10Copy_start (rec : s_l10Copy_H → Option s_l10Copy_R) (x0 : BookD) : Option s_l10Copy_R :=
  (rec (.l0 (0) (x0))).bind some
def s_l10Copy_go : Nat → s_l10Copy_H → Option s_l10Copy_R
  | 0, _ => none
  | k + 1, h => s_l10Copy_body (s_l10Copy_go k) h
def s_l10Copy_k (k : Nat) (x0 : BookD) : Option s_l10Copy_R := s_l10Copy_start (s_l10Copy_go k) x0
def s_l10Copy_fn (x0 : BookD) : Option s_l10Copy_R := s_l10Copy_k (10000000) x0
noncomputable def s_l10Copy_sig : Sig := { ps := s_l10Copy_ps, outs := s_l10Copy_outs, fn := fun x => s_l10Copy_fn (x.1) }
theorem s_l10Copy_l0_t (rec : Cfg → Option s_l10Copy_R) (v0 : Int) (v1 : BookD) : Tr.k (ev s_l10Copy_env s_l10Copy_anns s_l10Copy_sig rec 20000 (s_l10Copy_cfg (.l0 v0 v1))) some = (br (decide (v0 < (↑(List.length v1.fst) : Int))) (br (decide (0 ≤ v0)) (br (decide (v0 < (↑(List.length v1.fst) : Int))) ((rec (s_l10Copy_cfg (.l1 (IntKind.i64.wrap (v0 + 1)) (v1) ((List.replicate 1 (0, 0, 0, 0, 0, ())).set 0 (List.getD v1.fst v0.toNat (0, 0, 0, 0, 0, ())))))).bind some) (none)) (none)) (some (([], ()), ())) : Option s_l10Copy_R) := by kernel_rfl
theorem s_l10Copy_l0 (rec : Cfg → Option s_l10Copy_sig.R.D) (v0 : Int) (v1 : BookD) : (ev s_l10Copy_env s_l10Copy_anns s_l10Copy_sig rec 20000 (s_l10Copy_cfg (.l0 v0 v1))).run = s_l10Copy_body (fun h => rec (s_l10Copy_cfg h)) (.l0 v0 v1) := (Tr.k_some _).trans ((s_l10Copy_l0_t rec v0 v1).trans (by first | rfl | (simp only [br_ite]; rfl)))
theorem s_l10Copy_l1_t (rec : Cfg → Option s_l10Copy_R) (v0 : Int) (v1 : BookD) (v2 : List AccountD) : Tr.k (ev s_l10Copy_env s_l10Copy_anns s_l10Copy_sig rec 20000 (s_l10Copy_cfg (.l1 v0 v1 v2))) some = (br (decide (v0 < (↑(List.length v1.fst) : Int))) (br (decide (0 ≤ v0)) (br (decide (v0 < (↑(List.length v1.fst) : Int))) (br (decide ((v2.length + ((List.replicate 1 (0, 0, 0, 0, 0, ())).set 0 (List.getD v1.fst v0.toNat (0, 0, 0, 0, 0, ()))).length) * 40 ≤ 140737488355328)) (br (decide (v2.length + ((List.replicate 1 (0, 0, 0, 0, 0, ())).set 0 (List.getD v1.fst v0.toNat (0, 0, 0, 0, 0, ()))).length ≤ 9223372036854775807)) ((rec (s_l10Copy_cfg (.l1 (IntKind.i64.wrap (v0 + 1)) (v1) (v2 ++ (List.replicate 1 (0, 0, 0, 0, 0, ())).set 0 (List.getD v1.fst v0.toNat (0, 0, 0, 0, 0, ())))))).bind some) (none)) (none)) (none)) (none)) (some ((v2, ()), ())) : Option s_l10Copy_R) := by kernel_rfl
theorem s_l10Copy_l1 (rec : Cfg → Option s_l10Copy_sig.R.D) (v0 : Int) (v1 : BookD) (v2 : List AccountD) : (ev s_l10Copy_env s_l10Copy_anns s_l10Copy_sig rec 20000 (s_l10Copy_cfg (.l1 v0 v1 v2))).run = s_l10Copy_body (fun h => rec (s_l10Copy_cfg h)) (.l1 v0 v1 v2) := (Tr.k_some _).trans ((s_l10Copy_l1_t rec v0 v1 v2).trans (by first | rfl | (simp only [br_ite]; rfl)))
theorem s_l10Copy_begin_t (rec : Cfg → Option s_l10Copy_R) (x0 : BookD) : Tr.k (ev s_l10Copy_env s_l10Copy_anns s_l10Copy_sig rec 20000 (entry s_l10Copy_sig 48 Try.f48 (bodyOf Try.f48) (x0, ()))) some = ((rec (s_l10Copy_cfg (.l0 (0) (x0)))).bind some : Option s_l10Copy_R) := by kernel_rfl
theorem s_l10Copy_begin (rec : Cfg → Option s_l10Copy_sig.R.D) (x0 : BookD) : (ev s_l10Copy_env s_l10Copy_anns s_l10Copy_sig rec 20000 (entry s_l10Copy_sig 48 Try.f48 (bodyOf Try.f48) (x0, ()))).run = s_l10Copy_start (fun h => rec (s_l10Copy_cfg h)) x0 := (Tr.k_some _).trans ((s_l10Copy_begin_t rec x0).trans (by first | rfl | (simp only [br_ite]; rfl)))
theorem s_l10Copy_tab_ok : s_l10Copy_tab.ok Try.prog = true := by decide +kernel
theorem s_l10Copy_env_ok : (s_l10Copy_env).Ok Try.prog where
  mixed := by decide +kernel
  tab := s_l10Copy_tab_ok
  fns := by
    intro p hp
    simp only [s_l10Copy_env, List.mem_cons, List.not_mem_nil, or_false] at hp
    subst hp
    · exact ⟨Try.func48, by decide +kernel⟩
  sigs := by
    intro p hp
    simp only [s_l10Copy_env, List.mem_cons, List.not_mem_nil, or_false] at hp
  exts := by
    intro p hp
    simp only [s_l10Copy_env, List.mem_cons, List.not_mem_nil, or_false] at hp
theorem s_l10Copy_run (k : Nat) (h : s_l10Copy_H) : Om s_l10Copy_env s_l10Copy_anns s_l10Copy_sig 20000 k (s_l10Copy_cfg h) = s_l10Copy_go k h :=
  Om_go (sg := s_l10Copy_sig) (cfg := s_l10Copy_cfg) (body := s_l10Copy_body) (go := s_l10Copy_go) (fun _ => rfl) (fun _ _ => rfl) (fun rec h => by
  cases h with
  | l0 v0 v1 => exact s_l10Copy_l0 rec v0 v1
  | l1 v0 v1 v2 => exact s_l10Copy_l1 rec v0 v1 v2) k h
theorem s_l10Copy_meets : Meets Try.prog 48 s_l10Copy_sig := by
  refine meets (anns := s_l10Copy_anns) (N := 20000) s_l10Copy_env_ok Try.func48 (body := bodyOf Try.f48) (by rfl) ?_
  rintro ⟨x0, ⟨⟩⟩ r hr
  refine ⟨10000000, ?_⟩
  show (ev s_l10Copy_env s_l10Copy_anns s_l10Copy_sig (Om s_l10Copy_env s_l10Copy_anns s_l10Copy_sig 20000 (10000000)) 20000 (entry s_l10Copy_sig 48 Try.f48 (bodyOf Try.f48) (x0, ()))).run = some r
  rw [s_l10Copy_begin]
  have e : (fun h => Om s_l10Copy_env s_l10Copy_anns s_l10Copy_sig 20000 (10000000) (s_l10Copy_cfg h)) = s_l10Copy_go (10000000) := funext fun h => s_l10Copy_run _ h
  rw [e]
  exact hr
end Go.Proofs.Ytmggpiijahiaiaa.Ev
namespace Go.Proofs.Ytmggpiijahiaiaa.Ev
open Go
set_option linter.unusedVariables false
set_option linter.unusedSimpArgs false
set_option maxRecDepth 100000
def s_l10Find_tab : TTab := [⟨3, (.int .i64), 0⟩, ⟨4, .bool, 0⟩, ⟨40, (.int .u64), 0⟩, ⟨47, (.slice tAccount), 40⟩, ⟨49, tBook, 0⟩, ⟨71, tAccount, 0⟩]
abbrev s_l10Find_ps : List Par := [.lent tBook, .lent (.int .u64)]
abbrev s_l10Find_outs : Outs := .one (.pure (.int .i64))
abbrev s_l10Find_R : Type := (Int × Unit)
abbrev s_l10Find_T : Ty := .pair (Outs.ty s_l10Find_outs) (mutsTy s_l10Find_ps)
noncomputable def s_l10Find_env : Env := { tab := s_l10Find_tab, fns := [(86, Try.f86)], sigs := [] }
def s_l10Find_anns : List Ann := [⟨86, 2, [1, 2, 5], []⟩]
inductive s_l10Find_H where
  | l0 (v0 : Int) (v1 : Int) (v2 : BookD)
noncomputable def s_l10Find_cfg : s_l10Find_H → Cfg
  | .l0 v0 v1 v2 => { fr := { fn := 86, fb := 0, ss := sl 22 [(1, (.pv false (.int .u64) v0)), (2, (.bptr 0 [])), (5, (.pv false (.int .i64) v1))], todo := todoAt (bodyOf Try.f86) [false, true, false, true] [] }, cs := [], ob := ofList [.box tBook (.pv true tBook v2)] }
def s_l10Find_body (rec : s_l10Find_H → Option s_l10Find_R) : s_l10Find_H → Option s_l10Find_R
  | .l0 v0 v1 v2 =>
    if (decide (v1 < (↑(List.length v2.fst) : Int))) = true then
      if (decide (0 ≤ v1)) = true then
        if (decide (v1 < (↑(List.length v2.fst) : Int))) = true then
          if ((List.getD v2.fst v1.toNat (0, 0, 0, 0, 0, ())).fst == v0) = true then
            some (v1, ())
          else
            (rec (.l0 (v0) (IntKind.i64.wrap (v1 + 1)) (v2))).bind some
        else
          none
      else
        none
    else
      some (-1, ())
def s_l10Find_start (rec : s_l10Find_H → Option s_l10Find_R) (x0 : BookD) (x1 : Int) : Option s_l10Find_R :=
  (rec (.l0 (x1) (0) (x0))).bind some
def s_l10Find_go : Nat → s_l10Find_H → Option s_l10Find_R
  | 0, _ => none
  | k + 1, h => s_l10Find_body (s_l10Find_go k) h
def s_l10Find_k (k : Nat) (x0 : BookD) (x1 : Int) : Option s_l10Find_R := s_l10Find_start (s_l10Find_go k) x0 x1
def s_l10Find_fn (x0 : BookD) (x1 : Int) : Option s_l10Find_R := s_l10Find_k (10000000) x0 x1
noncomputable def s_l10Find_sig : Sig := { ps := s_l10Find_ps, outs := s_l10Find_outs, fn := fun x => s_l10Find_fn (x.1) (x.2.1) }
theorem s_l10Find_l0_t (rec : Cfg → Option s_l10Find_R) (v0 : Int) (v1 : Int) (v2 : BookD) : Tr.k (ev s_l10Find_env s_l10Find_anns s_l10Find_sig rec 20000 (s_l10Find_cfg (.l0 v0 v1 v2))) some = (br (decide (v1 < (↑(List.length v2.fst) : Int))) (br (decide (0 ≤ v1)) (br (decide (v1 < (↑(List.length v2.fst) : Int))) (br ((List.getD v2.fst v1.toNat (0, 0, 0, 0, 0, ())).fst == v0) (some (v1, ())) ((rec (s_l10Find_cfg (.l0 (v0) (IntKind.i64.wrap (v1 + 1)) (v2)))).bind some)) (none)) (none)) (some (-1, ())) : Option s_l10Find_R) := by kernel_rfl
theorem s_l10Find_l0 (rec : Cfg → Option s_l10Find_sig.R.D) (v0 : Int) (v1 : Int) (v2 : BookD) : (ev s_l10Find_env s_l10Find_anns s_l10Find_sig rec 20000 (s_l10Find_cfg (.l0 v0 v1 v2))).run = s_l10Find_body (fun h => rec (s_l10Find_cfg h)) (.l0 v0 v1 v2) := (Tr.k_some _).trans ((s_l10Find_l0_t rec v0 v1 v2).trans (by first | rfl | (simp only [br_ite]; rfl)))
theorem s_l10Find_begin_t (rec : Cfg → Option s_l10Find_R) (x0 : BookD) (x1 : Int) : Tr.k (ev s_l10Find_env s_l10Find_anns s_l10Find_sig rec 20000 (entry s_l10Find_sig 86 Try.f86 (bodyOf Try.f86) (x0, x1, ()))) some = ((rec (s_l10Find_cfg (.l0 (x1) (0) (x0)))).bind some : Option s_l10Find_R) := by kernel_rfl
theorem s_l10Find_begin (rec : Cfg → Option s_l10Find_sig.R.D) (x0 : BookD) (x1 : Int) : (ev s_l10Find_env s_l10Find_anns s_l10Find_sig rec 20000 (entry s_l10Find_sig 86 Try.f86 (bodyOf Try.f86) (x0, x1, ()))).run = s_l10Find_start (fun h => rec (s_l10Find_cfg h)) x0 x1 := (Tr.k_some _).trans ((s_l10Find_begin_t rec x0 x1).trans (by first | rfl | (simp only [br_ite]; rfl)))
theorem s_l10Find_tab_ok : s_l10Find_tab.ok Try.prog = true := by decide +kernel
theorem s_l10Find_env_ok : (s_l10Find_env).Ok Try.prog where
  mixed := by decide +kernel
  tab := s_l10Find_tab_ok
  fns := by
    intro p hp
    simp only [s_l10Find_env, List.mem_cons, List.not_mem_nil, or_false] at hp
    subst hp
    · exact ⟨Try.func86, by decide +kernel⟩
  sigs := by
    intro p hp
    simp only [s_l10Find_env, List.mem_cons, List.not_mem_nil, or_false] at hp
  exts := by
    intro p hp
    simp only [s_l10Find_env, List.mem_cons, List.not_mem_nil, or_false] at hp
theorem s_l10Find_run (k : Nat) (h : s_l10Find_H) : Om s_l10Find_env s_l10Find_anns s_l10Find_sig 20000 k (s_l10Find_cfg h) = s_l10Find_go k h :=
  Om_go (sg := s_l10Find_sig) (cfg := s_l10Find_cfg) (body := s_l10Find_body) (go := s_l10Find_go) (fun _ => rfl) (fun _ _ => rfl) (fun rec h => by
  cases h with
  | l0 v0 v1 v2 => exact s_l10Find_l0 rec v0 v1 v2) k h
theorem s_l10Find_meets : Meets Try.prog 86 s_l10Find_sig := by
  refine meets (anns := s_l10Find_anns) (N := 20000) s_l10Find_env_ok Try.func86 (body := bodyOf Try.f86) (by rfl) ?_
  rintro ⟨x0, x1, ⟨⟩⟩ r hr
  refine ⟨10000000, ?_⟩
  show (ev s_l10Find_env s_l10Find_anns s_l10Find_sig (Om s_l10Find_env s_l10Find_anns s_l10Find_sig 20000 (10000000)) 20000 (entry s_l10Find_sig 86 Try.f86 (bodyOf Try.f86) (x0, x1, ()))).run = some r
  rw [s_l10Find_begin]
  have e : (fun h => Om s_l10Find_env s_l10Find_anns s_l10Find_sig 20000 (10000000) (s_l10Find_cfg h)) = s_l10Find_go (10000000) := funext fun h => s_l10Find_run _ h
  rw [e]
  exact hr
end Go.Proofs.Ytmggpiijahiaiaa.Ev
namespace Go.Proofs.Ytmggpiijahiaiaa.Ev
open Go
set_option linter.unusedVariables false
set_option linter.unusedSimpArgs false
set_option maxRecDepth 100000
def s_l10With_tab : TTab := [⟨3, (.int .i64), 0⟩, ⟨4, .bool, 0⟩, ⟨40, (.int .u64), 0⟩, ⟨47, (.slice tAccount), 40⟩, ⟨49, tBook, 0⟩, ⟨71, tAccount, 0⟩]
abbrev s_l10With_ps : List Par := [.lent tBook, .lent tAccount]
abbrev s_l10With_outs : Outs := .one (.pair (.own tAccount) .unit)
abbrev s_l10With_R : Type := (((List (Int × (Int × (Int × (Int × (Int × Unit)))))) × Unit) × Unit)
abbrev s_l10With_T : Ty := .pair (Outs.ty s_l10With_outs) (mutsTy s_l10With_ps)
noncomputable def s_l10With_env : Env := { tab := s_l10With_tab, fns := [(93, Try.f93)], sigs := [(48, s_l10Copy_sig)] }
def s_l10With_anns : List Ann := [⟨93, 3, [3, 4, 5, 6], []⟩]
inductive s_l10With_H where
  | l0 (v0 : Int) (v1 : AccountD) (v2 : List AccountD)
noncomputable def s_l10With_cfg : s_l10With_H → Cfg
  | .l0 v0 v1 v2 => { fr := { fn := 93, fb := 0, ss := sl 31 [(3, (.bptr 0 [])), (4, (.bptr 1 [])), (5, (.bptr 2 [])), (6, (.pv false (.int .i64) v0))], todo := todoAt (bodyOf Try.f93) [false, false, true, false, true] [] }, cs := [], ob := ofList [.box tAccount (.pv false tAccount v1), .box tBook (.pair .nilv .unit), .box tBook (.pair (.row 3 0) .unit), .row 0 false tAccount v2] }
def s_l10With_body (rec : s_l10With_H → Option s_l10With_R) : s_l10With_H → Option s_l10With_R
  | .l0 v0 v1 v2 =>
    if (decide (v0 < (↑v2.length : Int))) = true then
      if (decide (0 ≤ v0)) = true then
        if (decide (v0 < (↑v2.length : Int))) = true then
          if ((v2.getD v0.toNat (0, 0, 0, 0, 0, ())).fst == v1.fst) = true then
            if (decide (0 ≤ v0)) = true then
              if (decide (v0 < (↑v2.length : Int))) = true then
                (rec (.l0 (IntKind.i64.wrap (v0 + 1)) (v1) (v2.set v0.toNat v1))).bind some
              else
                none
            else
              none
          else
            (rec (.l0 (IntKind.i64.wrap (v0 + 1)) (v1) (v2))).bind some
        else
          none
      else
        none
    else
      some ((v2, ()), ())
def s_l10With_start (rec : s_l10With_H → Option s_l10With_R) (x0 : BookD) (x1 : AccountD) : Option s_l10With_R :=
  (s_l10Copy_fn x0).bind fun y0 =>
    (rec (.l0 (0) (x1) (y0.fst.fst))).bind some
def s_l10With_go : Nat → s_l10With_H → Option s_l10With_R
  | 0, _ => none
  | k + 1, h => s_l10With_body (s_l10With_go k) h
def s_l10With_k (k : Nat) (x0 : BookD) (x1 : AccountD) : Option s_l10With_R := s_l10With_start (s_l10With_go k) x0 x1
def s_l10With_fn (x0 : BookD) (x1 : AccountD) : Option s_l10With_R := s_l10With_k (10000000) x0 x1
noncomputable def s_l10With_sig : Sig := { ps := s_l10With_ps, outs := s_l10With_outs, fn := fun x => s_l10With_fn (x.1) (x.2.1) }
theorem s_l10With_l0_t (rec : Cfg → Option s_l10With_R) (v0 : Int) (v1 : AccountD) (v2 : List AccountD) : Tr.k (ev s_l10With_env s_l10With_anns s_l10With_sig rec 20000 (s_l10With_cfg (.l0 v0 v1 v2))) some = (br (decide (v0 < (↑v2.length : Int))) (br (decide (0 ≤ v0)) (br (decide (v0 < (↑v2.length : Int))) (br ((v2.getD v0.toNat (0, 0, 0, 0, 0, ())).fst == v1.fst) (br (decide (0 ≤ v0)) (br (decide (v0 < (↑v2.length : Int))) ((rec (s_l10With_cfg (.l0 (IntKind.i64.wrap (v0 + 1)) (v1) (v2.set v0.toNat v1)))).bind some) (none)) (none)) ((rec (s_l10With_cfg (.l0 (IntKind.i64.wrap (v0 + 1)) (v1) (v2)))).bind some)) (none)) (none)) (some ((v2, ()), ())) : Option s_l10With_R) := by kernel_rfl
theorem s_l10With_l0 (rec : Cfg → Option s_l10With_sig.R.D) (v0 : Int) (v1 : AccountD) (v2 : List AccountD) : (ev s_l10With_env s_l10With_anns s_l10With_sig rec 20000 (s_l10With_cfg (.l0 v0 v1 v2))).run = s_l10With_body (fun h => rec (s_l10With_cfg h)) (.l0 v0 v1 v2) := (Tr.k_some _).trans ((s_l10With_l0_t rec v0 v1 v2).trans (by first | rfl | (simp only [br_ite]; rfl)))
theorem s_l10With_begin_t (rec : Cfg → Option s_l10With_R) (x0 : BookD) (x1 : AccountD) : Tr.k (ev s_l10With_env s_l10With_anns s_l10With_sig rec 20000 (entry s_l10With_sig 93 Try.f93 (bodyOf Try.f93) (x0, x1, ()))) some = ((s_l10Copy_fn x0).bind fun y0 => (rec (s_l10With_cfg (.l0 (0) (x1) (y0.fst.fst)))).bind some : Option s_l10With_R) := by kernel_rfl
theorem s_l10With_begin (rec : Cfg → Option s_l10With_sig.R.D) (x0 : BookD) (x1 : AccountD) : (ev s_l10With_env s_l10With_anns s_l10With_sig rec 20000 (entry s_l10With_sig 93 Try.f93 (bodyOf Try.f93) (x0, x1, ()))).run = s_l10With_start (fun h => rec (s_l10With_cfg h)) x0 x1 := (Tr.k_some _).trans ((s_l10With_begin_t rec x0 x1).trans (by first | rfl | (simp only [br_ite]; rfl)))
theorem s_l10With_tab_ok : s_l10With_tab.ok Try.prog = true := by decide +kernel
theorem s_l10With_env_ok : (s_l10With_env).Ok Try.prog where
  mixed := by decide +kernel
  tab := s_l10With_tab_ok
  fns := by
    intro p hp
    simp only [s_l10With_env, List.mem_cons, List.not_mem_nil, or_false] at hp
    subst hp
    · exact ⟨Try.func93, by decide +kernel⟩
  sigs := by
    intro p hp
    simp only [s_l10With_env, List.mem_cons, List.not_mem_nil, or_false] at hp
    subst hp
    · exact ⟨s_l10Copy_meets, _, Try.func48, by decide +kernel⟩
  exts := by
    intro p hp
    simp only [s_l10With_env, List.mem_cons, List.not_mem_nil, or_false] at hp
theorem s_l10With_run (k : Nat) (h : s_l10With_H) : Om s_l10With_env s_l10With_anns s_l10With_sig 20000 k (s_l10With_cfg h) = s_l10With_go k h :=
  Om_go (sg := s_l10With_sig) (cfg := s_l10With_cfg) (body := s_l10With_body) (go := s_l10With_go) (fun _ => rfl) (fun _ _ => rfl) (fun rec h => by
  cases h with
  | l0 v0 v1 v2 => exact s_l10With_l0 rec v0 v1 v2) k h
theorem s_l10With_meets : Meets Try.prog 93 s_l10With_sig := by
  refine meets (anns := s_l10With_anns) (N := 20000) s_l10With_env_ok Try.func93 (body := bodyOf Try.f93) (by rfl) ?_
  rintro ⟨x0, x1, ⟨⟩⟩ r hr
  refine ⟨10000000, ?_⟩
  show (ev s_l10With_env s_l10With_anns s_l10With_sig (Om s_l10With_env s_l10With_anns s_l10With_sig 20000 (10000000)) 20000 (entry s_l10With_sig 93 Try.f93 (bodyOf Try.f93) (x0, x1, ()))).run = some r
  rw [s_l10With_begin]
  have e : (fun h => Om s_l10With_env s_l10With_anns s_l10With_sig 20000 (10000000) (s_l10With_cfg h)) = s_l10With_go (10000000) := funext fun h => s_l10With_run _ h
  rw [e]
  exact hr
end Go.Proofs.Ytmggpiijahiaiaa.Ev
namespace Go.Proofs.Ytmggpiijahiaiaa.Ev
open Go
set_option linter.unusedVariables false
set_option linter.unusedSimpArgs false
set_option maxRecDepth 100000
def i_accountOf_tab : TTab := [⟨3, (.int .i64), 0⟩, ⟨4, .bool, 0⟩, ⟨40, (.int .u64), 0⟩, ⟨47, (.slice tAccount), 40⟩, ⟨49, tBook, 0⟩, ⟨71, tAccount, 0⟩]
abbrev i_accountOf_ps : List Par := [.lent tBook, .lent (.int .u64)]
abbrev i_accountOf_outs : Outs := .many [(.pure (.int .i64)), (.pure .bool)]
abbrev i_accountOf_R : Type := ((Int × (Bool × Unit)) × Unit)
abbrev i_accountOf_T : Ty := .pair (Outs.ty i_accountOf_outs) (mutsTy i_accountOf_ps)
noncomputable def i_accountOf_env : Env := { tab := i_accountOf_tab, fns := [(73, Try.f73)], sigs := [] }
def i_accountOf_anns : List Ann := [⟨73, 2, [1, 2, 6], []⟩, ⟨73, 100021, [1, 2, 6, 21], []⟩]
inductive i_accountOf_H where
  | l0 (v0 : Int) (v1 : Int) (v2 : BookD)
  | l1 (v0 : Int) (v1 : Int) (v2 : Bool) (v3 : BookD)
noncomputable def i_accountOf_cfg : i_accountOf_H → Cfg
  | .l0 v0 v1 v2 => { fr := { fn := 73, fb := 0, ss := sl 40 [(1, (.pv false (.int .u64) v0)), (2, (.bptr 0 [])), (6, (.pv false (.int .i64) v1))], todo := todoAt (bodyOf Try.f73) [false, false, true, true] [] }, cs := [], ob := ofList [.box tBook (.pv true tBook v2)] }
  | .l1 v0 v1 v2 v3 => { fr := { fn := 73, fb := 0, ss := sl 40 [(1, (.pv false (.int .u64) v0)), (2, (.bptr 0 [])), (6, (.pv false (.int .i64) v1)), (21, (.pv false .bool v2))], todo := cutAt (bodyOf Try.f73) [false, false, true, true, true, true, false] [] }, cs := [], ob := ofList [.box tBook (.pv true tBook v3)] }
def i_accountOf_body (rec : i_accountOf_H → Option i_accountOf_R) : i_accountOf_H → Option i_accountOf_R
  | .l0 v0 v1 v2 =>
    if (decide (v1 < (↑(List.length v2.fst) : Int))) = true then
      if (decide (0 ≤ v1)) = true then
        if (decide (v1 < (↑(List.length v2.fst) : Int))) = true then
          (rec (.l1 (v0) (v1) (decide ((List.getD v2.fst v1.toNat (0, 0, 0, 0, 0, ())).fst < v0)) (v2))).bind some
        else
          none
      else
        none
    else
      (rec (.l1 (v0) (v1) (Bool.false) (v2))).bind some
  | .l1 v0 v1 v2 v3 =>
    if (v2) = true then
      (rec (.l0 (v0) (IntKind.i64.wrap (v1 + 1)) (v3))).bind some
    else
      if (decide (v1 < (↑(List.length v3.fst) : Int))) = true then
        if (decide (0 ≤ v1)) = true then
          if (decide (v1 < (↑(List.length v3.fst) : Int))) = true then
            some ((v1, (List.getD v3.fst v1.toNat (0, 0, 0, 0, 0, ())).fst == v0, ()), ())
          else
            none
        else
          none
      else
        some ((v1, false, ()), ())
def i_accountOf_start (rec : i_accountOf_H → Option i_accountOf_R) (x0 : BookD) (x1 : Int) : Option i_accountOf_R :=
  (rec (.l0 (x1) (0) (x0))).bind some
def i_accountOf_go : Nat → i_accountOf_H → Option i_accountOf_R
  | 0, _ => none
  | k + 1, h => i_accountOf_body (i_accountOf_go k) h
def i_accountOf_k (k : Nat) (x0 : BookD) (x1 : Int) : Option i_accountOf_R := i_accountOf_start (i_accountOf_go k) x0 x1
def i_accountOf_fn (x0 : BookD) (x1 : Int) : Option i_accountOf_R := i_accountOf_k (10000000) x0 x1
noncomputable def i_accountOf_sig : Sig := { ps := i_accountOf_ps, outs := i_accountOf_outs, fn := fun x => i_accountOf_fn (x.1) (x.2.1) }
theorem i_accountOf_l0_t (rec : Cfg → Option i_accountOf_R) (v0 : Int) (v1 : Int) (v2 : BookD) : Tr.k (ev i_accountOf_env i_accountOf_anns i_accountOf_sig rec 20000 (i_accountOf_cfg (.l0 v0 v1 v2))) some = (br (decide (v1 < (↑(List.length v2.fst) : Int))) (br (decide (0 ≤ v1)) (br (decide (v1 < (↑(List.length v2.fst) : Int))) ((rec (i_accountOf_cfg (.l1 (v0) (v1) (decide ((List.getD v2.fst v1.toNat (0, 0, 0, 0, 0, ())).fst < v0)) (v2)))).bind some) (none)) (none)) ((rec (i_accountOf_cfg (.l1 (v0) (v1) (Bool.false) (v2)))).bind some) : Option i_accountOf_R) := by kernel_rfl
theorem i_accountOf_l0 (rec : Cfg → Option i_accountOf_sig.R.D) (v0 : Int) (v1 : Int) (v2 : BookD) : (ev i_accountOf_env i_accountOf_anns i_accountOf_sig rec 20000 (i_accountOf_cfg (.l0 v0 v1 v2))).run = i_accountOf_body (fun h => rec (i_accountOf_cfg h)) (.l0 v0 v1 v2) := (Tr.k_some _).trans ((i_accountOf_l0_t rec v0 v1 v2).trans (by first | rfl | (simp only [br_ite]; rfl)))
theorem i_accountOf_l1_t (rec : Cfg → Option i_accountOf_R) (v0 : Int) (v1 : Int) (v2 : Bool) (v3 : BookD) : Tr.k (ev i_accountOf_env i_accountOf_anns i_accountOf_sig rec 20000 (i_accountOf_cfg (.l1 v0 v1 v2 v3))) some = (br (v2) ((rec (i_accountOf_cfg (.l0 (v0) (IntKind.i64.wrap (v1 + 1)) (v3)))).bind some) (br (decide (v1 < (↑(List.length v3.fst) : Int))) (br (decide (0 ≤ v1)) (br (decide (v1 < (↑(List.length v3.fst) : Int))) (some ((v1, (List.getD v3.fst v1.toNat (0, 0, 0, 0, 0, ())).fst == v0, ()), ())) (none)) (none)) (some ((v1, false, ()), ()))) : Option i_accountOf_R) := by kernel_rfl
theorem i_accountOf_l1 (rec : Cfg → Option i_accountOf_sig.R.D) (v0 : Int) (v1 : Int) (v2 : Bool) (v3 : BookD) : (ev i_accountOf_env i_accountOf_anns i_accountOf_sig rec 20000 (i_accountOf_cfg (.l1 v0 v1 v2 v3))).run = i_accountOf_body (fun h => rec (i_accountOf_cfg h)) (.l1 v0 v1 v2 v3) := (Tr.k_some _).trans ((i_accountOf_l1_t rec v0 v1 v2 v3).trans (by first | rfl | (simp only [br_ite]; rfl)))
theorem i_accountOf_begin_t (rec : Cfg → Option i_accountOf_R) (x0 : BookD) (x1 : Int) : Tr.k (ev i_accountOf_env i_accountOf_anns i_accountOf_sig rec 20000 (entry i_accountOf_sig 73 Try.f73 (bodyOf Try.f73) (x0, x1, ()))) some = ((rec (i_accountOf_cfg (.l0 (x1) (0) (x0)))).bind some : Option i_accountOf_R) := by kernel_rfl
theorem i_accountOf_begin (rec : Cfg → Option i_accountOf_sig.R.D) (x0 : BookD) (x1 : Int) : (ev i_accountOf_env i_accountOf_anns i_accountOf_sig rec 20000 (entry i_accountOf_sig 73 Try.f73 (bodyOf Try.f73) (x0, x1, ()))).run = i_accountOf_start (fun h => rec (i_accountOf_cfg h)) x0 x1 := (Tr.k_some _).trans ((i_accountOf_begin_t rec x0 x1).trans (by first | rfl | (simp only [br_ite]; rfl)))
theorem i_accountOf_tab_ok : i_accountOf_tab.ok Try.prog = true := by decide +kernel
theorem i_accountOf_env_ok : (i_accountOf_env).Ok Try.prog where
  mixed := by decide +kernel
  tab := i_accountOf_tab_ok
  fns := by
    intro p hp
    simp only [i_accountOf_env, List.mem_cons, List.not_mem_nil, or_false] at hp
    subst hp
    · exact ⟨Try.func73, by decide +kernel⟩
  sigs := by
    intro p hp
    simp only [i_accountOf_env, List.mem_cons, List.not_mem_nil, or_false] at hp
  exts := by
    intro p hp
    simp only [i_accountOf_env, List.mem_cons, List.not_mem_nil, or_false] at hp
theorem i_accountOf_run (k : Nat) (h : i_accountOf_H) : Om i_accountOf_env i_accountOf_anns i_accountOf_sig 20000 k (i_accountOf_cfg h) = i_accountOf_go k h :=
  Om_go (sg := i_accountOf_sig) (cfg := i_accountOf_cfg) (body := i_accountOf_body) (go := i_accountOf_go) (fun _ => rfl) (fun _ _ => rfl) (fun rec h => by
  cases h with
  | l0 v0 v1 v2 => exact i_accountOf_l0 rec v0 v1 v2
  | l1 v0 v1 v2 v3 => exact i_accountOf_l1 rec v0 v1 v2 v3) k h
theorem i_accountOf_meets : Meets Try.prog 73 i_accountOf_sig := by
  refine meets (anns := i_accountOf_anns) (N := 20000) i_accountOf_env_ok Try.func73 (body := bodyOf Try.f73) (by rfl) ?_
  rintro ⟨x0, x1, ⟨⟩⟩ r hr
  refine ⟨10000000, ?_⟩
  show (ev i_accountOf_env i_accountOf_anns i_accountOf_sig (Om i_accountOf_env i_accountOf_anns i_accountOf_sig 20000 (10000000)) 20000 (entry i_accountOf_sig 73 Try.f73 (bodyOf Try.f73) (x0, x1, ()))).run = some r
  rw [i_accountOf_begin]
  have e : (fun h => Om i_accountOf_env i_accountOf_anns i_accountOf_sig 20000 (10000000) (i_accountOf_cfg h)) = i_accountOf_go (10000000) := funext fun h => i_accountOf_run _ h
  rw [e]
  exact hr
end Go.Proofs.Ytmggpiijahiaiaa.Ev
/- The plain law of the books: which books are right, where an account is. -/
namespace Go.Proofs.Ytmggpiijahiaiaa.Ev
open Go Go.IntWalk
set_option linter.unusedVariables false
set_option linter.unusedSimpArgs false

abbrev zA : AccountD := (0, 0, 0, 0, 0, ())
/-- The numbers of an account are of their kinds. -/
def acctR (a : AccountD) : Prop := u64r a.1 ∧ u64r a.2.1 ∧ u64r a.2.2.1 ∧ u64r a.2.2.2.1 ∧ i64r a.2.2.2.2.1
def bookR (l : List AccountD) : Prop := ∀ a ∈ l, acctR a
def okA (a : AccountD) : Bool := decide (a.2.1 + a.2.2.1 + a.2.2.2.1 ≤ 18446744073709551615 ∧ 0 ≤ a.2.2.2.2.1 ∧ (a.2.2.2.2.1 = 0 → a.2.2.1 = 0 ∧ a.2.2.2.1 = 0))
def okFrom : Int → List AccountD → Bool
  | _, [] => true
  | p, a :: r => okA a && decide (p < a.1) && okFrom a.1 r
def okBook (l : List AccountD) : Bool := okFrom (-1) l && decide (l.length ≤ 40)

theorem bookR_at {l : List AccountD} (h : bookR l) {i : Nat} (hi : i < l.length) : acctR (l.getD i zA) := by
  rw [List.getD_eq_getElem?_getD, List.getElem?_eq_getElem hi]
  exact h _ (List.getElem_mem hi)
/-- The account ahead of a place. -/
def prevOf (l : List AccountD) (i : Nat) : Int := if i = 0 then -1 else (l.getD (i - 1) zA).1
theorem prevOf_succ (l : List AccountD) (i : Nat) : prevOf l (i + 1) = (l.getD i zA).1 := by simp [prevOf]
theorem addCarry {b h d : Int} (hb : u64r b) (hh : u64r h) (hd : u64r d) :
    (IntKind.u64.wrap (((b.toNat + h.toNat + Int.toNat 0) / 18446744073709551616 : Nat) + (((IntKind.u64.wrap (b + h)).toNat + d.toNat + Int.toNat 0) / 18446744073709551616 : Nat)) > 0) ↔ ¬ (b + h + d ≤ 18446744073709551615) := by
  unfold u64r at hb hh hd
  rw [IntKind.wrap_u64, IntKind.wrap_u64]
  omega
theorem isBook_go {l : List AccountD} (hl : l.length ≤ 1048576) (hr : bookR l) : ∀ (n k i : Nat), 2 * n < k → i + n = l.length → i_isBook_go k (.l0 l l.length i (l, ())) = some (okFrom (prevOf l i) (l.drop i) && decide (l.length ≤ 40), ()) := by
  intro n
  induction n with
  | zero =>
    intro k i hk hi
    obtain ⟨k, rfl⟩ : ∃ k', k = k' + 1 := ⟨k - 1, by omega⟩
    have c : ¬ ((i : Int) < (l.length : Int)) := by omega
    simp only [i_isBook_go, i_isBook_body, c, decide_false, Bool.false_eq_true, if_false]
    rw [List.drop_of_length_le (by omega)]
    simp only [okFrom, Bool.true_and]
    congr 3
    simp
    omega
  | succ n ih =>
    intro k i hk hi
    obtain ⟨k, rfl⟩ : ∃ k', k = k' + 2 := ⟨k - 2, by omega⟩
    have c : (i : Int) < (l.length : Int) := by omega
    have c0 : (0 : Int) ≤ (i : Int) := by omega
    have e := ih k (i + 1) (by omega) (by omega)
    have ha := bookR_at hr (i := i) (by omega)
    rw [prevOf_succ] at e
    rw [dropG (l := l) (i := i) (by omega) zA, okFrom]
    have hprev : 0 < i → IntKind.i64.wrap ((i : Int) - 1) = ((i - 1 : Nat) : Int) := fun h => by rw [i64_in _ (by omega)]; omega
    obtain ⟨⟨a1, a2, a3, a4, a5, _⟩, hp⟩ : ∃ p, l.getD i (0, 0, 0, 0, 0, ()) = p := ⟨_, rfl⟩
    have hp' : l.getD i zA = (a1, a2, a3, a4, a5, ()) := hp
    rw [hp'] at ha e
    obtain ⟨h1, h2, h3, h4, h5⟩ := ha
    dsimp only at h1 h2 h3 h4 h5
    have key := addCarry h2 h3 h4
    simp only [i_isBook_go, i_isBook_body, c, c0, decide_true, if_true, Option.bind_some, Int.toNat_natCast, wrapS (i := i) (n := l.length) (by omega) (by omega), bindSome, e, hp, hp', key, okA, decide_eq_true_eq, bne_iff_ne, ne_eq, beq_iff_eq]
    by_cases g1 : a2 + a3 + a4 ≤ 18446744073709551615
    case neg => simp [g1]
    by_cases g2 : a5 < 0
    · have : ¬ 0 ≤ a5 := by omega
      simp [g1, g2, this]
    have g2' : 0 ≤ a5 := by omega
    by_cases hi0 : i = 0
    · subst hi0
      have q0 : ¬ (((0 : Nat) : Int) > 0) := by omega
      have q1 : -1 < a1 := by have := h1.1; omega
      simp only [g1, g2, g2', q0, prevOf, q1, decide_true, decide_false, if_true, if_false, Bool.false_eq_true, not_true, true_and, Bool.and_true]
      by_cases g3 : a5 = 0
      · by_cases g4 : a3 = 0
        · by_cases g5 : a4 = 0 <;> simp [g3, g4, g5]
        · simp [g3, g4]
      · simp [g3]
    · have q0 : (i : Int) > 0 := by omega
      have q1 : (0 : Int) ≤ ((i - 1 : Nat) : Int) := by omega
      have q2 : ((i - 1 : Nat) : Int) < (l.length : Int) := by omega
      obtain ⟨p, hq⟩ : ∃ p, l.getD (i - 1) (0, 0, 0, 0, 0, ()) = p := ⟨_, rfl⟩
      have hq' : l.getD (i - 1) zA = p := hq
      simp only [g1, g2, g2', q0, prevOf, hi0, hprev (by omega), q1, q2, hq, hq', Int.toNat_natCast, decide_true, decide_false, if_true, if_false, Bool.false_eq_true, not_true, true_and, Bool.and_true]
      have hge : (p.1 ≥ a1) = ¬ (p.1 < a1) := by simp
      by_cases g3 : a5 = 0
      · by_cases g4 : a3 = 0
        · by_cases g5 : a4 = 0
          · by_cases g6 : p.1 < a1 <;> simp [g3, g4, g5, g6, hge]
          · simp [g3, g4, g5]
        · simp [g3, g4]
      · by_cases g6 : p.1 < a1 <;> simp [g3, g6, hge]
theorem isBook_ok {l : List AccountD} (hl : l.length ≤ 1048576) (hr : bookR l) : i_isBook_fn (l, ()) = some (okBook l, ()) := by
  unfold i_isBook_fn i_isBook_k i_isBook_start
  rw [bindSome]
  exact isBook_go hl hr l.length _ 0 (by omega) (by omega)
theorem subMax {b h d : Int} (hb : u64r b) (hh : u64r h) (hd : u64r d) : (h > IntKind.u64.wrap (18446744073709551615 - b)) ↔ ¬ (b + h ≤ 18446744073709551615) := by
  unfold u64r at hb hh hd
  rw [IntKind.wrap_u64]
  omega
theorem subMax2 {b h d : Int} (hb : u64r b) (hh : u64r h) (hd : u64r d) (hs : b + h ≤ 18446744073709551615) : (d > IntKind.u64.wrap (IntKind.u64.wrap (18446744073709551615 - b) - h)) ↔ ¬ (b + h + d ≤ 18446744073709551615) := by
  unfold u64r at hb hh hd
  rw [IntKind.wrap_u64, IntKind.wrap_u64]
  omega
theorem sBookOk_go {l : List AccountD} (hl : l.length ≤ 40) (hr : bookR l) : ∀ (n k i : Nat), 3 * n < k → i + n = l.length → s_BookOk_go k (.l0 i (l, ())) = some (okFrom (prevOf l i) (l.drop i), ()) := by
  intro n
  induction n with
  | zero =>
    intro k i hk hi
    obtain ⟨k, rfl⟩ : ∃ k', k = k' + 1 := ⟨k - 1, by omega⟩
    have c : ¬ ((i : Int) < (l.length : Int)) := by omega
    simp only [s_BookOk_go, s_BookOk_body, c, decide_false, Bool.false_eq_true, if_false]
    rw [List.drop_of_length_le (by omega)]
    rfl
  | succ n ih =>
    intro k i hk hi
    obtain ⟨k, rfl⟩ : ∃ k', k = k' + 3 := ⟨k - 3, by omega⟩
    have c : (i : Int) < (l.length : Int) := by omega
    have c0 : (0 : Int) ≤ (i : Int) := by omega
    have e := ih k (i + 1) (by omega) (by omega)
    have ha := bookR_at hr (i := i) (by omega)
    rw [prevOf_succ] at e
    rw [dropG (l := l) (i := i) (by omega) zA, okFrom]
    have hprev : 0 < i → IntKind.i64.wrap ((i : Int) - 1) = ((i - 1 : Nat) : Int) := fun h => by rw [i64_in _ (by omega)]; omega
    obtain ⟨⟨a1, a2, a3, a4, a5, _⟩, hp⟩ : ∃ p, l.getD i (0, 0, 0, 0, 0, ()) = p := ⟨_, rfl⟩
    have hp' : l.getD i zA = (a1, a2, a3, a4, a5, ()) := hp
    rw [hp'] at ha e
    obtain ⟨h1, h2, h3, h4, h5⟩ := ha
    dsimp only at h1 h2 h3 h4 h5
    have key := subMax h2 h3 h4
    have key2 := subMax2 h2 h3 h4
    simp only [s_BookOk_go, s_BookOk_body, c, c0, decide_true, if_true, Option.bind_some, Int.toNat_natCast, wrapS (i := i) (n := l.length) (by omega) (by omega), bindSome, e, hp, hp', key, okA, decide_eq_true_eq, bne_iff_ne, ne_eq, beq_iff_eq]
    have tail : ∀ (X : Bool), (if ¬ (a2 + a3 ≤ 18446744073709551615) then some (false, ()) else if a4 > IntKind.u64.wrap (IntKind.u64.wrap (18446744073709551615 - a2) - a3) then some (false, ()) else some (X, ())) = some (decide (a2 + a3 + a4 ≤ 18446744073709551615) && X, ()) := by
      intro X
      by_cases g : a2 + a3 ≤ 18446744073709551615
      · rw [if_neg (by simpa using g)]
        have := key2 g
        by_cases g2 : a2 + a3 + a4 ≤ 18446744073709551615
        · rw [if_neg (by rw [this]; simpa using g2)]; simp [g2]
        · rw [if_pos (by rw [this]; exact g2)]; simp [g2]
      · have g2 : ¬ (a2 + a3 + a4 ≤ 18446744073709551615) := by have := h4.1; omega
        rw [if_pos g]; simp [g2]
    have tail' : ∀ (X : Bool), (if ¬ (a2 + a3 ≤ 18446744073709551615) then some (false, ()) else if decide (a4 > IntKind.u64.wrap (IntKind.u64.wrap (18446744073709551615 - a2) - a3)) = true then some (false, ()) else some (X, ())) = some (decide (a2 + a3 + a4 ≤ 18446744073709551615) && X, ()) := fun X => by simpa using tail X
    by_cases hi0 : i = 0
    · subst hi0
      have q0 : ¬ (((0 : Nat) : Int) > 0) := by omega
      have q1 : -1 < a1 := by have := h1.1; omega
      by_cases g2 : a5 < 0
      · have : ¬ 0 ≤ a5 := by omega
        simp [g2, this]
      have g2' : 0 ≤ a5 := by omega
      by_cases g3 : a5 = 0
      · by_cases g4 : a3 = 0
        · by_cases g5 : a4 = 0
          · have := tail (okFrom a1 (List.drop (0 + 1) l))
            simp only [g4, g5] at this
            simp [g3, g4, g5, prevOf, q1] at this ⊢
            exact this
          · simp [g3, g4, g5, prevOf, q1]
        · simp [g3, g4, prevOf, q1]
      · have := tail (okFrom a1 (List.drop (0 + 1) l))
        simp [g2, g2', g3, prevOf, q1] at this ⊢
        exact this
    · have q0 : (i : Int) > 0 := by omega
      have q1 : (0 : Int) ≤ ((i - 1 : Nat) : Int) := by omega
      have q2 : ((i - 1 : Nat) : Int) < (l.length : Int) := by omega
      obtain ⟨p, hq⟩ : ∃ p, l.getD (i - 1) (0, 0, 0, 0, 0, ()) = p := ⟨_, rfl⟩
      have hq' : l.getD (i - 1) zA = p := hq
      have hge : (p.1 ≥ a1) = ¬ (p.1 < a1) := by simp
      simp only [q0, prevOf, hi0, hprev (by omega), q1, q2, hq, hq', Int.toNat_natCast, decide_true, decide_false, if_true, if_false, Bool.false_eq_true, hge]
      by_cases g6 : p.1 < a1
      case neg => simp [g6]
      by_cases g2 : a5 < 0
      · have : ¬ 0 ≤ a5 := by omega
        simp [g2, g6, this]
      have g2' : 0 ≤ a5 := by omega
      by_cases g3 : a5 = 0
      · by_cases g4 : a3 = 0
        · by_cases g5 : a4 = 0
          · have := tail (okFrom a1 (List.drop (i + 1) l))
            simp only [g4, g5] at this
            simp [g3, g4, g5, g6] at this ⊢
            exact this
          · simp [g3, g4, g5, g6]
        · simp [g3, g4, g6]
      · have := tail (okFrom a1 (List.drop (i + 1) l))
        simp [g2, g2', g3, g6] at this ⊢
        exact this
theorem sBookOk_ok {l : List AccountD} (hl : l.length ≤ 1048576) (hr : bookR l) : s_BookOk_fn (l, ()) = some (okBook l, ()) := by
  unfold s_BookOk_fn s_BookOk_k s_BookOk_start okBook
  by_cases h : l.length ≤ 40
  · have c : ¬ ((l.length : Int) > 40) := by omega
    simp only [c, decide_false, Bool.false_eq_true, if_false, bindSome, h, decide_true, Bool.and_true]
    exact sBookOk_go h hr l.length _ 0 (by omega) (by omega)
  · have c : (l.length : Int) > 40 := by omega
    simp [c, h]
end Go.Proofs.Ytmggpiijahiaiaa.Ev
/- The plain law of the books: copies, where an account is, a book with an account turned. -/
namespace Go.Proofs.Ytmggpiijahiaiaa.Ev
open Go Go.IntWalk
set_option linter.unusedVariables false
set_option linter.unusedSimpArgs false

theorem copyBook_ok {l : List AccountD} (hl : l.length ≤ 1048576) : i_copyBook_fn (l, ()) = some ((l, ()), ()) := by
  unfold i_copyBook_fn i_copyBook_k i_copyBook_start
  have c1 : ((List.replicate 0 zA).length + l.length) * 40 ≤ 140737488355328 := by simp; omega
  have c2 : (List.replicate 0 zA).length + l.length ≤ 9223372036854775807 := by simp; omega
  rw [if_pos (by exact decide_eq_true c1), if_pos (by exact decide_eq_true c2)]
  rfl
theorem sCopy_go {l : List AccountD} (hl : l.length ≤ 1048576) : ∀ (n k i : Nat) (v : List AccountD), n < k → i + n = l.length → v.length = i → s_l10Copy_go k (.l1 i (l, ()) v) = some ((v ++ l.drop i, ()), ()) := by
  intro n
  induction n with
  | zero =>
    intro k i v hk hi hv
    obtain ⟨k, rfl⟩ : ∃ k', k = k' + 1 := ⟨k - 1, by omega⟩
    have c : ¬ ((i : Int) < (l.length : Int)) := by omega
    simp only [s_l10Copy_go, s_l10Copy_body, c, decide_false, Bool.false_eq_true, if_false]
    rw [List.drop_of_length_le (by omega), List.append_nil]
  | succ n ih =>
    intro k i v hk hi hv
    obtain ⟨k, rfl⟩ : ∃ k', k = k' + 1 := ⟨k - 1, by omega⟩
    have c : (i : Int) < (l.length : Int) := by omega
    have c0 : (0 : Int) ≤ (i : Int) := by omega
    have b1 : (v.length + 1) * 40 ≤ 140737488355328 := by omega
    have b2 : v.length + 1 ≤ 9223372036854775807 := by omega
    have e := ih k (i + 1) (v ++ [l.getD i zA]) (by omega) (by omega) (by simp [hv])
    simp only [s_l10Copy_go, s_l10Copy_body, c, c0, decide_true, if_true, Int.toNat_natCast, wrapS (i := i) (n := l.length) (by omega) (by omega), bindSome, one_set, List.length_singleton, b1, b2, e]
    rw [dropG (l := l) (i := i) (by omega) zA, List.append_assoc]
    rfl
theorem sCopy_ok {l : List AccountD} (hl : l.length ≤ 1048576) : s_l10Copy_fn (l, ()) = some ((l, ()), ()) := by
  unfold s_l10Copy_fn s_l10Copy_k s_l10Copy_start
  rw [bindSome]
  cases l with
  | nil => rfl
  | cons a r =>
    have c : (0 : Int) < ((a :: r).length : Int) := by simp
    obtain ⟨k, hk, hk2⟩ : ∃ k, (10000000 : Nat) = k + 1 ∧ 9999999 ≤ k := ⟨9999999, rfl, Nat.le_refl _⟩
    have e := sCopy_go hl r.length k 1 [a] (by simp at hl; omega) (by simp; omega) rfl
    rw [hk]
    simp only [s_l10Copy_go, s_l10Copy_body, c, decide_true, if_true, Int.le_refl, one_set, bindSome]
    rw [show IntKind.i64.wrap ((0 : Int) + 1) = ((1 : Nat) : Int) by rw [i64_in _ (by omega)]; rfl]
    exact e

/-- Where an account is, or would be; and whether it is there. -/
def accPos (id : Int) : List AccountD → Nat
  | [] => 0
  | a :: r => if a.1 < id then accPos id r + 1 else 0
def accIn (id : Int) : List AccountD → Bool
  | [] => false
  | a :: r => if a.1 < id then accIn id r else decide (a.1 = id)
theorem accountOf_go {l : List AccountD} {id : Int} (hl : l.length ≤ 1048576) : ∀ (n k i : Nat), 2 * n + 1 < k → i + n = l.length → i_accountOf_go k (.l0 id i (l, ())) = some ((((i + accPos id (l.drop i) : Nat) : Int), accIn id (l.drop i), ()), ()) := by
  intro n
  induction n with
  | zero =>
    intro k i hk hi
    obtain ⟨k, rfl⟩ : ∃ k', k = k' + 2 := ⟨k - 2, by omega⟩
    have c : ¬ ((i : Int) < (l.length : Int)) := by omega
    simp only [i_accountOf_go, i_accountOf_body, c, decide_false, Bool.false_eq_true, if_false, bindSome]
    rw [List.drop_of_length_le (by omega)]
    rfl
  | succ n ih =>
    intro k i hk hi
    obtain ⟨k, rfl⟩ : ∃ k', k = k' + 2 := ⟨k - 2, by omega⟩
    have c : (i : Int) < (l.length : Int) := by omega
    have c0 : (0 : Int) ≤ (i : Int) := by omega
    have e := ih k (i + 1) (by omega) (by omega)
    obtain ⟨p, hp⟩ : ∃ p, l.getD i (0, 0, 0, 0, 0, ()) = p := ⟨_, rfl⟩
    have hp' : l.getD i zA = p := hp
    simp only [i_accountOf_go, i_accountOf_body, c, c0, decide_true, if_true, Int.toNat_natCast, wrapS (i := i) (n := l.length) (by omega) (by omega), bindSome, e, hp, decide_eq_true_eq]
    rw [dropG (l := l) (i := i) (by omega) zA, hp']
    simp only [accPos, accIn]
    by_cases h : p.1 < id
    · simp only [h, if_true]
      congr 3
      omega
    · simp only [h, if_false, Nat.add_zero]
      by_cases h2 : p.1 = id <;> simp [h2]
theorem accountOf_ok {l : List AccountD} (hl : l.length ≤ 1048576) (id : Int) : i_accountOf_fn (l, ()) id = some (((accPos id l : Int), accIn id l, ()), ()) := by
  unfold i_accountOf_fn i_accountOf_k i_accountOf_start
  rw [bindSome]
  have := accountOf_go (id := id) hl l.length 10000000 0 (by omega) (by omega)
  simpa using this
def findI (id : Int) : Int → List AccountD → Int
  | _, [] => -1
  | i, a :: r => if a.1 = id then i else findI id (i + 1) r
theorem find_go {l : List AccountD} {id : Int} (hl : l.length ≤ 1048576) : ∀ (n k i : Nat), n < k → i + n = l.length → s_l10Find_go k (.l0 id i (l, ())) = some (findI id i (l.drop i), ()) := by
  intro n
  induction n with
  | zero =>
    intro k i hk hi
    obtain ⟨k, rfl⟩ : ∃ k', k = k' + 1 := ⟨k - 1, by omega⟩
    have c : ¬ ((i : Int) < (l.length : Int)) := by omega
    simp only [s_l10Find_go, s_l10Find_body, c, decide_false, Bool.false_eq_true, if_false]
    rw [List.drop_of_length_le (by omega)]
    rfl
  | succ n ih =>
    intro k i hk hi
    obtain ⟨k, rfl⟩ : ∃ k', k = k' + 1 := ⟨k - 1, by omega⟩
    have c : (i : Int) < (l.length : Int) := by omega
    have c0 : (0 : Int) ≤ (i : Int) := by omega
    have e := ih k (i + 1) (by omega) (by omega)
    obtain ⟨p, hp⟩ : ∃ p, l.getD i (0, 0, 0, 0, 0, ()) = p := ⟨_, rfl⟩
    have hp' : l.getD i zA = p := hp
    simp only [s_l10Find_go, s_l10Find_body, c, c0, decide_true, if_true, Int.toNat_natCast, wrapS (i := i) (n := l.length) (by omega) (by omega), bindSome, e, hp, beq_iff_eq]
    rw [dropG (l := l) (i := i) (by omega) zA, hp']
    simp only [findI]
    by_cases h : p.1 = id
    · rw [if_pos h, if_pos h]
    · rw [if_neg h, if_neg h]; rfl
/-- The ids rise. -/
def ordF : Int → List AccountD → Prop
  | _, [] => True
  | p, a :: r => p < a.1 ∧ ordF a.1 r
theorem ok_ord : ∀ {p : Int} {l : List AccountD}, okFrom p l = true → ordF p l := by
  intro p l
  induction l generalizing p with
  | nil => intro _; trivial
  | cons a r ih =>
    intro h
    simp only [okFrom, Bool.and_eq_true, decide_eq_true_eq] at h
    exact ⟨h.1.2, ih h.2⟩
theorem ord_of_ok {l : List AccountD} (h : okBook l = true) : ordF (-1) l := by
  unfold okBook at h
  rw [Bool.and_eq_true] at h
  exact ok_ord h.1
theorem find_none {id : Int} : ∀ {p i : Int} {l : List AccountD}, ordF p l → id ≤ p → findI id i l = -1 := by
  intro p i l
  induction l generalizing p i with
  | nil => intro _ _; rfl
  | cons a r ih =>
    intro h hp
    have h1 := h.1
    simp only [findI]
    rw [if_neg (by omega)]
    exact ih h.2 (by omega)
theorem find_pos {id : Int} : ∀ {p i : Int} {l : List AccountD}, ordF p l → findI id i l = if accIn id l = true then i + (accPos id l : Int) else -1 := by
  intro p i l
  induction l generalizing p i with
  | nil => intro _; rfl
  | cons a r ih =>
    intro h
    have h1 := h.1
    by_cases c : a.1 < id
    · have e1 : accIn id (a :: r) = accIn id r := by simp only [accIn, c, if_true]
      have e2 : accPos id (a :: r) = accPos id r + 1 := by simp only [accPos, c, if_true]
      have e3 : findI id i (a :: r) = findI id (i + 1) r := by simp only [findI]; rw [if_neg (by omega)]
      rw [e3, ih h.2]
      simp only [e1, e2]
      split
      · omega
      · rfl
    · have e1 : accIn id (a :: r) = decide (a.1 = id) := by simp only [accIn, c, if_false]
      have e2 : accPos id (a :: r) = 0 := by simp only [accPos, c, if_false]
      by_cases e : a.1 = id
      · have e3 : findI id i (a :: r) = i := by simp only [findI]; rw [if_pos e]
        simp [e1, e2, e3, e]
      · have e3 : findI id i (a :: r) = findI id (i + 1) r := by simp only [findI]; rw [if_neg e]
        rw [e3, find_none h.2 (by omega)]
        simp [e1, e]
theorem find_ok {l : List AccountD} (hl : l.length ≤ 1048576) {p : Int} (ho : ordF p l) (id : Int) : s_l10Find_fn (l, ()) id = some (if accIn id l = true then (accPos id l : Int) else -1, ()) := by
  unfold s_l10Find_fn s_l10Find_k s_l10Find_start
  rw [bindSome, show (0 : Int) = ((0 : Nat) : Int) from rfl, find_go (id := id) hl l.length 10000000 0 (by omega) (by omega), List.drop_zero, find_pos ho]
  congr 2
  split <;> omega
theorem pos_le (id : Int) : ∀ (l : List AccountD), accPos id l ≤ l.length := by
  intro l
  induction l with
  | nil => exact Nat.le_refl _
  | cons a r ih => simp only [accPos]; split <;> simp <;> omega
theorem pos_lt {id : Int} : ∀ {l : List AccountD}, accIn id l = true → accPos id l < l.length := by
  intro l
  induction l with
  | nil => intro h; exact absurd h (by simp [accIn])
  | cons a r ih =>
    intro h
    simp only [accIn] at h
    simp only [accPos]
    split
    · rename_i c; rw [if_pos c] at h; have := ih h; simp; omega
    · simp
theorem pos_id {id : Int} : ∀ {l : List AccountD}, accIn id l = true → (l.getD (accPos id l) zA).1 = id := by
  intro l
  induction l with
  | nil => intro h; exact absurd h (by simp [accIn])
  | cons a r ih =>
    intro h
    simp only [accIn] at h
    simp only [accPos]
    by_cases c : a.1 < id
    · rw [if_pos c] at h ⊢; rw [List.getD_cons_succ]; exact ih h
    · rw [if_neg c] at h ⊢; rw [List.getD_cons_zero]; exact of_decide_eq_true h

/-- A book with an account in the place of the one of its id. -/
def withA (a : AccountD) (x : AccountD) : AccountD := if x.1 = a.1 then a else x
theorem with_go {a : AccountD} : ∀ (n k i : Nat) (v : List AccountD), v.length ≤ 1048576 → n < k → i + n = v.length → s_l10With_go k (.l0 i a v) = some ((v.take i ++ (v.drop i).map (withA a), ()), ()) := by
  intro n
  induction n with
  | zero =>
    intro k i v hv hk hi
    obtain ⟨k, rfl⟩ : ∃ k', k = k' + 1 := ⟨k - 1, by omega⟩
    have c : ¬ ((i : Int) < (v.length : Int)) := by omega
    simp only [s_l10With_go, s_l10With_body, c, decide_false, Bool.false_eq_true, if_false]
    rw [List.take_of_length_le (by omega), List.drop_of_length_le (by omega), List.map_nil, List.append_nil]
  | succ n ih =>
    intro k i v hv hk hi
    obtain ⟨k, rfl⟩ : ∃ k', k = k' + 1 := ⟨k - 1, by omega⟩
    have c : (i : Int) < (v.length : Int) := by omega
    have c0 : (0 : Int) ≤ (i : Int) := by omega
    obtain ⟨p, hp⟩ : ∃ p, v.getD i (0, 0, 0, 0, 0, ()) = p := ⟨_, rfl⟩
    have hp' : v.getD i zA = p := hp
    simp only [s_l10With_go, s_l10With_body, c, c0, decide_true, if_true, Int.toNat_natCast, wrapS (i := i) (n := v.length) (by omega) (by omega), bindSome, hp, beq_iff_eq]
    rw [dropG (l := v) (i := i) (by omega) zA, hp', List.map_cons]
    by_cases h : p.1 = a.1
    · rw [if_pos h, ih k (i + 1) (v.set i a) (by simpa using hv) (by omega) (by simp; omega)]
      congr 3
      rw [List.take_set, takeG (by omega) zA, List.drop_set_of_lt (by omega), List.set_append_right _ _ (by simp; omega)]
      have e : i - (v.take i).length = 0 := by simp; omega
      rw [e, List.set_cons_zero, List.append_assoc]
      simp [withA, h]
    · rw [if_neg h, ih k (i + 1) v hv (by omega) (by omega)]
      congr 3
      rw [takeG (by omega) zA, hp', List.append_assoc]
      simp [withA, h]
theorem with_ok {l : List AccountD} (hl : l.length ≤ 1048576) (a : AccountD) : s_l10With_fn (l, ()) a = some ((l.map (withA a), ()), ()) := by
  unfold s_l10With_fn s_l10With_k s_l10With_start
  rw [sCopy_ok hl, Option.bind_some, bindSome, show (0 : Int) = ((0 : Nat) : Int) from rfl, with_go l.length _ 0 l hl (by omega) (by omega)]
  simp
theorem with_none {a : AccountD} : ∀ {p : Int} {l : List AccountD}, ordF p l → a.1 ≤ p → l.map (withA a) = l := by
  intro p l
  induction l generalizing p with
  | nil => intro _ _; rfl
  | cons x r ih =>
    intro h hp
    have h1 := h.1
    rw [List.map_cons, ih h.2 (by omega), withA, if_neg (by omega)]
theorem with_set {a : AccountD} : ∀ {p : Int} {l : List AccountD}, ordF p l → accIn a.1 l = true → l.map (withA a) = l.set (accPos a.1 l) a := by
  intro p l
  induction l generalizing p with
  | nil => intro _ h; exact absurd h (by simp [accIn])
  | cons x r ih =>
    intro h ht
    have h1 := h.1
    simp only [accIn] at ht
    simp only [accPos]
    by_cases c : x.1 < a.1
    · rw [if_pos c] at ht ⊢
      rw [List.map_cons, ih h.2 ht, withA, if_neg (by omega), List.set_cons_succ]
    · rw [if_neg c] at ht ⊢
      have e := of_decide_eq_true ht
      rw [List.map_cons, with_none h.2 (by omega), withA, if_pos e, List.set_cons_zero]
theorem set_ord {a : AccountD} : ∀ {p : Int} {l : List AccountD} {i : Nat}, ordF p l → (l.getD i zA).1 = a.1 → ordF p (l.set i a) := by
  intro p l
  induction l generalizing p with
  | nil => intro i h _; exact h
  | cons x r ih =>
    intro i h e
    cases i with
    | zero =>
      rw [List.getD_cons_zero] at e
      rw [List.set_cons_zero]
      exact ⟨e ▸ h.1, e ▸ h.2⟩
    | succ i =>
      rw [List.getD_cons_succ] at e
      rw [List.set_cons_succ]
      exact ⟨h.1, ih h.2 e⟩
theorem set_there {a : AccountD} (id : Int) : ∀ {l : List AccountD} {i : Nat}, (l.getD i zA).1 = a.1 → accIn id (l.set i a) = accIn id l ∧ accPos id (l.set i a) = accPos id l := by
  intro l
  induction l with
  | nil => intro i _; exact ⟨rfl, rfl⟩
  | cons x r ih =>
    intro i e
    cases i with
    | zero =>
      rw [List.getD_cons_zero] at e
      rw [List.set_cons_zero]
      exact ⟨by simp only [accIn, e], by simp only [accPos, e]⟩
    | succ i =>
      rw [List.getD_cons_succ] at e
      rw [List.set_cons_succ]
      exact ⟨by simp only [accIn, (ih e).1], by simp only [accPos, (ih e).2]⟩
end Go.Proofs.Ytmggpiijahiaiaa.Ev
/- Laws of no program: copy and clear of elements of more than one cell; what setCells leaves. -/
namespace Go.Proofs.Ytmggpiijahiaiaa.Ev
open Go Go.Proofs
set_option linter.unusedVariables false
set_option linter.unusedSimpArgs false
section
variable {P : Program}
theorem run_copy_k (w : World) (dT sT ty elem : TypeId) (b o dLen dCap : Nat) (a : Addr) (sLen sCap : Nat) (cs : List Value) (sz : Nat)
    (hu : P.underlying dT = some (.slice elem)) (hs : (P.info? elem).map (·.size) = some sz) (hn : cs.length = Nat.min sLen dLen * sz)
    (hsrc : ∀ j v, cs[j]? = some v → w.cell? (a.add j) = some v) (hc : ∀ j, j < cs.length → (w.cell? ⟨b, o + j, none⟩).isSome = true) (hf : ∀ j, j < cs.length → w.frozen? ⟨b, o + j, none⟩ = false) (h1 : ∀ v ∈ cs, v.oneCell' = true) :
    (Builtin.copy_ #[dT, sT] ty #[.slice (some ⟨b, o, none⟩) dLen dCap, .slice (some a) sLen sCap]).run P w = .ok (goInt (Nat.min sLen dLen)) (w.setCells b o cs) := by
  have hl := run_loadCells_list (P := P) w a cs hsrc
  have hst := run_storeCells_cells (P := P) b o cs 0 w (by simpa using hc) (by simpa using hf) h1
  cases hq : P.info? elem with
  | none => simp [hq] at hs
  | some i =>
    have hi : i.size = sz := by simpa [hq] using hs
    simp [Builtin.copy_, run_underlying hu, Builtin.lenOf, Builtin.firstCells, sizeOf, typeInfo, hq, hi, ← hn, hl, hst]
theorem run_clear_k (w : World) (t e ty : TypeId) (z : Value) (ht : P.underlying t = some (.slice e)) (hv : ∀ w, (zeroValue e).run P w = .ok z w) (b o n c : Nat) (hn : 0 < n) (zs : List Value) (hz : (Builtin.zeroCells z.cells n).toList = zs) (h1 : ∀ v ∈ zs, v.oneCell' = true)
    (hc : ∀ j, j < zs.length → (w.cell? ⟨b, o + j, none⟩).isSome = true) (hf : ∀ j, j < zs.length → w.frozen? ⟨b, o + j, none⟩ = false) :
    (Builtin.clear_ #[t] ty #[.slice (some ⟨b, o, none⟩) n c]).run P w = .ok (.tuple #[]) (w.setCells b o zs) := by
  have hst := run_storeCells_cells (P := P) b o zs 0 w (by simpa using hc) (by simpa using hf) h1
  simp only [Nat.add_zero] at hst
  obtain ⟨m, rfl⟩ : ∃ m, n = m + 1 := ⟨n - 1, by omega⟩
  simp [Builtin.clear_, run_underlying ht, hv, hz, hst]
end
/-- A block of plain cells. -/
def Plain (w : World) (b N : Nat) : Prop := ∃ cs te, w.heap[b]? = some (.cells cs te (0, 0)) ∧ N ≤ cs.size
theorem Plain.cell {w : World} {b N : Nat} (h : Plain w b N) {j : Nat} (hj : j < N) : (w.cell? ⟨b, j, none⟩).isSome = true := by
  obtain ⟨cs, te, h1, h2⟩ := h
  simp only [World.cell?, h1]
  simp [Array.getElem?_eq_getElem (show j < cs.size by omega)]
theorem Plain.frozen {w : World} {b N : Nat} (h : Plain w b N) (j : Nat) : w.frozen? ⟨b, j, none⟩ = false := by
  obtain ⟨cs, te, h1, h2⟩ := h
  simp [World.frozen?, h1]
theorem Plain.drew {w : World} {b N : Nat} (h : Plain w b N) : Plain w.drew b N := h
theorem Plain.setCells {b N b' : Nat} : ∀ {vs : List Value} {o : Nat} {w : World}, Plain w b N → Plain (w.setCells b' o vs) b N
  | [], _, _, h => h
  | v :: r, o, w, h => by
    refine Plain.setCells (vs := r) ?_
    obtain ⟨cs, te, h1, h2⟩ := h
    unfold Plain
    simp only [World.setCell, Array.getElem?_modify]
    by_cases e : b' = b
    · subst e
      exact ⟨cs.setIfInBounds o v, te, by simp [h1], by simpa using h2⟩
    · exact ⟨cs, te, by simp [e, h1], h2⟩
theorem setCells_other {b b' : Nat} (hne : b' ≠ b) : ∀ (vs : List Value) (o : Nat) (w : World), (w.setCells b' o vs).heap[b]? = w.heap[b]?
  | [], _, _ => rfl
  | v :: r, o, w => by
    rw [World.setCells, setCells_other hne r]
    simp [World.setCell, Array.getElem?_modify, hne]
theorem setCells_rest (b : Nat) : ∀ (vs : List Value) (o : Nat) (w : World), (w.setCells b o vs).os = w.os ∧ (w.setCells b o vs).tape = w.tape ∧ (w.setCells b o vs).output = w.output ∧ (w.setCells b o vs).heap.size = w.heap.size
  | [], _, _ => ⟨rfl, rfl, rfl, rfl⟩
  | v :: r, o, w => by
    rw [World.setCells]
    obtain ⟨h1, h2, h3, h4⟩ := setCells_rest b r (o + 1) (w.setCell ⟨b, o, none⟩ v)
    exact ⟨h1, h2, h3, h4.trans (by simp)⟩
theorem keep_setCells {S : Bs} {w w0 : World} {b o : Nat} {vs : List Value} (h : Keep S w0 w) (hb : S b ∨ w0.heap.size ≤ b) : Keep S w0 (w.setCells b o vs) := by
  obtain ⟨h1, h2, h3, h4⟩ := setCells_rest b vs o w
  refine ⟨h1.trans h.os, h2.trans h.tape, h3.trans h.output, by rw [h4]; exact h.size, fun k hk hs => ?_⟩
  rw [setCells_other (fun e => ?_), h.block k hk hs]
  subst e
  rcases hb with hb | hb
  · exact hs hb
  · omega
theorem keep_drew {S : Bs} {w w0 : World} (h : Keep S w0 w) : Keep S w0 w.drew := ⟨h.os, h.tape, h.output, h.size, h.block⟩
theorem keep_alloc {S : Bs} {w w0 : World} {o : Obj} (h : Keep S w0 w) : Keep S w0 (w.alloc o) := by
  have h0 := h.size
  refine ⟨h.os, h.tape, h.output, by rw [World.size_alloc]; omega, fun k hk hs => ?_⟩
  rw [← h.block k hk hs]
  show (w.heap.push o)[k]? = _
  rw [Array.getElem?_push, if_neg (by omega)]
end Go.Proofs.Ytmggpiijahiaiaa.Ev
/- slices.Delete of accounts: what it leaves, cell by cell. -/
namespace Go.Proofs.Ytmggpiijahiaiaa.Ev
open Go Go.Proofs Go.Shelf Go.RowKit Go.Lib
set_option linter.unusedVariables false
set_option linter.unusedSimpArgs false
def accZ : Value := .agg #[.int .u64 0, .int .u64 0, .int .u64 0, .int .u64 0, .int .i64 0]
theorem acc_info : (Try.prog.info? 71).map (fun i => (i.zero, i.size, i.bytes)) = some (some accZ, 5, 40) := by kernel_rfl
theorem acc_row : Try.prog.underlying 47 = some (.slice 71) := by kernel_rfl
theorem acc_zero (w : World) : (zeroValue 71).run Try.prog w = .ok accZ w := by
  obtain ⟨i0, hi, hz0, hz1, hz2⟩ := info_parts acc_info
  simp [zeroValue, typeInfo, hi, hz0]
theorem accZ_one : ∀ n, ∀ v ∈ (Builtin.zeroCells accZ.cells n).toList, v.oneCell' = true := by
  intro n v hv
  simp only [Builtin.zeroCells, accZ, Value.cells, Array.mem_toList_iff, Array.mem_map] at hv
  obtain ⟨i, _, rfl⟩ := hv
  have : i % 5 < 5 := Nat.mod_lt _ (by omega)
  show (#[Value.int .u64 0, .int .u64 0, .int .u64 0, .int .u64 0, .int .i64 0][i % 5]!).oneCell' = true
  generalize i % 5 = k at this
  match k with
  | 0 => rfl
  | 1 => rfl
  | 2 => rfl
  | 3 => rfl
  | 4 => rfl
theorem accZ_len (n : Nat) : (Builtin.zeroCells accZ.cells n).toList.length = n * 5 := by
  simp [Builtin.zeroCells, accZ, Value.cells]

set_option maxHeartbeats 4000000 in
set_option maxRecDepth 1000000 in
theorem del_acc (b i j n c : Nat) (cs : List Value) (w : World) (hcs : ∀ t v, cs[t]? = some v → w.cell? ⟨b, t, none⟩ = some v) (hl : cs.length = n * 5) (h1 : ∀ v ∈ cs, v.oneCell' = true)
    (hP : Plain w b (c * 5)) (hcap : n ≤ c) (hlt : i < j) (hj : j ≤ n) :
    Calls Try.prog 96 #[.slice (some ⟨b, 0, none⟩) n c, .int .i64 i, .int .i64 j] w fun e w' => e = .returned (.slice (some ⟨b, 0, none⟩) (n - (j - i)) c) ∧ ∃ zs, zs.length = (j - i) * 5 ∧ w' = (w.drew.setCells b (i * 5) (cs.drop (j * 5))).setCells b ((i + (n - j)) * 5) zs := by
  obtain ⟨i0, hi0, hz0, hz1, hz2⟩ := info_parts acc_info
  obtain ⟨news, hnews⟩ : ∃ news, news = cs.drop (j * 5) := ⟨_, rfl⟩
  have hlen : news.length = (n - j) * 5 := by rw [hnews, List.length_drop, hl, Nat.sub_mul]
  obtain ⟨A, hA, hsrc⟩ : ∃ A : Addr, (if c = j then some (⟨b, 0, none⟩ : Addr) else some ⟨b, j * 5, none⟩) = some A ∧ Hid (∀ t u, news[t]? = some u → w.drew.cell? (A.add t) = some u) := by
    by_cases h : c = j
    · refine ⟨⟨b, 0, none⟩, by simp [h], fun t u hu => ?_⟩
      have h0 : news.length = 0 := by rw [hlen]; omega
      rw [List.length_eq_zero_iff.1 h0] at hu
      simp at hu
    · refine ⟨⟨b, j * 5, none⟩, by simp [h], fun t u hu => ?_⟩
      rw [hnews, List.getElem?_drop] at hu
      rw [Addr.add_lit]
      exact hcs _ _ hu
  have s2 : Hid (∀ u ∈ news, u.oneCell' = true) := fun u hu => h1 u (List.mem_of_mem_drop (hnews ▸ hu))
  have s3 : Hid (∀ t, t < news.length → (w.drew.cell? ⟨b, 0 + i * 5 + t, none⟩).isSome = true ∧ w.drew.frozen? ⟨b, 0 + i * 5 + t, none⟩ = false) := by
    intro t ht
    rw [hlen] at ht
    exact ⟨Plain.cell (w := w.drew) hP (by omega), Plain.frozen (w := w.drew) hP _⟩
  obtain ⟨W1, hW1⟩ : ∃ W1, W1 = w.drew.setCells b (0 + i * 5) news := ⟨_, rfl⟩
  have hP1 : Plain W1 b (c * 5) := by rw [hW1]; exact Plain.setCells (Plain.drew hP)
  obtain ⟨zs, hzs⟩ : ∃ zs, zs = (Builtin.zeroCells accZ.cells (n - (i + (n - j)))).toList := ⟨_, rfl⟩
  have hzl : zs.length = (n - (i + (n - j))) * 5 := by rw [hzs]; exact accZ_len _
  have hcl : ∀ ty, (Builtin.clear_ #[47] ty #[.slice (some ⟨b, (i + (n - j)) * 5, none⟩) (n - (i + (n - j))) (c - (i + (n - j)))]).run Try.prog W1 = .ok (.tuple #[]) (W1.setCells b ((i + (n - j)) * 5) zs) := fun ty =>
    run_clear_k W1 _ _ ty accZ acc_row acc_zero b _ _ _ (by omega) zs hzs.symm (by rw [hzs]; exact accZ_one _) (fun t ht => hP1.cell (by omega)) (fun t ht => hP1.frozen _)
  have hW : Hid (W1 = w.drew.setCells b (0 + i * 5) news) := hW1
  have hic : i ≤ c := by omega
  have hjc : j ≤ c := by omega
  have hZ : Aside (zs.length = (n - (i + (n - j))) * 5) := hzl
  have hN : Aside (news = cs.drop (j * 5)) := hnews
  have hNl : Hid (news.length = (n - j) * 5) := hlen
  clear hW1 hlen hnews hzs hzl hP hP1 hcs h1 hl
  go_enter Try.func96, Try.ntmps96
  go_wp2_with fail

  go_region_law (refine step_append_room rfl (.tmp 22) (.tmp 25) 47 rfl 71 i0 5 acc_row hi0 hz1 b 0 i c (by simp [Act.eval, Act.put]) A (n - j) (c - j) news (by simp [Act.eval, Act.put]) hNl.out hsrc.out s2.out (by omega) s3.out ?_; rw [← hW.out])

  go_wp2

  go_ret
  refine ⟨by rw [show n - (j - i) = i + (n - j) by omega]; rfl, zs, by rw [hZ.out]; omega, ?_⟩
  rw [← hN.out, hW.out, Nat.zero_add]
end Go.Proofs.Ytmggpiijahiaiaa.Ev
