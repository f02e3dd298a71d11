/- The machine's step, with regions that draw their order. -/
import Derived.Test.YtbpfllifhpdlfaaE23
namespace Go.Proofs.Ytbpfllifhpdlfaa.Ev
open Go
set_option linter.unusedVariables false
set_option linter.unusedSimpArgs false

def astepD (env : Env) (c : Cfg) : Tr Stp :=
  match c.fr.todo with
  | .code (.region _ ops true) :: k => (dReg env c.fr.fb ops c.fr.ss c.ob).bind fun s => .ret (.next { fr := { c.fr with ss := s.1, todo := k }, cs := c.cs, ob := s.2 })
  | _ => astep env c

section
variable {P : Program} {E : Fix} {X : Ctx} {env : Env}

theorem dExec_full {id : Nat} {o : Oper} {ss : List AV} {ob ob1 : Objs} {A : Foot} {v : AV} (hf : Free A id (wid o) ob) (h : (dExec env id o ss (view A ob)).run = some (v, ob1)) : (dExec env id o ss ob).run = some (v, aft (quietOp o.op) A id (wid o) ob1 ob) := by
  cases A with
  | none =>
    cases hq : quietOp o.op with
    | true => have := dExec_quiet hq h; rw [this] at h; exact h
    | false => exact h
  | some A =>
    have hfr : ∀ x, newB id (wid o) x = true → ob x = none := hf.resolve_left (by simp)
    obtain ⟨ob1', g, m⟩ := dExec_gr (restr_sub A ob) hfr v ob1 h
    rw [g]
    congr 2
    cases hq : quietOp o.op with
    | true => exact dExec_quiet hq g
    | false =>
      funext x
      simp only [aft, patch]
      cases ha : hasB A x with
      | true =>
        simp only [Bool.true_or, cond_true]
        rcases m x with ⟨h1, h2⟩ | ⟨h1, _⟩
        · rw [h1, h2]; simp [restr, ha]
        · exact h1
      | false =>
        cases hn : newB id (wid o) x with
        | true =>
          simp only [Bool.or_true, cond_true]
          rcases m x with ⟨h1, h2⟩ | ⟨h1, _⟩
          · rw [h1, h2, hfr x hn]; simp [restr, ha]
          · exact h1
        | false =>
          simp only [Bool.or_self, cond_false]
          rcases m x with ⟨h1, h2⟩ | ⟨h1, h2, _⟩
          · exact h2
          · rcases h2 with h2 | h2
            · simp [restr, ha] at h2
            · have h2' : newB id (wid o) x = true := h2
              rw [hn] at h2'; exact absurd h2' (by simp)
theorem aExec_of {c : Cfg} {o : Oper} {ops : Array Oper} {rest : List Nat} {k : List Item} {v : AV} {ob' : Objs} (h : (dExec env (idOf c.fr.fb o) o c.fr.ss c.ob).run = some (v, ob')) : (aExec env c o ops rest k).run = some (.next (c.did o ops rest k v ob')) := by
  unfold dExec at h
  unfold aExec
  cases ht : tgtOf c.fr.ss o.op with
  | op =>
    rw [ht] at h
    dsimp only at h ⊢
    rw [Tr.run_bind, h]
    rfl
  | call g as =>
    rw [ht] at h
    dsimp only at h ⊢
    cases hs : assoc env.sigs g with
    | none => rw [hs] at h; exact (Tr.run_fail h).elim
    | some sg =>
      rw [hs] at h
      dsimp only at h ⊢
      obtain ⟨_, h⟩ := Tr.run_chk h
      rw [Tr.run_bind, h]
      rfl
  | bad => rw [ht] at h; exact (Tr.run_fail h).elim
theorem aGuard_of {c : Cfg} {ops : Array Oper} {x : Nat × Foot} {rest : List Nat} {k : List Item} {s s' : DS} (hss : c.fr.ss = s.1) (hob : c.ob = s.2) (h : DStep env c.fr.fb ops x s s') :
    ∃ o, ops[x.1]? = some o ∧ (aGuard env c o ops x.1 rest k).run = some (.next { fr := { c.fr with ss := s'.1, todo := .inRegion ops rest :: k }, cs := c.cs, ob := s'.2 }) := by
  obtain ⟨o, ho, h⟩ := h
  refine ⟨o, ho, ?_⟩
  rcases h with ⟨hg, rfl⟩ | ⟨hg, hf, v, ob1, hr, rfl⟩
  · unfold gOn at hg
    unfold aGuard
    split at hg
    · exact absurd hg (by simp)
    · rename_i j want he
      split at hg
      · exact absurd hg (by simp)
      · rename_i d hd
        simp only [he, hd]
        rw [hss]
        split at hg
        · rename_i m t hs
          have hset : s.1.set d (.pv m .bool t) = s.1 := set_getD hs (by simp)
          simp only [hs, Tr.run]
          simp only [Option.some.injEq] at hg
          cases t with
          | true =>
            cases want with
            | true => simp at hg
            | false =>
              simp only [if_true, Tr.run]
              rw [hset]
              simp only [Cfg.did, Cfg.ss, hob]
          | false =>
            cases want with
            | false => simp at hg
            | true =>
              simp only [Bool.false_eq_true, if_false, Tr.run]
              rw [hset]
              simp only [Cfg.did, Cfg.ss, hob]
        · rename_i hs
          simp only [hs, Tr.run, Cfg.did, hob, hss]
        · exact absurd hg (by simp)
  · have hfull := dExec_full hf hr
    have hc : ∀ c' : Cfg, c' = c → (aExec env c' o ops rest k).run = some (.next { fr := { c.fr with ss := putA s.1 o.dst v, todo := .inRegion ops rest :: k }, cs := c.cs, ob := aft (quietOp o.op) x.2 (idOf c.fr.fb o) (wid o) ob1 s.2 }) := by
      intro c' e
      subst e
      rw [aExec_of (c := c') (by rw [hss, hob]; exact hfull)]
      simp only [Cfg.did, hss]
    unfold gOn at hg
    unfold aGuard
    split at hg
    · rename_i he
      simp only [he]
      exact hc c rfl
    · rename_i j want he
      split at hg
      · exact absurd hg (by simp)
      · rename_i d hd
        simp only [he, hd]
        split at hg
        · rename_i m t hs
          have hset : c.fr.ss.set d (.pv m .bool t) = c.fr.ss := set_getD (by rw [hss]; exact hs) (by simp)
          have hself : c.ss c.fr.ss = c := rfl
          rw [hss, hs]
          rw [hss] at hset hself
          simp only [Tr.run]
          simp only [Option.some.injEq] at hg
          cases t with
          | true =>
            cases want with
            | true => simp only [if_true]; rw [hset, hself]; exact hc c rfl
            | false => simp at hg
          | false =>
            cases want with
            | false => simp only [Bool.false_eq_true, if_false]; rw [hset, hself]; exact hc c rfl
            | true => simp at hg
        · exact absurd hg (by simp)
        · exact absurd hg (by simp)

theorem dRun_ok (hE : env.Ok P) (cs0 : List Frame) {ops : Array Oper} {k : List Item} : ∀ (L : List (Nat × Foot)) (X : Ctx) (c : Cfg) (ts : Array Value) (fs : List Frame) (s' : DS), Sim E X c ts fs → c.fr.todo = .inRegion ops (L.map (·.1)) :: k → DRun env c.fr.fb ops L (c.fr.ss, c.ob) s' →
    ∃ X' ts' fs', Sim E X' { fr := { c.fr with ss := s'.1, todo := k }, cs := c.cs, ob := s'.2 } ts' fs' ∧ Evo X X' ∧ Steps P (lone (mk c.fr ts) (fs ++ cs0) X.w) (lone (mk { c.fr with ss := s'.1, todo := k } ts') (fs' ++ cs0) X'.w) := by
  intro L
  induction L with
  | nil =>
    intro X c ts fs s' S ht h
    obtain rfl : (c.fr.ss, c.ob) = s' := h
    refine ⟨X, ts, fs, ⟨S.fits, S.ss, S.cs, S.ob⟩, Evo.refl S.fits.ij, .one ?_⟩
    have hmk : mk c.fr ts = (baseOf c.fr.fn).at { tmps := ts, defers := [] } (.inRegion ops [] :: k) := by rw [mk_at, ht]; rfl
    rw [hmk, step_region_end]
    rfl
  | cons x L ih =>
    intro X c ts fs s' S ht h
    obtain ⟨s1, h1, h2⟩ := h
    obtain ⟨o, ho, hg⟩ := aGuard_of (c := c) (rest := L.map (·.1)) (k := k) rfl rfl h1
    have ht' : c.fr.todo = .inRegion ops (x.1 :: L.map (·.1)) :: k := by rw [ht]; rfl
    obtain ⟨X1, ts1, fs1, S1, e1, _, st1⟩ := aGuard_ok hE S ht' ho hg cs0
    obtain ⟨X2, ts2, fs2, S2, e2, st2⟩ := ih X1 _ ts1 fs1 s' S1 rfl h2
    exact ⟨X2, ts2, fs2, S2, e1.trans e2, st1.trans st2⟩

theorem astepD_ok (hE : env.Ok P) {c : Cfg} {ts : Array Value} {fs : List Frame} (S : Sim E X c ts fs) {s : Stp} (h : (astepD env c).run = some s) (cs0 : List Frame) : Led P E X cs0 (lone (mk c.fr ts) (fs ++ cs0) X.w) (rootL c.fr c.cs) s := by
  unfold astepD at h
  split at h
  · rename_i id ops k ht
    rw [Tr.run_bind] at h
    obtain ⟨s1, hs, h⟩ := Option.bind_eq_some_iff.1 h
    obtain rfl := Tr.run_ret h
    have hmk : mk c.fr ts = (baseOf c.fr.fn).at { tmps := ts, defers := [] } (.code (.region id ops true) :: k) := by rw [mk_at, ht]
    have hst := step_region_draw (P := P) (b := baseOf c.fr.fn) (a := { tmps := ts, defers := [] }) (k := k) (cs := fs ++ cs0) (w := X.w) (ops := ops) (id := id)
    rw [hE.mixed, ← hmk] at hst
    generalize X.w.tape X.w.drawn (.order (baseOf c.fr.fn).fn id) = t at hst
    obtain ⟨L, l1, l2⟩ := dReg_ok hs t
    obtain ⟨F1, e1⟩ := S.fits.same (w' := { X.w with drawn := X.w.drawn + 1 }) rfl rfl rfl rfl
    have S1 : Sim E { X with w := { X.w with drawn := X.w.drawn + 1 } } (c.to (.inRegion ops (L.map (·.1)) :: k)) ts fs := ⟨F1, S.ss.evo e1, S.cs.evo e1, S.ob⟩
    obtain ⟨X2, ts2, fs2, S2, e2, st2⟩ := dRun_ok hE cs0 L _ _ ts fs s1 S1 rfl l2
    refine ⟨X2, ts2, fs2, S2, e1.trans e2, by show rootL _ c.cs = _; cases c.cs <;> rfl, .head hst ?_⟩
    rw [← l1]
    exact st2
  · exact astep_ok hE S h cs0
end
end Go.Proofs.Ytbpfllifhpdlfaa.Ev
