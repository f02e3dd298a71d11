/- The abstract machine: frames, steps; each step is one of the machine's, or several. -/
import Derived.Test.YtbpfllifhpdlfaaE16
namespace Go.Proofs.Ytbpfllifhpdlfaa.Ev
open Go
set_option linter.unusedVariables false
set_option linter.unusedSimpArgs false

/-! Told out on the spot, so that the kernel carries no long chains. -/
def forceB {β : Type} : Bool → (Bool → β) → β
  | true, k => k true
  | false, k => k false
def forceN {β : Type} : Nat → (Nat → β) → β
  | 0, k => k 0
  | n + 1, k => k (n + 1)
def AV.force {β : Type} : AV → (AV → β) → β
  | .pv m T x, k => forceB m fun m => k (.pv m T x)
  | .pp m T x, k => forceB m fun m => k (.pp m T x)
  | .row o v, k => forceN o fun o => forceN v fun v => k (.row o v)
  | .bptr o p, k => forceN o fun o => k (.bptr o p)
  | .pair a b, k => a.force fun a => b.force fun b => k (.pair a b)
  | .tcons a b, k => a.force fun a => b.force fun b => k (.tcons a b)
  | .undef, k => k .undef
  | .nilv, k => k .nilv
  | .unit, k => k .unit
  | .tnil, k => k .tnil
  | .rptr o v i p, k => k (.rptr o v i p)
  | .fn f os, k => k (.fn f os)
def forceL {β : Type} : List AV → (List AV → β) → β
  | [], k => k []
  | a :: r, k => a.force fun a => forceL r fun r => k (a :: r)
theorem forceB_eq {β : Type} (b : Bool) (k : Bool → β) : forceB b k = k b := by cases b <;> rfl
theorem forceN_eq {β : Type} (n : Nat) (k : Nat → β) : forceN n k = k n := by cases n <;> rfl
theorem AV.force_eq {β : Type} : ∀ (a : AV) (k : AV → β), a.force k = k a := by
  intro a
  induction a with
  | pair a b iha ihb => intro k; simp only [AV.force, iha, ihb]
  | tcons a b iha ihb => intro k; simp only [AV.force, iha, ihb]
  | pv m T x => intro k; simp only [AV.force, forceB_eq]
  | pp m T x => intro k; simp only [AV.force, forceB_eq]
  | row o v => intro k; simp only [AV.force, forceN_eq]
  | bptr o v => intro k; simp only [AV.force, forceN_eq]
  | _ => intro k; rfl
theorem forceL_eq {β : Type} : ∀ (l : List AV) (k : List AV → β), forceL l k = k l := by
  intro l
  induction l with
  | nil => intro k; rfl
  | cons a r ih => intro k; simp only [forceL, AV.force_eq, ih]

structure AFr where
  fn : FuncId
  fb : Nat
  ss : List AV
  todo : List Item
structure Cfg where
  fr : AFr
  cs : List AFr
  ob : Objs
structure Env where
  tab : TTab
  fns : List (Nat × Func)
  sigs : List (Nat × Sig)
def assoc {α : Type} : List (Nat × α) → Nat → Option α
  | [], _ => none
  | (i, a) :: r, n => bif Nat.beq i n then some a else assoc r n
theorem assoc_mem {α : Type} : ∀ {l : List (Nat × α)} {n : Nat} {a : α}, assoc l n = some a → (n, a) ∈ l := by
  intro l
  induction l with
  | nil => intro n a h; simp [assoc] at h
  | cons p l ih =>
    obtain ⟨i, b⟩ := p
    intro n a h
    simp only [assoc] at h
    cases e : Nat.beq i n with
    | true =>
      rw [e] at h
      simp only [cond_true, Option.some.injEq] at h
      rw [Nat.eq_of_beq_eq_true e, h]
      exact List.mem_cons_self
    | false =>
      rw [e] at h
      exact List.mem_cons_of_mem _ (ih h)
def okName (fn : Func) : Bool := !(fn.name == "runtime.NumGoroutine") && fn.body.isSome
structure Env.Ok (P : Program) (env : Env) : Prop where
  mixed : P.follows .mixedOrders = true
  tab : env.tab.ok P = true
  fns : ∀ p, p ∈ env.fns → P.funcs[p.1]? = some p.2 ∧ okName p.2 = true
  sigs : ∀ p, p ∈ env.sigs → Meets P p.1 p.2 ∧ ∃ fn, P.funcs[p.1]? = some fn ∧ okName fn = true

def putA (ss : List AV) (d : Option Tmp) (v : AV) : List AV := match d with
  | some d => ss.set d v
  | none => ss
def idOf (fb : Nat) (o : Oper) : Nat := match o.dst with
  | some d => fb + 256 + 16 * d
  | none => fb + 255
def valsOf (ss : List AV) : List Operand → Option (List AV)
  | [] => some []
  | x :: r => match valOf ss x, valsOf ss r with
    | some a, some l => some (a :: l)
    | _, _ => none
/-- Whom an operation calls, if it is a call of a Go function, and with what. -/
inductive Tgt where
  | op
  | call (g : FuncId) (as : List AV)
  | bad
def tgtOf (ss : List AV) (o : Op) : Tgt := match o with
  | .call c => match c.callee with
    | .value f => match valOf ss f with
      | some (.fn g os) => match valsOf ss c.args.toList with
        | some as => .call g (as ++ os.map fun o => .bptr o [])
        | none => .bad
      | _ => .bad
    | .builtin _ => .op
    | _ => .bad
  | _ => .op
inductive Stp where
  | next (c : Cfg)
  | loop (c : Cfg)
  | done (a : AV) (ob : Objs)
def Cfg.to (c : Cfg) (k : List Item) : Cfg := { c with fr := { c.fr with todo := k } }
def Cfg.ss (c : Cfg) (ss : List AV) : Cfg := { c with fr := { c.fr with ss := ss } }
/-- Behind an operation: its value is put, the region goes on. -/
def Cfg.did (c : Cfg) (o : Oper) (ops : Array Oper) (rest : List Nat) (k : List Item) (v : AV) (ob : Objs) : Cfg :=
  { fr := { c.fr with ss := putA c.fr.ss o.dst v, todo := .inRegion ops rest :: k }, cs := c.cs, ob := ob }
def aExec (env : Env) (c : Cfg) (o : Oper) (ops : Array Oper) (rest : List Nat) (k : List Item) : Tr Stp :=
  match tgtOf c.fr.ss o.op with
  | .op => (aOp env.tab (idOf c.fr.fb o) o.op c.fr.ss c.ob).bind fun p => .ret (.next (c.did o ops rest k p.1 p.2))
  | .call g as => match assoc env.sigs g with
    | some sg => (aCall sg (idOf c.fr.fb o) as c.ob).bind fun p => .ret (.next (c.did o ops rest k p.1 p.2))
    | none => match assoc env.fns g with
      | some fn => match fn.body with
        | some body => .ret (.next { fr := { fn := g, fb := (idOf c.fr.fb o + 1) * 65536, ss := as ++ List.replicate (fn.ntmps - as.length) AV.undef, todo := [.code body] }, cs := c.fr :: c.cs, ob := c.ob })
        | none => .fail
      | none => .fail
  | .bad => .fail
def aGuard (env : Env) (c : Cfg) (o : Oper) (ops : Array Oper) (i : Nat) (rest : List Nat) (k : List Item) : Tr Stp :=
  match o.guard with
  | none => aExec env c o ops rest k
  | some (j, want) => match (ops[j]?).bind (·.dst) with
    | none => .fail
    | some d => match c.fr.ss.getD d .undef with
      | .pv m .bool t => .ite t
          (match want with
            | true => aExec env (c.ss (c.fr.ss.set d (.pv m .bool true))) o ops rest k
            | false => .ret (.next ((c.ss (c.fr.ss.set d (.pv m .bool true))).did o ops rest k .tnil c.ob)))
          (match want with
            | true => .ret (.next ((c.ss (c.fr.ss.set d (.pv m .bool false))).did o ops rest k .tnil c.ob))
            | false => aExec env (c.ss (c.fr.ss.set d (.pv m .bool false))) o ops rest k)
      | .tnil => .ret (.next (c.did o ops rest k .tnil c.ob))
      | _ => .fail
def AV.isVal : AV → Bool
  | .undef => false
  | .tnil => false
  | .tcons _ _ => false
  | _ => true
def resAV (tab : TTab) (ob : Objs) (ss : List AV) : ResultVar → Option AV
  | .tmp t => some (ss.getD t .undef)
  | .cell a t => aLoad tab ob t (ss.getD a .undef)
def resAVs (tab : TTab) (ob : Objs) (ss : List AV) : List ResultVar → Option (List AV)
  | [] => some []
  | r :: rs => match resAV tab ob ss r, resAVs tab ob ss rs with
    | some a, some l => some (a :: l)
    | _, _ => none
def mkTup : List AV → Option AV
  | [] => some .tnil
  | a :: r => if a.isVal = true then (match mkTup r with
    | some t => some (.tcons a t)
    | none => none) else none
def mkRes : List AV → Option AV
  | [a] => some a
  | as => mkTup as
def aRet (env : Env) (c : Cfg) : Tr Stp :=
  Tr.of (assoc env.fns c.fr.fn) fun fn => Tr.of (resAVs env.tab c.ob c.fr.ss fn.results.toList) fun as => Tr.of (mkRes as) fun v =>
    match c.cs with
    | [] => .ret (.done v c.ob)
    | b :: r => match b.todo with
      | .inRegion ops (i :: rest) :: k => .ret (.next { fr := { b with ss := putA b.ss ((ops[i]?).bind (·.dst)) v, todo := .inRegion ops rest :: k }, cs := r, ob := c.ob })
      | _ => .fail
def astep (env : Env) (c : Cfg) : Tr Stp :=
  match c.fr.todo with
  | [] => aRet env c
  | .inBlock _ :: k => .ret (.next (c.to k))
  | .inLoop body :: k => .ret (.loop (c.to (.code body :: .inLoop body :: k)))
  | .inRegion _ [] :: k => .ret (.next (c.to k))
  | .inRegion ops (i :: rest) :: k => Tr.of (ops[i]?) fun o => aGuard env c o ops i rest k
  | .code x :: k => match x with
    | .ret => aRet env c
    | .skip => .ret (.next (c.to k))
    | .label _ => .ret (.next (c.to k))
    | .seq a b => .ret (.next (c.to (.code a :: .code b :: k)))
    | .cond y a b => Tr.of (valOf c.fr.ss y) fun
      | .pv _ .bool t => .ite t (.ret (.next (c.to (.code a :: k)))) (.ret (.next (c.to (.code b :: k))))
      | _ => .fail
    | .block id body => .ret (.next (c.to (.code body :: .inBlock id :: k)))
    | .loop body => .ret (.loop (c.to (.code body :: .inLoop body :: k)))
    | .exit id => Tr.of (exitTo id k) fun k' => .ret (.next (c.to k'))
    | .region _ ops false => .ret (.next (c.to (.inRegion ops (List.range ops.size) :: k)))
    | _ => .fail
  | _ => .fail

/-- The machine's frame. -/
def mk (b : AFr) (ts : Array Value) : Frame := { fn := b.fn, tmps := ts, todo := b.todo, defers := [], mode := .run, kind := .normal }
def baseOf (f : FuncId) : Frame := { (default : Frame) with fn := f, kind := .normal }
theorem mk_at (b : AFr) (ts : Array Value) : mk b ts = (baseOf b.fn).at { tmps := ts, defers := [] } b.todo := rfl
def CsR (X : Ctx) : List AFr → List Frame → Prop
  | [], fs => fs = []
  | b :: r, fs => ∃ ts s, fs = mk b ts :: s ∧ SlotsR X b.ss ts ∧ CsR X r s
theorem CsR.evo {X X' : Ctx} (h : Evo X X') : ∀ {cs : List AFr} {fs : List Frame}, CsR X cs fs → CsR X' cs fs := by
  intro cs
  induction cs with
  | nil => intro fs k; exact k
  | cons b r ih => intro fs k; obtain ⟨ts, s, e, h1, h2⟩ := k; exact ⟨ts, s, e, h1.evo h, ih h2⟩
/-- The machine is where the abstract one is. -/
structure Sim (E : Fix) (X : Ctx) (c : Cfg) (ts : Array Value) (fs : List Frame) : Prop where
  fits : Fits E X
  ss : SlotsR X c.fr.ss ts
  cs : CsR X c.cs fs
  ob : X.objs = c.ob
def rootL : AFr → List AFr → FuncId
  | b, [] => b.fn
  | _, b :: r => rootL b r

section
variable {P : Program} {E : Fix} {X : Ctx} {env : Env}

theorem valsOf_ok {ss : List AV} {a : Act} (hs : SlotsR X ss a.tmps) : ∀ {l : List Operand} {as : List AV}, valsOf ss l = some as → as.length = l.length ∧ ∀ i, SlotR X (as.getD i .undef) ((l.map a.eval).getD i (.tuple #[])) := by
  intro l
  induction l with
  | nil => intro as h; simp only [valsOf, Option.some.injEq] at h; subst h; exact ⟨rfl, fun i => trivial⟩
  | cons x l ih =>
    intro as h
    simp only [valsOf] at h
    split at h
    · rename_i b r hb hr
      simp only [Option.some.injEq] at h
      subst h
      obtain ⟨h1, h2⟩ := ih hr
      refine ⟨by simp [h1], fun i => ?_⟩
      cases i with
      | zero => simpa using valOf_ok hs hb
      | succ i => simpa using h2 i
    · exact absurd h (by simp)
theorem run_callFunc_enter {f : FuncId} {fn : Func} (hf : P.funcs[f]? = some fn) (hn : okName fn = true) (args : Array Value) (w : World) : (callFunc f args).run P w = .ok (.enter f args) w := by
  unfold okName at hn
  simp only [Bool.and_eq_true, Bool.not_eq_true'] at hn
  have hne : ¬ fn.name = "runtime.NumGoroutine" := by simpa using hn.1
  have hb : ¬ fn.body = none := by cases hh : fn.body <;> simp [hh] at hn ⊢
  simp [callFunc, hf, hne, hb]
theorem call_args (hs : List AV) (vs : List Value) (os : List Nat) (hl : hs.length = vs.length) (h : ∀ i, SlotR X (hs.getD i .undef) (vs.getD i (.tuple #[]))) (ho : ∀ o, o ∈ os → ∃ T a, X.objs o = some (.box T a)) :
    (hs ++ os.map fun o => AV.bptr o []).length = (vs ++ os.map fun o => Value.pointer (some ⟨(X.φ o).blk, 0, none⟩)).length ∧ ∀ i, SlotR X ((hs ++ os.map fun o => AV.bptr o []).getD i .undef) ((vs ++ os.map fun o => Value.pointer (some ⟨(X.φ o).blk, 0, none⟩)).getD i (.tuple #[])) := by
  refine ⟨by simp [hl], fun i => ?_⟩
  by_cases hi : i < hs.length
  · have := h i
    simpa only [List.getD_eq_getElem?_getD, List.getElem?_append_left hi, List.getElem?_append_left (hl ▸ hi)] using this
  · simp only [List.getD_eq_getElem?_getD, List.getElem?_append_right (Nat.le_of_not_lt hi), List.getElem?_append_right (hl ▸ Nat.le_of_not_lt hi), hl]
    by_cases hj : i - vs.length < os.length
    · simp only [List.getD_eq_getElem?_getD, List.getElem?_map, List.getElem?_eq_getElem hj, Option.map_some, Option.getD_some]
      obtain ⟨T, a, hb⟩ := ho _ (List.getElem_mem hj)
      refine ⟨rfl, rfl, ?_⟩
      simp only [AVR, hb]
      refine ⟨trivial, fun off T' h' => ?_⟩
      simp only [Ty.at, Option.some.injEq, Prod.mk.injEq] at h'
      obtain ⟨rfl, rfl⟩ := h'
      rfl
    · simp only [List.getD_eq_getElem?_getD, List.getElem?_map, List.getElem?_eq_none (Nat.le_of_not_lt hj), Option.map_none, Option.getD_none]
      trivial

theorem tgt_call {ss : List AV} {a : Act} (hs : SlotsR X ss a.tmps) {o : Oper} {g : FuncId} {as : List AV} (h : tgtOf ss o.op = .call g as) :
    ∃ vs : List Value, as.length = vs.length ∧ (∀ i, SlotR X (as.getD i .undef) (vs.getD i (.tuple #[]))) ∧ (execOp a.eval o).run P X.w = (callFunc g vs.toArray).run P X.w := by
  unfold tgtOf at h
  split at h
  · rename_i c hc
    split at h
    · rename_i f hf
      split at h
      · rename_i g' os hv
        split at h
        · rename_i as' ha
          injection h with h1 h2
          subst h1 h2
          have hfv := valOf_ok hs hv
          obtain ⟨k1, k2, k3, k4⟩ := hfv
          have k5 := one_cell k1 k2
          rw [k5] at k3
          injection k3 with k3
          obtain ⟨h1, h2⟩ := valsOf_ok hs ha
          obtain ⟨g1, g2⟩ := call_args (X := X) as' (c.args.toList.map a.eval) os (by simp [h1]) h2 k4
          refine ⟨_, g1, g2, ?_⟩
          unfold execOp
          rw [hc]
          simp only [resolve, hf, Sem.run_bind, k3, Deferred.ofValue, Sem.run_pure, Result.andThen_ok, invoke]
          congr 2
          rw [← Array.toList_inj]
          simp
        · exact absurd h (by simp)
      · exact absurd h (by simp)
    · exact absurd h (by simp)
    · exact absurd h (by simp)
  · exact absurd h (by simp)

theorem Act.put_nil (ts : Array Value) (d : Option Tmp) (v : Value) : ({ tmps := ts, defers := [] } : Act).put d v = { tmps := (match d with | some d => ts.setIfInBounds d v | none => ts), defers := [] } := by
  cases d <;> rfl
theorem putA_ok {ss : List AV} {ts : Array Value} (h : SlotsR X ss ts) (d : Option Tmp) {a : AV} {v : Value} (hv : SlotR X a v) : SlotsR X (putA ss d a) (match d with | some d => ts.setIfInBounds d v | none => ts) := by
  cases d with
  | none => exact h
  | some d => exact h.put d hv

/-- A step of the machine at an operation that hands back a value. -/
theorem step_value {b : Frame} {a : Act} {k : List Item} {cs : List Frame} {w w' : World} {ops : Array Oper} {i : Nat} {rest : List Nat} {o : Oper} {nx : Next} {val : Value} (ho : ops[i]? = some o) (hw : Region.wanted o (yielded ops a.tmps) = true)
    (hr : (execOp a.eval o).run P w = .ok nx w') (hx : nx = .value val ∨ (nx = .skip ∧ val = undef)) :
    step P (lone (b.at a (.inRegion ops (i :: rest) :: k)) cs w) = .next (lone (b.at (a.put o.dst val) (.inRegion ops rest :: k)) cs w') := by
  have hg := stepG_op (P := P) (b := b) (k := k) (cs := cs) (w := w) (rest := rest) ho hw
  have hfin : ∀ v, (b.at a (.inRegion ops (i :: rest) :: k)).finish v = b.at (a.put o.dst v) (.inRegion ops rest :: k) := by
    intro v; rw [Frame.finish_at, ho]; rfl
  refine step_lone_go ?_
  rcases hx with rfl | ⟨rfl, rfl⟩
  · rw [hg, ← hfin]; simp [stepG.apply, hr]
  · rw [hg, ← hfin]; simp [stepG.apply, hr]
theorem step_call {b : Frame} {a : Act} {k : List Item} {cs : List Frame} {w : World} {ops : Array Oper} {i : Nat} {rest : List Nat} {o : Oper} {g : FuncId} {args : Array Value} (ho : ops[i]? = some o) (hw : Region.wanted o (yielded ops a.tmps) = true)
    (hr : (execOp a.eval o).run P w = .ok (.enter g args) w) :
    step P (lone (b.at a (.inRegion ops (i :: rest) :: k)) cs w) = .next (lone (Frame.enter P g args .normal) (b.at a (.inRegion ops (i :: rest) :: k) :: cs) w) := by
  have hg := stepG_op (P := P) (b := b) (k := k) (cs := cs) (w := w) (rest := rest) ho hw
  exact step_lone_go (by rw [hg]; simp [stepG.apply, hr, Frame.at])

/-- Where a step leads. -/
def Led (P : Program) (E : Fix) (X : Ctx) (cs0 : List Frame) (m : Machine) (root : FuncId) : Stp → Prop
  | .next c => ∃ X' ts fs, Sim E X' c ts fs ∧ Evo X X' ∧ rootL c.fr c.cs = root ∧ Steps P m (lone (mk c.fr ts) (fs ++ cs0) X'.w)
  | .loop c => ∃ X' ts fs, Sim E X' c ts fs ∧ Evo X X' ∧ rootL c.fr c.cs = root ∧ Steps P m (lone (mk c.fr ts) (fs ++ cs0) X'.w)
  | .done a ob => ∃ X' v fr, SlotR X' a v ∧ Fits E X' ∧ X'.objs = ob ∧ Evo X X' ∧ Steps P m (lone fr cs0 X'.w) ∧ fr.fn = root ∧ fr.leaving P X'.w (.returned v)

theorem enter_mk {g : FuncId} {fn : Func} {body : Code} (hf : P.funcs[g]? = some fn) (hb : fn.body = some body) (vs : List Value) (fb : Nat) (ss : List AV) :
    Frame.enter P g vs.toArray .normal = mk { fn := g, fb := fb, ss := ss, todo := [.code body] } (vs.toArray ++ Array.replicate (fn.ntmps - vs.length) undef) := by
  simp [Frame.enter, hf, hb, mk]
theorem slots_enter {as : List AV} {vs : List Value} (hl : as.length = vs.length) (hs : ∀ i, SlotR X (as.getD i .undef) (vs.getD i (.tuple #[]))) (n : Nat) : SlotsR X (as ++ List.replicate (n - as.length) AV.undef) (vs.toArray ++ Array.replicate (n - vs.length) undef) := by
  refine ⟨by simp [hl], fun i => ?_⟩
  by_cases hi : i < as.length
  · have := hs i
    have hi' : i < vs.toArray.size := by simp; omega
    simpa only [List.getD_eq_getElem?_getD, List.getElem?_append_left hi, Array.getD_eq_getD_getElem?, Array.getElem?_append_left hi', List.getElem?_toArray] using this
  · have : (as ++ List.replicate (n - as.length) AV.undef).getD i .undef = .undef := by
      simp only [List.getD_eq_getElem?_getD, List.getElem?_append_right (Nat.le_of_not_lt hi), List.getElem?_replicate]
      split <;> rfl
    rw [this]
    trivial

theorem aExec_ok (hE : env.Ok P) {c : Cfg} {ts : Array Value} {fs : List Frame} (S : Sim E X c ts fs) {o : Oper} {ops : Array Oper} {i : Nat} {rest : List Nat} {k : List Item} (ht : c.fr.todo = .inRegion ops (i :: rest) :: k) (ho : ops[i]? = some o)
    (hw : Region.wanted o (yielded ops ts) = true) {s : Stp} (h : (aExec env c o ops rest k).run = some s) (cs0 : List Frame) : Led P E X cs0 (lone (mk c.fr ts) (fs ++ cs0) X.w) (rootL c.fr c.cs) s := by
  have hmk : mk c.fr ts = (baseOf c.fr.fn).at { tmps := ts, defers := [] } (.inRegion ops (i :: rest) :: k) := by rw [mk_at, ht]
  have hroot : ∀ (ss : List AV) (td : List Item), rootL { c.fr with ss := ss, todo := td } c.cs = rootL c.fr c.cs := by intro ss td; cases c.cs <;> rfl
  unfold aExec at h
  split at h
  · rename_i htg
    rw [Tr.run_bind] at h
    obtain ⟨p, hp, h⟩ := Option.bind_eq_some_iff.1 h
    obtain rfl := Tr.run_ret h
    rw [← S.ob] at hp
    obtain ⟨X', nx, val, h1, h2, h3, h4, h5, h6⟩ := aOp_ok (P := P) (a := { tmps := ts, defers := [] }) S.fits hE.tab S.ss hp
    refine ⟨X', _, fs, ⟨h4, putA_ok (S.ss.evo h6) o.dst h3, S.cs.evo h6, h5⟩, h6, hroot _ _, .one ?_⟩
    rw [hmk, step_value ho hw h1 h2, Act.put_nil]
    rfl
  · rename_i g as htg
    obtain ⟨vs, hl, hsl, hrun⟩ := tgt_call (P := P) (a := { tmps := ts, defers := [] }) S.ss htg
    split at h
    · rename_i sg hsg
      obtain ⟨hM, fn, hfn, hok⟩ := hE.sigs _ (assoc_mem hsg)
      rw [Tr.run_bind] at h
      obtain ⟨p, hp, h⟩ := Option.bind_eq_some_iff.1 h
      obtain rfl := Tr.run_ret h
      rw [← S.ob] at hp
      have hcalls := aCall_ok (r := p.1) (ob' := p.2) hM S.fits hl hsl hp
      rw [run_callFunc_enter hfn hok] at hrun
      obtain ⟨e, w', fr, ⟨v, X', rfl, hw', h3, h4, h5, h6⟩, hsteps, _, hleave⟩ := hcalls (mk c.fr ts :: (fs ++ cs0))
      subst hw'
      refine ⟨X', (match o.dst with | some d => ts.setIfInBounds d v | none => ts), fs, ⟨h4, putA_ok (S.ss.evo h6) o.dst h3, S.cs.evo h6, h5⟩, h6, hroot _ _, ?_⟩
      have h1 := step_call (P := P) (b := baseOf c.fr.fn) (k := k) (cs := fs ++ cs0) (rest := rest) (a := { tmps := ts, defers := [] }) ho hw hrun
      rw [← hmk] at h1
      have h2 := step_leave_returned (c := mk c.fr ts) (cs := fs ++ cs0) hleave
      have h3' : (mk c.fr ts).finish v = mk { c.fr with ss := putA c.fr.ss o.dst p.1, todo := .inRegion ops rest :: k } (match o.dst with | some d => ts.setIfInBounds d v | none => ts) := by
        rw [hmk, Frame.finish_at, ho]
        show (baseOf c.fr.fn).at (Act.put _ o.dst v) _ = _
        rw [Act.put_nil]
        rfl
      rw [h3'] at h2
      exact .head h1 (Steps.trans hsteps (.one h2))
    · split at h
      · rename_i fn hfn
        obtain ⟨hf, hok⟩ := hE.fns _ (assoc_mem hfn)
        split at h
        · rename_i body hbody
          obtain rfl := Tr.run_ret h
          rw [run_callFunc_enter hf hok] at hrun
          have h1 := step_call (P := P) (b := baseOf c.fr.fn) (k := k) (cs := fs ++ cs0) (rest := rest) (a := { tmps := ts, defers := [] }) ho hw hrun
          rw [← hmk, enter_mk hf hbody vs ((idOf c.fr.fb o + 1) * 65536) (as ++ List.replicate (fn.ntmps - as.length) AV.undef)] at h1
          refine ⟨X, _, mk c.fr ts :: fs, ⟨S.fits, ?_, ⟨ts, fs, rfl, S.ss, S.cs⟩, S.ob⟩, Evo.refl S.fits.ij, rfl, .one h1⟩
          exact slots_enter hl hsl _
        · exact (Tr.run_fail h).elim
      · exact (Tr.run_fail h).elim
  · exact (Tr.run_fail h).elim

theorem yielded_at {ops : Array Oper} {ts : Array Value} {j d : Nat} (hd : (ops[j]?).bind (·.dst) = some d) {v : Value} (hv : ts[d]? = some v) : yielded ops ts j = match v with | .bool b => some b | _ => none := by
  unfold yielded
  rw [hd]
  simp only [Option.bind_some, hv]
  cases v <;> rfl
theorem slot_get {ss : List AV} {ts : Array Value} (h : SlotsR X ss ts) {d : Nat} {a : AV} (ha : ss.getD d .undef = a) (hne : a ≠ .undef) : ∃ v, ts[d]? = some v ∧ SlotR X a v := by
  by_cases hd : d < ts.size
  · refine ⟨ts[d], by simp [hd], ?_⟩
    have := h.2 d
    rw [ha] at this
    simpa [Array.getD_eq_getD_getElem?, hd] using this
  · exfalso
    apply hne
    rw [← ha, List.getD_eq_getElem?_getD, List.getElem?_eq_none (by rw [h.1]; omega)]
    rfl
theorem slots_same {ss : List AV} {ts : Array Value} (h : SlotsR X ss ts) {d : Nat} {a : AV} {v : Value} (hv : ts[d]? = some v) (ha : SlotR X a v) : SlotsR X (ss.set d a) ts := by
  have := h.put d ha
  have e : ts.setIfInBounds d v = ts := by
    obtain ⟨hd, rfl⟩ := Array.getElem?_eq_some_iff.1 hv
    simp [Array.setIfInBounds, hd]
  rwa [e] at this

theorem skip_ok {c : Cfg} {ts : Array Value} {fs : List Frame} (S : Sim E X c ts fs) {o : Oper} {ops : Array Oper} {i : Nat} {rest : List Nat} {k : List Item} (ht : c.fr.todo = .inRegion ops (i :: rest) :: k) (ho : ops[i]? = some o)
    (hw : Region.wanted o (yielded ops ts) = false) (cs0 : List Frame) : Led P E X cs0 (lone (mk c.fr ts) (fs ++ cs0) X.w) (rootL c.fr c.cs) (.next (c.did o ops rest k .tnil c.ob)) := by
  have hmk : mk c.fr ts = (baseOf c.fr.fn).at { tmps := ts, defers := [] } (.inRegion ops (i :: rest) :: k) := by rw [mk_at, ht]
  refine ⟨X, (match o.dst with | some d => ts.setIfInBounds d undef | none => ts), fs, ⟨S.fits, putA_ok S.ss o.dst ⟨#[], rfl, rfl⟩, S.cs, S.ob⟩, Evo.refl S.fits.ij, by show rootL _ c.cs = _; cases c.cs <;> rfl, .one ?_⟩
  have hs := step_op_skip (P := P) (b := baseOf c.fr.fn) (a := { tmps := ts, defers := [] }) (k := k) (cs := fs ++ cs0) (w := X.w) (ops := ops) (i := i) (rest := rest) (by simp [ho, hw])
  rw [hmk, hs, ho]
  simp only [Option.bind_some, Act.put_nil]
  rfl

theorem aGuard_ok (hE : env.Ok P) {c : Cfg} {ts : Array Value} {fs : List Frame} (S : Sim E X c ts fs) {o : Oper} {ops : Array Oper} {i : Nat} {rest : List Nat} {k : List Item} (ht : c.fr.todo = .inRegion ops (i :: rest) :: k) (ho : ops[i]? = some o)
    {s : Stp} (h : (aGuard env c o ops i rest k).run = some s) (cs0 : List Frame) : Led P E X cs0 (lone (mk c.fr ts) (fs ++ cs0) X.w) (rootL c.fr c.cs) s := by
  unfold aGuard at h
  split at h
  · rename_i hg
    exact aExec_ok hE S ht ho (by simp [Region.wanted, hg]) h cs0
  · rename_i j want hg
    split at h
    · exact (Tr.run_fail h).elim
    · rename_i d hd
      split at h
      · rename_i m t hs
        obtain ⟨v, hv, hsl⟩ := slot_get S.ss hs (by simp)
        obtain rfl := slot_bool hsl
        have hy := yielded_at hd hv
        have S2 : Sim E X (c.ss (c.fr.ss.set d (.pv m .bool t))) ts fs := ⟨S.fits, slots_same S.ss hv hsl, S.cs, S.ob⟩
        have ht2 : (c.ss (c.fr.ss.set d (.pv m .bool t))).fr.todo = .inRegion ops (i :: rest) :: k := ht
        have hroot : rootL (c.ss (c.fr.ss.set d (.pv m .bool t))).fr (c.ss (c.fr.ss.set d (.pv m .bool t))).cs = rootL c.fr c.cs := by show rootL _ c.cs = _; cases c.cs <;> rfl
        have hm : mk (c.ss (c.fr.ss.set d (.pv m .bool t))).fr ts = mk c.fr ts := rfl
        simp only [Tr.run] at h
        cases t with
        | true =>
          simp only [if_true] at h
          cases want with
          | true =>
            have := aExec_ok hE S2 ht2 ho (by simp [Region.wanted, hg, hy]) h cs0
            rwa [hroot, hm] at this
          | false =>
            obtain rfl := Tr.run_ret h
            have := skip_ok (P := P) S2 ht2 ho (by simp [Region.wanted, hg, hy]) cs0
            rwa [hroot, hm] at this
        | false =>
          simp only [Bool.false_eq_true, if_false] at h
          cases want with
          | true =>
            obtain rfl := Tr.run_ret h
            have := skip_ok (P := P) S2 ht2 ho (by simp [Region.wanted, hg, hy]) cs0
            rwa [hroot, hm] at this
          | false =>
            have := aExec_ok hE S2 ht2 ho (by simp [Region.wanted, hg, hy]) h cs0
            rwa [hroot, hm] at this
      · rename_i hs
        obtain ⟨v, hv, hsl⟩ := slot_get S.ss hs (by simp)
        obtain ⟨vs, rfl, _⟩ := hsl
        have hy := yielded_at hd hv
        obtain rfl := Tr.run_ret h
        exact skip_ok S ht ho (by simp [Region.wanted, hg, hy]) cs0
      · exact (Tr.run_fail h).elim

def resSem (ts : Array Value) : ResultVar → Sem Value
  | .tmp t => pure (ts.getD t undef)
  | .cell a t => do loadVar t (← asAddr (ts.getD a undef))
theorem results_eq (fn : Func) (ts : Array Value) : results fn ts = (do let vs ← fn.results.mapM (resSem ts); pure (if h : vs.size = 1 then vs[0] else .tuple vs)) := by
  unfold results
  congr 2
theorem resAV_ok (hT : env.tab.ok P = true) (F : Fits E X) {ss : List AV} {ts : Array Value} (hs : SlotsR X ss ts) {r : ResultVar} {a : AV} (h : resAV env.tab X.objs ss r = some a) :
    ∃ v, (resSem ts r).run P X.w = .ok v X.w ∧ SlotR X a v := by
  cases r with
  | tmp t =>
    simp only [resAV, Option.some.injEq] at h
    subst h
    exact ⟨_, rfl, hs.2 t⟩
  | cell p t =>
    simp only [resAV] at h
    obtain ⟨val, h1, h2⟩ := aLoad_ok F hT (hs.2 p) h
    refine ⟨val, ?_, h2⟩
    simp only [Instr.loadAt] at h1
    rw [← h1]
    show _ = (do loadVar t (← Instr.sureAddr (ts.getD p undef)) : Sem Value).run P X.w
    have h1' : (do loadVar t (← Instr.sureAddr (ts.getD p undef)) : Sem Value).run P X.w = .ok val X.w := h1
    unfold resSem
    dsimp only
    cases hv : ts.getD p undef with
    | pointer o =>
      cases o with
      | none => rw [hv] at h1'; simp [Instr.sureAddr, stuck] at h1'
      | some ad => rfl
    | _ => rw [hv] at h1'; simp [Instr.sureAddr, stuck] at h1'
theorem resAVs_ok (hT : env.tab.ok P = true) (F : Fits E X) {ss : List AV} {ts : Array Value} (hs : SlotsR X ss ts) : ∀ {l : List ResultVar} {as : List AV}, resAVs env.tab X.objs ss l = some as →
    ∃ vs : List Value, (l.mapM (resSem ts)).run P X.w = .ok vs X.w ∧ as.length = vs.length ∧ ∀ i, SlotR X (as.getD i .undef) (vs.getD i (.tuple #[])) := by
  intro l
  induction l with
  | nil => intro as h; simp only [resAVs, Option.some.injEq] at h; subst h; exact ⟨[], by simp, rfl, fun i => trivial⟩
  | cons r l ih =>
    intro as h
    simp only [resAVs] at h
    split at h
    · rename_i a r' ha hr
      simp only [Option.some.injEq] at h
      subst h
      obtain ⟨vs, h1, h2, h3⟩ := ih hr
      obtain ⟨v, h4, h5⟩ := resAV_ok hT F hs ha
      refine ⟨v :: vs, ?_, by simp [h2], fun i => ?_⟩
      · rw [List.mapM_cons]
        simp only [Sem.run_bind, h4, Result.andThen_ok, h1]
        rfl
      · cases i with
        | zero => simpa using h5
        | succ i => simpa using h3 i
    · exact absurd h (by simp)
theorem isVal_ok {a : AV} {v : Value} (h : a.isVal = true) (hs : SlotR X a v) : ValR X a v := by
  cases a with
  | undef => simp [AV.isVal] at h
  | tnil => simp [AV.isVal] at h
  | tcons x y => simp [AV.isVal] at h
  | _ => exact hs
theorem mkTup_ok : ∀ {as : List AV} {vs : List Value} {t : AV}, as.length = vs.length → (∀ i, SlotR X (as.getD i .undef) (vs.getD i (.tuple #[]))) → mkTup as = some t → TupR X t vs := by
  intro as
  induction as with
  | nil =>
    intro vs t hl hs h
    simp only [mkTup, Option.some.injEq] at h
    subst h
    exact List.eq_nil_of_length_eq_zero hl.symm
  | cons a as ih =>
    intro vs t hl hs h
    cases vs with
    | nil => simp at hl
    | cons v vs =>
      simp only [mkTup] at h
      split at h
      · rename_i hv
        split at h
        · rename_i t' ht
          simp only [Option.some.injEq] at h
          subst h
          exact ⟨v, vs, rfl, isVal_ok hv (by simpa using hs 0), ih (by simpa using hl) (fun i => by simpa using hs (i + 1)) ht⟩
        · exact absurd h (by simp)
      · exact absurd h (by simp)
theorem mkRes_ok {as : List AV} {vs : List Value} {a : AV} (hl : as.length = vs.length) (hs : ∀ i, SlotR X (as.getD i .undef) (vs.getD i (.tuple #[]))) (h : mkRes as = some a) :
    SlotR X a (if h : vs.toArray.size = 1 then vs.toArray[0] else .tuple vs.toArray) := by
  unfold mkRes at h
  split at h
  · simp only [Option.some.injEq] at h
    subst h
    cases vs with
    | nil => simp at hl
    | cons v vs =>
      cases vs with
      | nil => simpa using hs 0
      | cons w vs => simp at hl
  · rename_i hne
    have h1 : ¬ vs.toArray.size = 1 := by
      intro e
      cases as with
      | nil => simp at hl; simp [← hl] at e
      | cons x r =>
        cases r with
        | nil => exact hne x rfl
        | cons y r => simp at hl e; omega
    rw [dif_neg h1]
    exact tup_slot (mkTup_ok hl hs h)
theorem results_ok (hT : env.tab.ok P = true) (F : Fits E X) {ss : List AV} {ts : Array Value} (hs : SlotsR X ss ts) {fn : Func} {as : List AV} (h : resAVs env.tab X.objs ss fn.results.toList = some as) {a : AV} (hm : mkRes as = some a) :
    ∃ v, (results fn ts).run P X.w = .ok v X.w ∧ SlotR X a v := by
  obtain ⟨vs, h1, h2, h3⟩ := resAVs_ok hT F hs h
  refine ⟨_, ?_, mkRes_ok h2 h3 hm⟩
  rw [results_eq, Array.mapM_eq_mapM_toList]
  simp only [Sem.run_bind]
  have : (List.toArray <$> (fn.results.toList.mapM (resSem ts))).run P X.w = .ok vs.toArray X.w := by
    rw [map_eq_pure_bind]
    simp only [Sem.run_bind, h1, Result.andThen_ok, Sem.run_pure]
  rw [this]
  rfl

theorem aRet_ok (hE : env.Ok P) {c : Cfg} {ts : Array Value} {fs : List Frame} (S : Sim E X c ts fs) (cs0 : List Frame) (hret : step P (lone (mk c.fr ts) (fs ++ cs0) X.w) = .next (lone { mk c.fr ts with mode := .returning } (fs ++ cs0) X.w))
    {s : Stp} (h : (aRet env c).run = some s) : Led P E X cs0 (lone (mk c.fr ts) (fs ++ cs0) X.w) (rootL c.fr c.cs) s := by
  unfold aRet at h
  obtain ⟨fn, hfn, h⟩ := Tr.run_of h
  obtain ⟨as, has, h⟩ := Tr.run_of h
  obtain ⟨a, ha, h⟩ := Tr.run_of h
  obtain ⟨hf, hok⟩ := hE.fns _ (assoc_mem hfn)
  rw [← S.ob] at has
  obtain ⟨v, hr, hv⟩ := results_ok hE.tab S.fits S.ss has ha
  have hleave : ({ mk c.fr ts with mode := .returning } : Frame).leaving P X.w (.returned v) := ⟨rfl, rfl, rfl, fn, hf, hr⟩
  split at h
  · rename_i hcs
    obtain rfl := Tr.run_ret h
    have hfs : fs = [] := by have := S.cs; rw [hcs] at this; exact this
    subst hfs
    exact ⟨X, v, _, hv, S.fits, S.ob, Evo.refl S.fits.ij, .one hret, by rw [hcs]; rfl, hleave⟩
  · rename_i b r hcs
    have hS := S.cs
    rw [hcs] at hS
    obtain ⟨ts', s', rfl, hss, hr'⟩ := hS
    split at h
    · rename_i ops i rest k hb
      obtain rfl := Tr.run_ret h
      have h2 := step_leave_returned (c := mk b ts') (cs := s' ++ cs0) hleave
      have hmk : mk b ts' = (baseOf b.fn).at { tmps := ts', defers := [] } (.inRegion ops (i :: rest) :: k) := by rw [mk_at, hb]
      have h3' : (mk b ts').finish v = mk { b with ss := putA b.ss ((ops[i]?).bind (·.dst)) a, todo := .inRegion ops rest :: k } (match (ops[i]?).bind (·.dst) with | some d => ts'.setIfInBounds d v | none => ts') := by
        rw [hmk, Frame.finish_at, Act.put_nil]
        rfl
      rw [h3'] at h2
      refine ⟨X, _, s', ⟨S.fits, putA_ok hss _ hv, hr', S.ob⟩, Evo.refl S.fits.ij, ?_, .head hret (.one h2)⟩
      rw [hcs]
      show rootL _ r = rootL b r
      cases r <;> rfl
    · exact (Tr.run_fail h).elim

theorem astep_ok (hE : env.Ok P) {c : Cfg} {ts : Array Value} {fs : List Frame} (S : Sim E X c ts fs) {s : Stp} (h : (astep env c).run = some s) (cs0 : List Frame) : Led P E X cs0 (lone (mk c.fr ts) (fs ++ cs0) X.w) (rootL c.fr c.cs) s := by
  have hto : ∀ (td : List Item), rootL (c.to td).fr (c.to td).cs = rootL c.fr c.cs := by intro td; show rootL _ c.cs = _; cases c.cs <;> rfl
  have hmv : ∀ (td td' : List Item), c.fr.todo = td → step P (lone ((baseOf c.fr.fn).at { tmps := ts, defers := [] } td) (fs ++ cs0) X.w) = .next (lone ((baseOf c.fr.fn).at { tmps := ts, defers := [] } td') (fs ++ cs0) X.w) →
      ∃ X' ts' fs', Sim E X' (c.to td') ts' fs' ∧ Evo X X' ∧ rootL (c.to td').fr (c.to td').cs = rootL c.fr c.cs ∧ Steps P (lone (mk c.fr ts) (fs ++ cs0) X.w) (lone (mk (c.to td').fr ts') (fs' ++ cs0) X'.w) := by
    intro td td' h1 h2
    refine ⟨X, ts, fs, ⟨S.fits, S.ss, S.cs, S.ob⟩, Evo.refl S.fits.ij, hto _, .one ?_⟩
    rw [mk_at, h1]
    exact h2
  unfold astep at h
  split at h
  · rename_i ht
    refine aRet_ok hE S cs0 ?_ h
    rw [mk_at, ht]
    exact step_end
  · rename_i id k ht
    obtain rfl := Tr.run_ret h
    exact hmv _ _ ht step_inBlock
  · rename_i body k ht
    obtain rfl := Tr.run_ret h
    exact hmv _ _ ht step_inLoop
  · rename_i ops k ht
    obtain rfl := Tr.run_ret h
    exact hmv _ _ ht step_region_end
  · rename_i ops i rest k ht
    obtain ⟨o, ho, h⟩ := Tr.run_of h
    exact aGuard_ok hE S ht ho h cs0
  · rename_i x k ht
    split at h
    · refine aRet_ok hE S cs0 ?_ h
      rw [mk_at, ht]
      exact step_ret
    · obtain rfl := Tr.run_ret h
      exact hmv _ _ ht step_skip
    · obtain rfl := Tr.run_ret h
      exact hmv _ _ ht step_label
    · obtain rfl := Tr.run_ret h
      exact hmv _ _ ht step_seq
    · rename_i y a b
      obtain ⟨v, hv, h⟩ := Tr.run_of h
      split at h
      · rename_i m t
        have hb := slot_bool (valOf_ok (a := { tmps := ts, defers := [] }) S.ss hv)
        simp only [Tr.run] at h
        split at h
        · rename_i ht'
          subst ht'
          obtain rfl := Option.some.inj h
          exact hmv _ _ ht (step_cond hb)
        · rename_i ht'
          have ht' := Bool.eq_false_iff.2 ht'
          obtain rfl := Option.some.inj h
          rw [ht'] at hb
          exact hmv _ _ ht (step_cond hb)
      · exact (Tr.run_fail h).elim
    · obtain rfl := Tr.run_ret h
      exact hmv _ _ ht step_block
    · obtain rfl := Tr.run_ret h
      exact hmv _ _ ht step_loop
    · rename_i id
      obtain ⟨k', hk, h⟩ := Tr.run_of h
      obtain rfl := Tr.run_ret h
      exact hmv _ _ ht (step_exit hk)
    · obtain rfl := Tr.run_ret h
      exact hmv _ _ ht step_region
    · exact (Tr.run_fail h).elim
  · exact (Tr.run_fail h).elim
end
end Go.Proofs.Ytbpfllifhpdlfaa.Ev
