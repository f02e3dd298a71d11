/- The whole run of a function, told abstractly; and that it meets its contract. -/
import Derived.Test.YtbpfllifhpdlfaaE24
namespace Go.Proofs.Ytbpfllifhpdlfaa.Ev
open Go
set_option linter.unusedVariables false
set_option linter.unusedSimpArgs false

/-- What is told otherwise at a loop's head: a nil slice as a row of the call's own; a value as one that lasts. In a slot, or at a path in the variable that a slot points to. -/
inductive Co where
  | nil (d : Nat) (p : Option (List Step)) (e : Ty)
  | pur (d : Nat) (p : Option (List Step)) (T : Ty)
structure Ann where
  fn : FuncId
  key : Nat
  keep : List Nat
  co : List Co
def firstReg : Code → Option Nat
  | .region id _ _ => some id
  | .seq a b => match firstReg a with
    | some i => some i
    | none => firstReg b
  | .cond _ a b => match firstReg a with
    | some i => some i
    | none => firstReg b
  | .block _ b => firstReg b
  | .loop b => firstReg b
  | .scope b => firstReg b
  | _ => none
def annOf : List Ann → FuncId → Nat → Option Ann
  | [], _, _ => none
  | a :: r, f, k => bif Nat.beq a.fn f && Nat.beq a.key k then some a else annOf r f k
def pathOkB : List Step → Ty → Bool
  | [], _ => true
  | .fst :: p, .pair a _ => pathOkB p a
  | .snd :: p, .pair _ b => pathOkB p b
  | .ix i :: p, .arr n e => Nat.ble (i + 1) n && pathOkB p e
  | _, _ => false
theorem pathOkB_ok : ∀ {p : List Step} {T : Ty}, pathOkB p T = true → PathOk p T := by
  intro p
  induction p with
  | nil => intro T _; cases T <;> trivial
  | cons s p ih =>
    intro T h
    cases s <;> cases T <;> simp only [pathOkB, Bool.and_eq_true, reduceCtorEq] at h
    · exact ih h
    · exact ih h
    · exact ⟨Nat.le_of_ble_eq_true h.1, ih h.2⟩
def coe1 (id : Nat) : Co → Cfg → Option Cfg
  | .nil d none e, c => match c.fr.ss.getD d .undef with
    | .nilv => match c.ob id with
      | none => some { fr := { c.fr with ss := c.fr.ss.set d (.row id 0) }, cs := c.cs, ob := c.ob.put id (.row 0 false e []) }
      | some _ => none
    | .row _ _ => some c
    | _ => none
  | .nil d (some p) e, c => match c.fr.ss.getD d .undef with
    | .bptr o [] => match c.ob o with
      | some (.box T a) => match AV.get p a with
        | some .nilv => match c.ob id, Ty.at p T, AV.upd p a (.row id 0), pathOkB p T with
          | none, some (_, .slice _), some a', true => some { fr := c.fr, cs := c.cs, ob := (c.ob.put id (.row 0 false e [])).put o (.box T a') }
          | _, _, _, _ => none
        | some (.row _ _) => some c
        | _ => none
      | _ => none
    | _ => none
  | .pur d none T, c => match purify T c.ob (c.fr.ss.getD d .undef) with
    | some (q, ob') => some { fr := { c.fr with ss := c.fr.ss.set d (.pv q.1 T q.2) }, cs := c.cs, ob := ob' }
    | none => none
  | .pur d (some p) T, c => match c.fr.ss.getD d .undef with
    | .bptr o [] => match c.ob o with
      | some (.box T0 a) => match Ty.at p T0, AV.get p a with
        | some (_, T1), some b => if T1 = T then (match purify T c.ob b with
          | some (q, ob') => match AV.upd p a (.pv q.1 T q.2), pathOkB p T0 with
            | some a', true => some { fr := c.fr, cs := c.cs, ob := ob'.put o (.box T0 a') }
            | _, _ => none
          | none => none) else none
        | _, _ => none
      | _ => none
    | _ => none
def coes : Nat → List Co → Cfg → Option Cfg
  | _, [], c => some c
  | id, x :: r, c => match coe1 id x c with
    | some c' => coes (id + 1) r c'
    | none => none
def normC (anns : List Ann) (n : Nat) (c : Cfg) : Option Cfg :=
  match c.fr.todo with
  | .code body :: _ => match firstReg body with
    | some k => match annOf anns c.fr.fn k with
      | some an => match coes 200 an.co (c.ss (keepS an.keep 0 c.fr.ss)) with
        | some c' => ren n c'
        | none => none
      | none => none
    | none => none
  | _ => none

@[reducible] def Sig.R (sg : Sig) : Ty := .pair sg.outs.ty (mutsTy sg.ps)
def ev (env : Env) (anns : List Ann) (sg : Sig) (rec : Cfg → Option sg.R.D) : Nat → Cfg → Tr sg.R.D
  | 0, _ => .fail
  | n + 1, c => (astepD env c).bind fun
    | .next c' => forceN c'.fr.fb fun fb => forceL c'.fr.ss fun ss => ev env anns sg rec n { fr := { fn := c'.fr.fn, fb := fb, ss := ss, todo := c'.fr.todo }, cs := c'.cs, ob := c'.ob }
    | .loop c' => Tr.of (normC anns (mCount sg.ps) c') fun c'' => .call sg.R (rec c'') .ret
    | .done a ob => Tr.of (fin sg a ob) .ret
def Om (env : Env) (anns : List Ann) (sg : Sig) (N : Nat) : Nat → Cfg → Option sg.R.D
  | 0, _ => none
  | k + 1, c => (ev env anns sg (Om env anns sg N k) N c).run
def entryS : (ps : List Par) → (parsTy ps).D → Nat → List AV
  | [], _, _ => []
  | .lent T :: ps, x, n => .pv (!T.flat) T x.1 :: entryS ps x.2 n
  | .leak T :: ps, x, n => .pv false T x.1 :: entryS ps x.2 n
  | .mbox _ :: ps, x, n => .bptr n [] :: entryS ps x.2 (n + 1)
def entryO : (ps : List Par) → (parsTy ps).D → Nat → Objs → Objs
  | [], _, _, s => s
  | .lent _ :: ps, x, n, s => entryO ps x.2 n s
  | .leak _ :: ps, x, n, s => entryO ps x.2 n s
  | .mbox T :: ps, x, n, s => entryO ps x.2 (n + 1) (s.put n (.box T (.pv false T x.1)))
def entry (sg : Sig) (g : FuncId) (fn : Func) (body : Code) (xs : (parsTy sg.ps).D) : Cfg :=
  { fr := { fn := g, fb := 0, ss := entryS sg.ps xs 0 ++ List.replicate (fn.ntmps - (entryS sg.ps xs 0).length) AV.undef, todo := [.code body] }, cs := [], ob := entryO sg.ps xs 0 (fun _ => none) }
def runF (env : Env) (anns : List Ann) (sg : Sig) (N k : Nat) (g : FuncId) (fn : Func) (body : Code) (xs : (parsTy sg.ps).D) : Option sg.R.D :=
  (ev env anns sg (Om env anns sg N k) N (entry sg g fn body xs)).run

section
variable {P : Program} {E : Fix} {X : Ctx} {env : Env}

/-- One thing that is told otherwise, with the same world. -/
def Same (E : Fix) (X : Ctx) (c c' : Cfg) (ts : Array Value) (fs : List Frame) : Prop := ∃ X', X'.w = X.w ∧ Sim E X' c' ts fs ∧ Evo X X' ∧ c'.fr.todo = c.fr.todo ∧ c'.fr.fn = c.fr.fn ∧ rootL c'.fr c'.cs = rootL c.fr c.cs

theorem nilRow (F : Fits E X) {id : Nat} (hid : X.objs id = none) (e : Ty) : ∃ X', X'.w = X.w ∧ X'.objs = X.objs.put id (.row 0 false e []) ∧ Fits E X' ∧ Evo X X' ∧ ∀ c : Cs, c 0 = some (.slice none 0 0) → AVR X' (.row id 0) c := by
  obtain ⟨g1, g2⟩ := Fits.put F (w' := X.w) (o := id) (ob := .row 0 false e []) (l := ⟨0, 0, 0, true⟩) (mine := fun _ => False) (Turns.refl X) (fun b hb => hb.elim) (fun ob0 h0 => by rw [hid] at h0; exact absurd h0 (by simp))
    (fun b hb => absurd hb.1 (by simp)) (fun _ _ _ _ _ hnn => absurd hnn (by simp)) (fun hev => ⟨rfl, fun _ => rfl, fun hh => absurd hh (by simp)⟩)
  refine ⟨X.put X.w id (.row 0 false e []) ⟨0, 0, 0, true⟩, rfl, rfl, g1, g2, fun c hc => ?_⟩
  have e0 : (X.put X.w id (.row 0 false e []) ⟨0, 0, 0, true⟩).objs id = some (.row 0 false e []) := Objs.put_same _ _ _
  simp only [AVR, e0, Ctx.put_φ_same]
  exact ⟨Nat.le_refl _, fun _ => hc⟩
/-- The same variable, told otherwise. -/
theorem boxTold (F : Fits E X) {o : Nat} {T : Ty} {a a' : AV} (ho : X.objs o = some (.box T a)) (hf : a'.fits T = true) (hr : AVR X a' (mem X.w (X.φ o).blk 0)) :
    ∃ X', X'.w = X.w ∧ X'.objs = X.objs.put o (.box T a') ∧ Fits E X' ∧ Evo X X' := by
  obtain ⟨g1, g2⟩ := Fits.put F (w' := X.w) (o := o) (ob := .box T a') (l := X.φ o) (mine := fun _ => False) (Turns.refl X) (fun b hb => hb.elim) (fun ob0 h0 => by rw [ho] at h0; obtain rfl := Option.some.inj h0; exact ⟨rfl, rfl⟩)
    (fun b hb => .inl (by unfold Own; rw [ho]; exact hb)) (fun _ _ _ _ hh => by cases hh) (fun hev => ⟨hf, box_cells F ho, hr.evo hev⟩)
  exact ⟨X.put X.w o (.box T a') (X.φ o), rfl, rfl, g1, g2⟩

theorem getD_slot {ss : List AV} {ts : Array Value} (h : SlotsR X ss ts) (d : Nat) : SlotR X (ss.getD d .undef) (ts.getD d (.tuple #[])) := h.2 d
theorem slots_tell {ss : List AV} {ts : Array Value} (h : SlotsR X ss ts) {d : Nat} {a : AV} (ha : SlotR X a (ts.getD d (.tuple #[]))) : SlotsR X (ss.set d a) ts := by
  refine ⟨by simp [h.1], fun i => ?_⟩
  by_cases hi : i = d
  · subst hi
    by_cases hl : i < ss.length
    · have : (ss.set i a).getD i .undef = a := by simp [List.getD_eq_getElem?_getD, hl]
      rw [this]; exact ha
    · have : (ss.set i a).getD i .undef = .undef := by
        rw [List.getD_eq_getElem?_getD, List.getElem?_eq_none (by simp; omega)]; rfl
      rw [this]; trivial
  · have : (ss.set d a).getD i .undef = ss.getD i .undef := by
      simp [List.getD_eq_getElem?_getD, List.getElem?_set_ne (Ne.symm hi)]
    rw [this]; exact h.2 i

theorem coe1_ok {id : Nat} {x : Co} {c c' : Cfg} {ts : Array Value} {fs : List Frame} (S : Sim E X c ts fs) (h : coe1 id x c = some c') : Same E X c c' ts fs := by
  have hsame : Same E X c c ts fs := ⟨X, rfl, S, Evo.refl S.fits.ij, rfl, rfl, rfl⟩
  have hroot : ∀ (ss : List AV), rootL { c.fr with ss := ss } c.cs = rootL c.fr c.cs := by intro ss; cases c.cs <;> rfl
  cases x with
  | nil d p e =>
    cases p with
    | none =>
      simp only [coe1] at h
      split at h
      · rename_i hs
        split at h
        · rename_i hid
          simp only [Option.some.injEq] at h
          subst h
          have hsl := S.ss.2 d
          rw [hs] at hsl
          rw [← S.ob] at hid
          obtain ⟨X', w1, o1, F1, e1, k1⟩ := nilRow S.fits hid e
          refine ⟨X', w1, ⟨F1, slots_tell (S.ss.evo e1) ?_, S.cs.evo e1, by rw [o1, S.ob]⟩, e1, rfl, rfl, hroot _⟩
          obtain ⟨q1, q2, q3⟩ := hsl
          exact ⟨q1, q2, k1 _ q3⟩
        · exact absurd h (by simp)
      · simp only [Option.some.injEq] at h; subst h; exact hsame
      · exact absurd h (by simp)
    | some p =>
      simp only [coe1] at h
      split at h
      · rename_i o hs
        split at h
        · rename_i T a ho
          split at h
          · rename_i hg
            split at h
            · rename_i off e' a' hid hat hu hpk
              simp only [Option.some.injEq] at h
              subst h
              rw [← S.ob] at hid ho
              obtain ⟨hf, hm⟩ := box_mem S.fits ho
              obtain ⟨X1, w1, o1, F1, e1, k1⟩ := nilRow S.fits hid e
              have ho1 : X1.objs o = some (.box T a) := by
                rw [o1, Objs.put_ne]; exact ho
                intro e; subst e; rw [hid] at ho; cases ho
              have hφ := evo_boxφ e1 ho
              have hm1 := hm.evo e1
              have hok := pathOkB_ok hpk
              obtain ⟨g1, g2⟩ := AV.get_ok hm1 hf hat hok hg
              obtain ⟨u1, u2⟩ := AV.upd_ok F1.ij hm1 hf hat hok (v := .row id 0) (by simp [AV.fits]) (k1 _ g1) (fun _ _ _ => rfl) hu
              have hmem : mem X1.w (X1.φ o).blk 0 = mem X.w (X.φ o).blk 0 := by rw [hφ, w1]
              obtain ⟨X2, w2, o2, F2, e2⟩ := boxTold F1 ho1 u2 (by rw [hmem]; exact u1)
              exact ⟨X2, w2.trans w1, ⟨F2, (S.ss.evo e1).evo e2, (S.cs.evo e1).evo e2, by rw [o2, o1, S.ob]⟩, e1.trans e2, rfl, rfl, rfl⟩
            · exact absurd h (by simp)
          · simp only [Option.some.injEq] at h; subst h; exact hsame
          · exact absurd h (by simp)
        · exact absurd h (by simp)
      · exact absurd h (by simp)
  | pur d p T =>
    cases p with
    | none =>
      simp only [coe1] at h
      split at h
      · rename_i q ob' hq
        simp only [Option.some.injEq] at h
        subst h
        rw [← S.ob] at hq
        have hval : ValR X (c.fr.ss.getD d .undef) (ts.getD d (.tuple #[])) := by
          have hsl := S.ss.2 d
          cases hc : c.fr.ss.getD d .undef with
          | undef => rw [hc] at hq; cases T <;> simp [purify, AV.pureAs] at hq
          | tnil => rw [hc] at hq; cases T <;> simp [purify, AV.pureAs] at hq
          | tcons y z => rw [hc] at hq; cases T <;> simp [purify, AV.pureAs] at hq
          | _ => rw [hc] at hsl; exact hsl
        obtain ⟨X', o1, F1, t1, r1, s1, g1⟩ := purify_ok S.fits hval.2.2 hq
        refine ⟨X', t1.w, ⟨F1, slots_tell (S.ss.evo t1.evo) ⟨hval.1.trans g1, hval.2.1.trans s1, r1⟩, S.cs.evo t1.evo, o1⟩, t1.evo, rfl, rfl, hroot _⟩
      · exact absurd h (by simp)
    | some p =>
      simp only [coe1] at h
      split at h
      · rename_i o hs
        split at h
        · rename_i T0 a ho
          split at h
          · rename_i off T1 b hat hg
            split at h
            · rename_i hT
              subst hT
              split at h
              · rename_i q ob' hq
                split at h
                · rename_i a' hu hpk
                  simp only [Option.some.injEq] at h
                  subst h
                  rw [← S.ob] at ho hq
                  obtain ⟨hf, hm⟩ := box_mem S.fits ho
                  have hok := pathOkB_ok hpk
                  obtain ⟨g1, g2⟩ := AV.get_ok hm hf hat hok hg
                  obtain ⟨X1, o1, F1, t1, r1, _, _⟩ := purify_ok S.fits g1 hq
                  have ho1 := t1.box o _ _ ho
                  have hm1 := hm.evo t1.evo
                  have hmem : mem X1.w (X1.φ o).blk 0 = mem X.w (X.φ o).blk 0 := by rw [t1.φ, t1.w]
                  obtain ⟨u1, u2⟩ := AV.upd_ok F1.ij hm1 hf hat hok (v := .pv q.1 T1 q.2) (by simp [AV.fits]) r1 (fun _ _ _ => rfl) hu
                  obtain ⟨X2, w2, o2, F2, e2⟩ := boxTold F1 ho1 u2 (by rw [hmem]; exact u1)
                  exact ⟨X2, w2.trans t1.w, ⟨F2, (S.ss.evo t1.evo).evo e2, (S.cs.evo t1.evo).evo e2, by rw [o2, o1]⟩, t1.evo.trans e2, rfl, rfl, rfl⟩
                · exact absurd h (by simp)
              · exact absurd h (by simp)
            · exact absurd h (by simp)
          · exact absurd h (by simp)
        · exact absurd h (by simp)
      · exact absurd h (by simp)

theorem coes_ok : ∀ {l : List Co} {id : Nat} {X : Ctx} {c c' : Cfg} {ts : Array Value} {fs : List Frame}, Sim E X c ts fs → coes id l c = some c' → Same E X c c' ts fs := by
  intro l
  induction l with
  | nil => intro id X c c' ts fs S h; simp only [coes, Option.some.injEq] at h; subst h; exact ⟨X, rfl, S, Evo.refl S.fits.ij, rfl, rfl, rfl⟩
  | cons x l ih =>
    intro id X c c' ts fs S h
    simp only [coes] at h
    split at h
    · rename_i c1 h1
      obtain ⟨X1, w1, S1, e1, t1, f1, r1⟩ := coe1_ok S h1
      obtain ⟨X2, w2, S2, e2, t2, f2, r2⟩ := ih S1 h
      exact ⟨X2, w2.trans w1, S2, e1.trans e2, t2.trans t1, f2.trans f1, r2.trans r1⟩
    · exact absurd h (by simp)

theorem normC_ok {anns : List Ann} {c c' : Cfg} {ts : Array Value} {fs : List Frame} (S : Sim E X c ts fs) {ps : List Par} {bs : List Nat} (hMB : MB X ps 0 bs) (h : normC anns (mCount ps) c = some c') :
    ∃ X', X'.w = X.w ∧ Sim E X' c' ts fs ∧ MB X' ps 0 bs ∧ c'.fr.todo = c.fr.todo ∧ c'.fr.fn = c.fr.fn ∧ rootL c'.fr c'.cs = rootL c.fr c.cs := by
  unfold normC at h
  split at h
  · split at h
    · split at h
      · rename_i an _
        split at h
        · rename_i c1 hc
          have S0 : Sim E X (c.ss (keepS an.keep 0 c.fr.ss)) ts fs := ⟨S.fits, keepS_ok S.ss, S.cs, S.ob⟩
          have hroot : rootL (c.ss (keepS an.keep 0 c.fr.ss)).fr (c.ss (keepS an.keep 0 c.fr.ss)).cs = rootL c.fr c.cs := by show rootL _ c.cs = _; cases c.cs <;> rfl
          obtain ⟨X1, w1, S1, e1, t1, f1, r1⟩ := coes_ok S0 hc
          obtain ⟨X2, w2, S2, m2, t2, f2, r2⟩ := ren_ok S1 (MB.evo e1 ps 0 bs hMB) h
          exact ⟨X2, w2.trans w1, S2, m2, t2.trans t1, f2.trans f1, (r2.trans r1).trans hroot⟩
        · exact absurd h (by simp)
      · exact absurd h (by simp)
    · exact absurd h (by simp)
  · exact absurd h (by simp)

/-- Where a run ends. -/
def Final (P : Program) (E : Fix) (sg : Sig) (bs : List Nat) (cs0 : List Frame) (m : Machine) (root : FuncId) (r : sg.R.D) : Prop :=
  ∃ w' v fr I' owns, Steps P m (lone fr cs0 w') ∧ fr.fn = root ∧ fr.leaving P w' (.returned v) ∧ PostR E.w0 w' E.I0 bs sg r v I' owns
theorem Final.of_steps {sg : Sig} {bs : List Nat} {cs0 : List Frame} {m m' : Machine} {root : FuncId} {r : sg.R.D} (h : Steps P m m') (k : Final P E sg bs cs0 m' root r) : Final P E sg bs cs0 m root r := by
  obtain ⟨w', v, fr, I', owns, h1, h2⟩ := k
  exact ⟨w', v, fr, I', owns, h.trans h1, h2⟩

theorem ev_ok (hE : env.Ok P) {anns : List Ann} {sg : Sig} {bs : List Nat} (hS : ∀ b, E.S b ↔ b ∈ bs) (cs0 : List Frame) {rec : Cfg → Option sg.R.D}
    (hrec : ∀ (X : Ctx) (c : Cfg) (ts : Array Value) (fs : List Frame) (r : sg.R.D), Sim E X c ts fs → MB X sg.ps 0 bs → rec c = some r → Final P E sg bs cs0 (lone (mk c.fr ts) (fs ++ cs0) X.w) (rootL c.fr c.cs) r) :
    ∀ (n : Nat) (X : Ctx) (c : Cfg) (ts : Array Value) (fs : List Frame) (r : sg.R.D), Sim E X c ts fs → MB X sg.ps 0 bs → (ev env anns sg rec n c).run = some r → Final P E sg bs cs0 (lone (mk c.fr ts) (fs ++ cs0) X.w) (rootL c.fr c.cs) r := by
  intro n
  induction n with
  | zero => intro X c ts fs r _ _ h; exact (Tr.run_fail h).elim
  | succ n ih =>
    intro X c ts fs r S hMB h
    simp only [ev] at h
    rw [Tr.run_bind] at h
    obtain ⟨s, hs, h⟩ := Option.bind_eq_some_iff.1 h
    have hl := astepD_ok hE S hs cs0
    cases s with
    | next c' =>
      obtain ⟨X', ts', fs', S', e', r', st⟩ := hl
      dsimp only at h
      rw [forceN_eq, forceL_eq] at h
      have := ih X' c' ts' fs' r S' (MB.evo e' _ _ _ hMB) h
      rw [r'] at this
      exact this.of_steps st
    | loop c' =>
      obtain ⟨X', ts', fs', S', e', r', st⟩ := hl
      obtain ⟨c'', hn, h⟩ := Tr.run_of h
      simp only [Tr.run] at h
      obtain ⟨q, hq, h⟩ := Option.bind_eq_some_iff.1 h
      obtain rfl := Option.some.inj h
      obtain ⟨X2, w2, S2, m2, t2, f2, r2⟩ := normC_ok S' (MB.evo e' _ _ _ hMB) hn
      have := hrec X2 c'' ts' fs' q S2 m2 hq
      rw [r2, r', w2] at this
      have hmk : mk c''.fr ts' = mk c'.fr ts' := by unfold mk; rw [t2, f2]
      rw [hmk] at this
      exact this.of_steps st
    | done a ob =>
      obtain ⟨X', v, fr, hv, F', o', e', st, hf, hlv⟩ := hl
      obtain ⟨q, hq, h⟩ := Tr.run_of h
      obtain rfl := Option.some.inj h
      subst o'
      obtain ⟨I', owns, hp⟩ := fin_ok F' hv (MB.evo e' _ _ _ hMB) hS hq
      exact ⟨X'.w, v, fr, I', owns, st, hf, hlv, hp⟩
theorem Om_ok (hE : env.Ok P) {anns : List Ann} {sg : Sig} {bs : List Nat} (hS : ∀ b, E.S b ↔ b ∈ bs) (cs0 : List Frame) (N : Nat) :
    ∀ (k : Nat) (X : Ctx) (c : Cfg) (ts : Array Value) (fs : List Frame) (r : sg.R.D), Sim E X c ts fs → MB X sg.ps 0 bs → Om env anns sg N k c = some r → Final P E sg bs cs0 (lone (mk c.fr ts) (fs ++ cs0) X.w) (rootL c.fr c.cs) r := by
  intro k
  induction k with
  | zero => intro X c ts fs r _ _ h; exact absurd h (by simp [Om])
  | succ k ih => intro X c ts fs r S hMB h; exact ev_ok hE hS cs0 ih N X c ts fs r S hMB h

/-- The variables that were handed over, at the begin. -/
def EB (X : Ctx) : (ps : List Par) → (parsTy ps).D → Nat → List Nat → Prop
  | [], _, _, bs => bs = []
  | .lent _ :: ps, x, n, bs => EB X ps x.2 n bs
  | .leak _ :: ps, x, n, bs => EB X ps x.2 n bs
  | .mbox T :: ps, x, n, bs => ∃ b r, bs = b :: r ∧ (X.φ n).blk = b ∧ X.objs n = some (.box T (.pv false T x.1)) ∧ EB X ps x.2 (n + 1) r
theorem entryO_lt : ∀ {ps : List Par} {xs : (parsTy ps).D} {n o : Nat} {s : Objs}, o < n → entryO ps xs n s o = s o := by
  intro ps
  induction ps with
  | nil => intro xs n o s h; rfl
  | cons p ps ih =>
    intro xs n o s h
    cases p with
    | lent T => exact ih (xs := xs.2) (s := s) h
    | leak T => exact ih (xs := xs.2) (s := s) h
    | mbox T =>
      simp only [entryO]
      rw [ih (xs := xs.2) (by omega), Objs.put_ne _ _ _ (by omega)]
theorem entryO_at : ∀ {ps : List Par} {xs : (parsTy ps).D} {n o : Nat} {s : Objs} {ob : AObj}, entryO ps xs n s o = some ob → s o = some ob ∨ (n ≤ o ∧ o < n + mCount ps) := by
  intro ps
  induction ps with
  | nil => intro xs n o s ob h; exact .inl h
  | cons p ps ih =>
    intro xs n o s ob h
    cases p with
    | lent T => exact ih (xs := xs.2) (s := s) h
    | leak T => exact ih (xs := xs.2) (s := s) h
    | mbox T =>
      simp only [entryO] at h
      simp only [mCount]
      rcases ih (xs := xs.2) h with h1 | h1
      · by_cases e : o = n
        · right; omega
        · rw [Objs.put_ne _ _ _ e] at h1; exact .inl h1
      · right; omega
theorem EB_of {w : World} {I J : Bs} {X : Ctx} : ∀ {ps : List Par} {xs : (parsTy ps).D} {vs : List Value} {bs all : List Nat} {n : Nat} {s : Objs}, ArgsR w I J ps xs vs bs → (∀ i, (X.φ i).blk = all.getD i 0) → (∀ i, bs[i]? = all[n + i]?) → (∀ o, n ≤ o → X.objs o = entryO ps xs n s o) → EB X ps xs n bs := by
  intro ps
  induction ps with
  | nil => intro xs vs bs all n s h _ _ _; exact h.2
  | cons p ps ih =>
    intro xs vs bs all n s h hφ hall ho
    cases p with
    | lent T => obtain ⟨v, r, _, _, h⟩ := h; exact ih (xs := xs.2) h hφ hall ho
    | leak T => obtain ⟨v, r, _, _, h⟩ := h; exact ih (xs := xs.2) h hφ hall ho
    | mbox T =>
      obtain ⟨b, r, bs', e1, e2, h1, h2, h⟩ := h
      subst e2
      refine ⟨b, bs', rfl, ?_, ?_, ih (xs := xs.2) (s := s.put n (.box T (.pv false T xs.1))) h hφ (fun i => ?_) (fun o hn => ?_)⟩
      · rw [hφ, List.getD_eq_getElem?_getD]
        have := hall 0
        simp only [Nat.add_zero, List.getElem?_cons_zero] at this
        rw [← this]; rfl
      · rw [ho n (Nat.le_refl _)]
        simp only [entryO]
        rw [entryO_lt (xs := xs.2) (by omega), Objs.put_same]
      · have := hall (i + 1)
        simp only [List.getElem?_cons_succ] at this
        rw [this]
        congr 1; omega
      · rw [ho o (by omega)]; rfl
theorem EB.mb {X : Ctx} : ∀ {ps : List Par} {xs : (parsTy ps).D} {n : Nat} {bs : List Nat}, EB X ps xs n bs → MB X ps n bs := by
  intro ps
  induction ps with
  | nil => intro xs n bs h; exact h
  | cons p ps ih =>
    intro xs n bs h
    cases p with
    | lent T => exact ih (xs := xs.2) h
    | leak T => exact ih (xs := xs.2) h
    | mbox T => obtain ⟨b, r, e, h1, h2, h3⟩ := h; exact ⟨b, r, e, h1, ⟨_, h2⟩, ih h3⟩
theorem EB.slots {X : Ctx} {w : World} (hw : X.w = w) : ∀ {ps : List Par} {xs : (parsTy ps).D} {n : Nat} {vs : List Value} {bs : List Nat}, ArgsR w X.I X.J ps xs vs bs → EB X ps xs n bs → (entryS ps xs n).length = vs.length ∧ ∀ i, SlotR X ((entryS ps xs n).getD i .undef) (vs.getD i (.tuple #[])) := by
  subst hw
  intro ps
  induction ps with
  | nil => intro xs n vs bs h _; rw [h.1]; exact ⟨rfl, fun i => trivial⟩
  | cons p ps ih =>
    intro xs n vs bs h k
    cases p with
    | lent T =>
      obtain ⟨v, r, rfl, h1, h⟩ := h
      obtain ⟨l1, l2⟩ := ih (xs := xs.2) h k
      refine ⟨by simp [entryS, l1], fun i => ?_⟩
      cases i with
      | zero =>
        refine slot_of_val ⟨h1.1, h1.2.1, ?_⟩
        show Rep X.w (X.set (!T.flat)) T xs.1 (cv v)
        cases hf : T.flat with
        | true => exact h1.2.2.flat hf
        | false => exact h1.2.2
      | succ i => simpa [entryS] using l2 i
    | leak T =>
      obtain ⟨v, r, rfl, h1, h⟩ := h
      obtain ⟨l1, l2⟩ := ih (xs := xs.2) h k
      refine ⟨by simp [entryS, l1], fun i => ?_⟩
      cases i with
      | zero => exact slot_of_val ⟨h1.1, h1.2.1, h1.2.2⟩
      | succ i => simpa [entryS] using l2 i
    | mbox T =>
      obtain ⟨b, r, bs', rfl, rfl, h1, h2, h⟩ := h
      obtain ⟨b', r', e, k1, k2, k3⟩ := k
      simp only [List.cons.injEq] at e
      obtain ⟨rfl, rfl⟩ := e
      obtain ⟨l1, l2⟩ := ih (xs := xs.2) h k3
      refine ⟨by simp [entryS, l1], fun i => ?_⟩
      cases i with
      | zero =>
        refine slot_of_val ⟨rfl, rfl, ?_⟩
        show AVR X (.bptr n []) (cv (.pointer (some ⟨b, 0, none⟩)))
        simp only [AVR, k2, k1]
        refine ⟨trivial, fun off T' h' => ?_⟩
        simp only [Ty.at, Option.some.injEq, Prod.mk.injEq] at h'
        obtain ⟨rfl, rfl⟩ := h'
        rfl
      | succ i => simpa [entryS] using l2 i
theorem EB.objs {X : Ctx} : ∀ {ps : List Par} {xs : (parsTy ps).D} {n : Nat} {vs : List Value} {bs : List Nat}, ArgsR X.w X.I X.J ps xs vs bs → EB X ps xs n bs → ∀ o, n ≤ o → o < n + mCount ps → ∃ T x, X.objs o = some (.box T (.pv false T x)) ∧ (X.φ o).blk ∈ bs ∧ bs[o - n]? = some (X.φ o).blk ∧ ObjR X (X.φ o) (.box T (.pv false T x)) := by
  intro ps
  induction ps with
  | nil => intro xs n vs bs _ _ o h1 h2; simp only [mCount] at h2; omega
  | cons p ps ih =>
    intro xs n vs bs h k o h1 h2
    cases p with
    | lent T => obtain ⟨v, r, rfl, _, h⟩ := h; exact ih (xs := xs.2) h k o h1 h2
    | leak T => obtain ⟨v, r, rfl, _, h⟩ := h; exact ih (xs := xs.2) h k o h1 h2
    | mbox T =>
      obtain ⟨b, r, bs', rfl, rfl, g1, g2, h⟩ := h
      obtain ⟨b', r', e, k1, k2, k3⟩ := k
      simp only [List.cons.injEq] at e
      obtain ⟨rfl, rfl⟩ := e
      by_cases e : o = n
      · subst e
        refine ⟨T, xs.1, k2, by rw [k1]; simp, by rw [k1]; simp, by simp [AV.fits], ?_, ?_⟩
        · rw [k1]; exact g1
        · rw [k1]; exact g2
      · simp only [mCount] at h2
        obtain ⟨T', x, q1, q2, q3, q4⟩ := ih (xs := xs.2) h k3 o (by omega) (by omega)
        refine ⟨T', x, q1, by simp [q2], ?_, q4⟩
        have : o - n = (o - (n + 1)) + 1 := by omega
        rw [this]
        simpa using q3

theorem meets (hE : env.Ok P) {anns : List Ann} {sg : Sig} {N : Nat} {g : FuncId} {fn : Func} {body : Code} (hf : P.funcs[g]? = some fn) (hb : fn.body = some body)
    (h : ∀ xs r, sg.fn xs = some r → ∃ k, runF env anns sg N k g fn body xs = some r) : Meets P g sg := by
  intro w I J xs vs bs hij hj hargs hnd hnJ r hr cs0
  let E : Fix := { w0 := w, I0 := I, J0 := J, S := fun b => b ∈ bs }
  let X : Ctx := { w := w, I := I, J := J, objs := entryO sg.ps xs 0 (fun _ => none), φ := fun i => ⟨bs.getD i 0, 0, 0, false⟩ }
  have hEB : EB X sg.ps xs 0 bs := EB_of (X := X) (all := bs) (s := fun _ => none) hargs (fun i => rfl) (fun i => by rw [Nat.zero_add]) (fun o _ => rfl)
  have hobj : ∀ o ob, X.objs o = some ob → ∃ T x, ob = .box T (.pv false T x) ∧ bs[o]? = some (X.φ o).blk ∧ ObjR X (X.φ o) ob := fun o ob ho => by
    rcases entryO_at (show entryO sg.ps xs 0 (fun _ => none) o = some ob from ho) with h1 | h1
    · exact absurd h1 (by simp)
    · obtain ⟨T, x, q1, q2, q3, q4⟩ := EB.objs (X := X) hargs hEB o h1.1 h1.2
      rw [ho] at q1
      obtain rfl := Option.some.inj q1
      exact ⟨T, x, rfl, by simpa using q3, q4⟩
  have hown : ∀ o b, Own X.objs X.φ o b → bs[o]? = some b := fun o b hb => by
    cases ho : X.objs o with
    | none => unfold Own at hb; rw [ho] at hb; exact hb.elim
    | some ob =>
      obtain ⟨T, x, rfl, h1, _⟩ := hobj o ob ho
      unfold Own at hb
      rw [ho] at hb
      rw [hb]; exact h1
  have hlt : ∀ b, b ∈ bs → b < w.heap.size := by
    have aux : ∀ (ps : List Par) (xs : (parsTy ps).D) (vs : List Value) (bs : List Nat), ArgsR w I J ps xs vs bs → ∀ b, b ∈ bs → b < w.heap.size := by
      intro ps
      induction ps with
      | nil => intro xs vs bs h b hb; rw [h.2] at hb; exact absurd hb (by simp)
      | cons p ps ih =>
        intro xs vs bs h b hb
        cases p with
        | lent T => obtain ⟨v, r, _, _, h⟩ := h; exact ih xs.2 _ _ h b hb
        | leak T => obtain ⟨v, r, _, _, h⟩ := h; exact ih xs.2 _ _ h b hb
        | mbox T =>
          obtain ⟨b0, r, bs', _, rfl, ⟨cs, te, hc, _⟩, _, h⟩ := h
          rcases List.mem_cons.1 hb with e | e
          · subst e; exact (Array.getElem?_eq_some_iff.1 hc).1
          · exact ih xs.2 _ _ h b e
    exact aux _ _ _ _ hargs
  have F : Fits E X := by
    refine ⟨Keep.refl _ _, fun o ob ho => (hobj o ob ho).choose_spec.choose_spec.2.2, fun o o' b h1 h2 => ?_, fun o b h1 => hnJ b (List.mem_of_getElem? (hown o b h1)), fun o b h1 => ⟨hlt b (List.mem_of_getElem? (hown o b h1)), .inr (List.mem_of_getElem? (hown o b h1))⟩,
      fun o v m T ys ho _ => ?_, hij, hj, fun _ h => h, fun _ h => .inl h, fun _ h => h, fun _ h => .inl h⟩
    · obtain ⟨hi, e3⟩ := List.getElem?_eq_some_iff.1 (hown o b h1)
      obtain ⟨hj, e4⟩ := List.getElem?_eq_some_iff.1 (hown o' b h2)
      exact (List.getElem_inj hnd).1 (e3.trans e4.symm)
    · obtain ⟨T', x, e, _⟩ := hobj o _ ho; cases e
  obtain ⟨hl, hs⟩ := EB.slots (X := X) rfl hargs hEB
  have S : Sim E X (entry sg g fn body xs) (vs.toArray ++ Array.replicate (fn.ntmps - vs.length) undef) [] := ⟨F, slots_enter hl hs fn.ntmps, rfl, rfl⟩
  obtain ⟨k, hrun⟩ := h xs r hr
  obtain ⟨w', v, fr, I', owns, st, hfn, hlv, hp⟩ := ev_ok hE (E := E) (bs := bs) (fun b => Iff.rfl) cs0 (Om_ok hE (fun b => Iff.rfl) cs0 N k) N X _ _ [] r S hEB.mb hrun
  refine ⟨.returned v, w', fr, ⟨v, rfl, I', owns, hp⟩, ?_, hfn, hlv⟩
  rw [enter_mk hf hb vs 0 (entry sg g fn body xs).fr.ss]
  exact st
end
end Go.Proofs.Ytbpfllifhpdlfaa.Ev
