/- Regions that draw their order: told in the text's order; operations that are not ordered touch nothing in common. -/
import Derived.Test.YtbpfllifhpdlfaaE20
namespace Go.Proofs.Ytbpfllifhpdlfaa.Ev
open Go
set_option linter.unusedVariables false
set_option linter.unusedSimpArgs false

def hasB (l : List Nat) (o : Nat) : Bool := l.any (Nat.beq o)
theorem hasB_iff {l : List Nat} {o : Nat} : hasB l o = true ↔ o ∈ l := by
  unfold hasB
  rw [List.any_eq_true]
  constructor
  · rintro ⟨x, hx, e⟩
    have := Nat.eq_of_beq_eq_true e
    subst this; exact hx
  · intro h; exact ⟨o, h, by simp⟩
/-- The new objects that an operation may make. -/
def wid (o : Oper) : Nat := match o.dst with
  | some _ => 16
  | none => 1
def newB (id w o : Nat) : Bool := Nat.ble id o && Nat.ble (o + 1) (id + w)
theorem newB_iff {id w o : Nat} : newB id w o = true ↔ id ≤ o ∧ o < id + w := by
  unfold newB
  rw [Bool.and_eq_true, Nat.ble_eq, Nat.ble_eq]
  exact Iff.rfl
def restr (A : List Nat) (ob : Objs) : Objs := fun o => bif hasB A o then ob o else none
def patch (A : List Nat) (id w : Nat) (ob1 ob : Objs) : Objs := fun o => bif hasB A o || newB id w o then ob1 o else ob o
theorem restr_sub (A : List Nat) (ob : Objs) : Sub (restr A ob) ob := fun o x h => by
  unfold restr at h
  cases hm : hasB A o with
  | true => rw [hm] at h; exact h
  | false => rw [hm] at h; cases h
/-- Does it leave all objects as they are? -/
def quietOp : Op → Bool
  | .alloc _ => false
  | .box _ _ => false
  | .buildSlice _ _ _ => false
  | .makeSlice _ _ _ => false
  | .store _ _ _ => false
  | .slice _ _ _ _ _ => false
  | .call c => match c.callee with
    | .builtin .len => true
    | .builtin .min => true
    | .builtin .max => true
    | _ => false
  | _ => true
def dExec (env : Env) (id : Nat) (o : Oper) (ss : List AV) (ob : Objs) : Tr (AV × Objs) :=
  match tgtOf ss o.op with
  | .op => aOp env.tab id o.op ss ob
  | .call g as => match assoc env.sigs g with
    | some sg => Tr.chk (Nat.ble sg.outs.cnt (wid o)) (aCall sg id as ob)
    | none => .fail
  | .bad => .fail
theorem dExec_gr {env : Env} {id : Nat} {o : Oper} {ss : List AV} {ob ob' : Objs} (hs : Sub ob ob') (hf : ∀ x, newB id (wid o) x = true → ob' x = none) : Gr (fun x => newB id (wid o) x = true) ob ob' (dExec env id o ss ob) (dExec env id o ss ob') := by
  unfold dExec
  split
  · exact aOp_gr (by show newB id (wid o) id = true; rw [newB_iff]; unfold wid; split <;> omega) hs hf
  · split
    · rename_i sg hsg
      intro a ob1 h
      obtain ⟨hc, h⟩ := Tr.run_chk h
      rw [hc]
      have hc := Nat.le_of_ble_eq_true hc
      exact aCall_frm (sg := sg) (fun k hk => by show newB _ _ _ = true; rw [newB_iff]; omega) ob ob' a ob1 hs hf h
    · exact Gr.fail
  · exact Gr.fail
theorem bind_ret_ob {t : Tr AV} {ob ob1 : Objs} {a : AV} (h : (t.bind fun r => .ret (r, ob)).run = some (a, ob1)) : ob1 = ob := by
  rw [Tr.run_bind] at h
  obtain ⟨b, hb, h⟩ := Option.bind_eq_some_iff.1 h
  simp only [Tr.run, Option.some.injEq, Prod.mk.injEq] at h
  exact h.2.symm
theorem ret_ob {x : AV} {ob ob1 : Objs} {a : AV} (h : (Tr.ret (x, ob)).run = some (a, ob1)) : ob1 = ob := by
  simp only [Tr.run, Option.some.injEq, Prod.mk.injEq] at h
  exact h.2.symm
theorem of_ob {β : Type} {o : Option β} {f : β → Tr (AV × Objs)} {ob ob1 : Objs} {a : AV} (h : (Tr.of o f).run = some (a, ob1)) (k : ∀ b, (f b).run = some (a, ob1) → ob1 = ob) : ob1 = ob := by
  obtain ⟨b, _, h⟩ := Tr.run_of h
  exact k b h
theorem aOp_quiet {tab : TTab} {id : Nat} {o : Op} {ss : List AV} {ob ob1 : Objs} {a : AV} (hq : quietOp o = true) (h : (aOp tab id o ss ob).run = some (a, ob1)) : ob1 = ob := by
  cases o with
  | move x => exact of_ob h fun _ h => ret_ob h
  | assign x => exact of_ob h fun _ h => ret_ob h
  | pick c x y =>
    refine of_ob h fun b h => ?_
    split at h
    · simp only [Tr.run] at h
      split at h <;> exact of_ob h fun _ h => ret_ob h
    · exact (Tr.run_fail h).elim
  | build t ps => exact of_ob h fun _ h => of_ob h fun _ h => ret_ob h
  | load t x => exact of_ob h fun _ h => of_ob h fun _ h => ret_ob h
  | nilCheck x =>
    refine of_ob h fun b h => ?_
    split at h
    · exact ret_ob (Tr.run_chk h).2
    · exact ret_ob h
    · exact (Tr.run_fail h).elim
  | binOp op xt x y yt => exact of_ob h fun _ h => of_ob h fun _ h => bind_ret_ob h
  | unOp op t x => exact of_ob h fun _ h => bind_ret_ob h
  | convert s d x => exact of_ob h fun _ h => bind_ret_ob h
  | makeFunc f first caps =>
    cases f with
    | func f => exact of_ob (Tr.run_chk h).2 fun _ h => ret_ob h
    | _ => exact (Tr.run_fail h).elim
  | fieldAddr s x j => exact of_ob h fun _ h => of_ob h fun _ h => ret_ob h
  | field s x j => exact of_ob h fun _ h => of_ob h fun _ h => ret_ob h
  | indexAddr t x i => exact of_ob h fun _ h => of_ob h fun _ h => of_ob h fun _ h => ret_ob (Tr.run_grd (Tr.run_grd h).2).2
  | index t x i =>
    refine of_ob h fun b h => ?_
    split at h
    · refine of_ob h fun _ h => of_ob h fun _ h => ?_
      split at h
      · exact ret_ob (Tr.run_grd (Tr.run_grd h).2).2
      · exact (Tr.run_fail h).elim
    · exact (Tr.run_fail h).elim
  | extract x n => exact of_ob h fun _ h => of_ob h fun _ h => ret_ob h
  | call c =>
    simp only [aOp] at h
    simp only [quietOp] at hq
    split at h
    · rename_i b hb
      rw [hb] at hq
      unfold aBuiltin at h
      split at h
      · exact of_ob h fun _ h => of_ob h fun _ h => ret_ob h
      · simp at hq
      · exact of_ob h fun _ h => of_ob h fun _ h => of_ob h fun _ h => ret_ob h
      · exact of_ob h fun _ h => of_ob h fun _ h => of_ob h fun _ h => ret_ob h
      · exact (Tr.run_fail h).elim
    · exact (Tr.run_fail h).elim
  | alloc t => exact absurd hq (by simp [quietOp])
  | box t x => exact absurd hq (by simp [quietOp])
  | buildSlice t n x => exact absurd hq (by simp [quietOp])
  | makeSlice t n x => exact absurd hq (by simp [quietOp])
  | store t n x => exact absurd hq (by simp [quietOp])
  | slice t n x y z => exact absurd hq (by simp [quietOp])
  | _ => exact (Tr.run_fail h).elim
theorem dExec_quiet {env : Env} {id : Nat} {o : Oper} {ss : List AV} {ob ob1 : Objs} {a : AV} (hq : quietOp o.op = true) (h : (dExec env id o ss ob).run = some (a, ob1)) : ob1 = ob := by
  unfold dExec at h
  split at h
  · exact aOp_quiet hq h
  · rename_i g as hg
    exfalso
    unfold tgtOf at hg
    split at hg
    · rename_i c hc
      rw [hc] at hq
      simp only [quietOp] at hq
      split at hg
      · rename_i f hf
        rw [hf] at hq
        exact absurd hq (by simp)
      · exact absurd hg (by simp)
      · exact absurd hg (by simp)
    · exact absurd hg (by simp)
  · exact (Tr.run_fail h).elim

/-! ### What an operation looks at -/
def tmpsOf (l : List Operand) : List Tmp := l.filterMap fun | .tmp t => some t | _ => none
def AgreeOn (l : List Tmp) (ss ss' : List AV) : Prop := ∀ t, t ∈ l → ss'.getD t .undef = ss.getD t .undef
theorem valOf_agree {ss ss' : List AV} {x : Operand} (h : ∀ t, x = .tmp t → ss'.getD t .undef = ss.getD t .undef) : valOf ss' x = valOf ss x := by
  cases x with
  | tmp t => simp only [valOf]; rw [h t rfl]
  | _ => rfl
theorem valsOf_agree {ss ss' : List AV} : ∀ {l : List Operand}, (∀ t, Operand.tmp t ∈ l → ss'.getD t .undef = ss.getD t .undef) → valsOf ss' l = valsOf ss l := by
  intro l
  induction l with
  | nil => intro _; rfl
  | cons x l ih =>
    intro h
    simp only [valsOf]
    rw [ih fun t ht => h t (List.mem_cons_of_mem _ ht), valOf_agree fun t ht => h t (by rw [ht]; exact List.mem_cons_self)]
theorem capsOf_agree {ss ss' : List AV} : ∀ {l : List Operand}, (∀ t, Operand.tmp t ∈ l → ss'.getD t .undef = ss.getD t .undef) → capsOf ss' l = capsOf ss l := by
  intro l
  induction l with
  | nil => intro _; rfl
  | cons x l ih =>
    intro h
    simp only [capsOf]
    rw [ih fun t ht => h t (List.mem_cons_of_mem _ ht), valOf_agree fun t ht => h t (by rw [ht]; exact List.mem_cons_self)]
theorem valParts_agree {ss ss' : List AV} : ∀ {l : List (Nat × Operand)}, (∀ t, Operand.tmp t ∈ l.map (·.2) → ss'.getD t .undef = ss.getD t .undef) → valParts ss' l = valParts ss l := by
  intro l
  induction l with
  | nil => intro _; rfl
  | cons x l ih =>
    obtain ⟨i, x⟩ := x
    intro h
    simp only [valParts]
    rw [ih fun t ht => h t (by rw [List.map_cons]; exact List.mem_cons_of_mem _ ht), valOf_agree fun t ht => h t (by rw [List.map_cons, ht]; exact List.mem_cons_self)]
theorem optInt_agree {ss ss' : List AV} {x : Option Operand} (h : ∀ t, x = some (.tmp t) → ss'.getD t .undef = ss.getD t .undef) : optInt ss' x = optInt ss x := by
  cases x with
  | none => rfl
  | some x => simp only [optInt]; rw [valOf_agree fun t ht => h t (by rw [ht])]
theorem dExec_agree {env : Env} {id : Nat} {o : Oper} {ss ss' : List AV} (h : ∀ t, Operand.tmp t ∈ o.op.operands.toList → ss'.getD t .undef = ss.getD t .undef) : dExec env id o ss' = dExec env id o ss := by
  obtain ⟨dst, op, ty, pos, after, guard⟩ := o
  funext ob
  cases op with
  | call c =>
    simp only [Op.operands, Call.operands] at h
    have hargs : ∀ t, Operand.tmp t ∈ c.args.toList → ss'.getD t .undef = ss.getD t .undef := fun t ht => h t (by simp at ht ⊢; exact .inr ht)
    have h1 : tgtOf ss' (.call c) = tgtOf ss (.call c) := by
      simp only [tgtOf]
      split
      · rename_i f hf
        rw [valOf_agree fun t ht => h t (by simp [hf, ht]), valsOf_agree hargs]
      · rfl
      · rfl
    have h2 : ∀ ob, aOp env.tab id (.call c) ss' ob = aOp env.tab id (.call c) ss ob := by
      intro ob
      simp only [aOp]
      split
      · unfold aBuiltin
        split
        · rename_i x t e1 e2 e3
          rw [valOf_agree fun u hu => hargs u (by rw [e1, hu]; simp)]
        · rename_i x y t u e1 e2 e3
          rw [valOf_agree (x := x) fun u hu => hargs u (by rw [e1, hu]; simp), valOf_agree (x := y) fun u hu => hargs u (by rw [e1, hu]; simp)]
        · rename_i x y e1 e2
          rw [valOf_agree (x := x) fun u hu => hargs u (by rw [e1, hu]; simp), valOf_agree (x := y) fun u hu => hargs u (by rw [e1, hu]; simp)]
        · rename_i x y e1 e2
          rw [valOf_agree (x := x) fun u hu => hargs u (by rw [e1, hu]; simp), valOf_agree (x := y) fun u hu => hargs u (by rw [e1, hu]; simp)]
        · rfl
      · rfl
    simp only [dExec, h1, h2]
  | pick c x y =>
    simp only [Op.operands] at h
    simp only [dExec, tgtOf, aOp]
    rw [valOf_agree (x := c) fun u hu => h u (by simp [hu]), valOf_agree (x := x) fun u hu => h u (by simp [hu]), valOf_agree (x := y) fun u hu => h u (by simp [hu])]
  | build t ps =>
    simp only [Op.operands] at h
    simp only [dExec, tgtOf, aOp]
    rw [valParts_agree fun u hu => h u (by simpa using hu)]
  | buildSlice t n ps =>
    simp only [Op.operands] at h
    simp only [dExec, tgtOf, aOp]
    rw [valParts_agree fun u hu => h u (by simpa using hu)]
  | makeFunc f first caps =>
    simp only [Op.operands] at h
    cases f with
    | func f =>
      simp only [dExec, tgtOf, aOp]
      rw [capsOf_agree fun u hu => h u (by simp at hu ⊢; exact .inr hu)]
    | _ => rfl
  | slice t x lo hi mx =>
    simp only [Op.operands] at h
    cases mx with
    | some m => rfl
    | none =>
      simp only [dExec, tgtOf, aOp]
      rw [valOf_agree (x := x) fun u hu => h u (by simp [hu]), optInt_agree (x := lo) fun u hu => h u (by simp [hu]), optInt_agree (x := hi) fun u hu => h u (by simp [hu])]
  | move x => simp only [Op.operands] at h; simp only [dExec, tgtOf, aOp]; rw [valOf_agree (x := x) fun u hu => h u (by simp [hu])]
  | assign x => simp only [Op.operands] at h; simp only [dExec, tgtOf, aOp]; rw [valOf_agree (x := x) fun u hu => h u (by simp [hu])]
  | box t x => simp only [Op.operands] at h; simp only [dExec, tgtOf, aOp]; rw [valOf_agree (x := x) fun u hu => h u (by simp [hu])]
  | load t x => simp only [Op.operands] at h; simp only [dExec, tgtOf, aOp]; rw [valOf_agree (x := x) fun u hu => h u (by simp [hu])]
  | nilCheck x => simp only [Op.operands] at h; simp only [dExec, tgtOf, aOp]; rw [valOf_agree (x := x) fun u hu => h u (by simp [hu])]
  | unOp op t x => simp only [Op.operands] at h; simp only [dExec, tgtOf, aOp]; rw [valOf_agree (x := x) fun u hu => h u (by simp [hu])]
  | convert s t x => simp only [Op.operands] at h; simp only [dExec, tgtOf, aOp]; rw [valOf_agree (x := x) fun u hu => h u (by simp [hu])]
  | fieldAddr s x j => simp only [Op.operands] at h; simp only [dExec, tgtOf, aOp]; rw [valOf_agree (x := x) fun u hu => h u (by simp [hu])]
  | field s x j => simp only [Op.operands] at h; simp only [dExec, tgtOf, aOp]; rw [valOf_agree (x := x) fun u hu => h u (by simp [hu])]
  | extract x n => simp only [Op.operands] at h; simp only [dExec, tgtOf, aOp]; rw [valOf_agree (x := x) fun u hu => h u (by simp [hu])]
  | store t x y => simp only [Op.operands] at h; simp only [dExec, tgtOf, aOp]; rw [valOf_agree (x := x) fun u hu => h u (by simp [hu]), valOf_agree (x := y) fun u hu => h u (by simp [hu])]
  | binOp op t x y u => simp only [Op.operands] at h; simp only [dExec, tgtOf, aOp]; rw [valOf_agree (x := x) fun u hu => h u (by simp [hu]), valOf_agree (x := y) fun u hu => h u (by simp [hu])]
  | makeSlice t x y => simp only [Op.operands] at h; simp only [dExec, tgtOf, aOp]; rw [valOf_agree (x := x) fun u hu => h u (by simp [hu]), valOf_agree (x := y) fun u hu => h u (by simp [hu])]
  | indexAddr t x y => simp only [Op.operands] at h; simp only [dExec, tgtOf, aOp]; rw [valOf_agree (x := x) fun u hu => h u (by simp [hu]), valOf_agree (x := y) fun u hu => h u (by simp [hu])]
  | index t x y => simp only [Op.operands] at h; simp only [dExec, tgtOf, aOp]; rw [valOf_agree (x := x) fun u hu => h u (by simp [hu]), valOf_agree (x := y) fun u hu => h u (by simp [hu])]
  | _ => rfl
end Go.Proofs.Ytbpfllifhpdlfaa.Ev
