/- Whatever order is drawn, it comes to the same. -/
import Derived.Test.YtbpfllifhpdlfaaE21
import Derived.Orders
namespace Go.Proofs.Ytbpfllifhpdlfaa.Ev
open Go
set_option linter.unusedVariables false
set_option linter.unusedSimpArgs false

abbrev Foot := Option (List Nat)
def view : Foot → Objs → Objs
  | none, ob => ob
  | some A, ob => restr A ob
def aft (q : Bool) (A : Foot) (id w : Nat) (ob1 ob : Objs) : Objs := match q with
  | true => ob
  | false => match A with
    | none => ob1
    | some A => patch A id w ob1 ob
def gOn (ops : Array Oper) (ss : List AV) (o : Oper) : Option Bool := match o.guard with
  | none => some true
  | some (j, want) => match (ops[j]?).bind (·.dst) with
    | none => none
    | some d => match ss.getD d .undef with
      | .pv _ .bool t => some (t == want)
      | .tnil => some false
      | _ => none
abbrev DS := List AV × Objs
def Free (A : Foot) (id w : Nat) (ob : Objs) : Prop := A = none ∨ ∀ x, newB id w x = true → ob x = none
def DStep (env : Env) (fb : Nat) (ops : Array Oper) (x : Nat × Foot) (s s' : DS) : Prop :=
  ∃ o, ops[x.1]? = some o ∧ ((gOn ops s.1 o = some false ∧ s' = (putA s.1 o.dst .tnil, s.2)) ∨
    (gOn ops s.1 o = some true ∧ Free x.2 (idOf fb o) (wid o) s.2 ∧ ∃ v ob1, (dExec env (idOf fb o) o s.1 (view x.2 s.2)).run = some (v, ob1) ∧ s' = (putA s.1 o.dst v, aft (quietOp o.op) x.2 (idOf fb o) (wid o) ob1 s.2)))
def DRun (env : Env) (fb : Nat) (ops : Array Oper) : List (Nat × Foot) → DS → DS → Prop
  | [], s, s' => s = s'
  | x :: l, s, s' => ∃ s1, DStep env fb ops x s s1 ∧ DRun env fb ops l s1 s'

def disjB (A B : List Nat) (i v j w : Nat) : Bool := A.all (fun o => !hasB B o && !newB j w o) && B.all (fun o => !newB i v o) && (Nat.ble (i + v) j || Nat.ble (j + w) i)
def indB (fb : Nat) (ops : Array Oper) (x y : Nat × Foot) : Bool :=
  match ops[x.1]?, ops[y.1]? with
  | some a, some b => a.apart ops b && ((quietOp a.op && quietOp b.op) || (match x.2, y.2 with
    | some A, some B => disjB A B (idOf fb a) (wid a) (idOf fb b) (wid b)
    | _, _ => false))
  | _, _ => false

section
variable {env : Env} {fb : Nat} {ops : Array Oper}

theorem getD_putA {ss : List AV} {d : Option Tmp} {v : AV} {t : Tmp} (h : ∀ e, d = some e → e ≠ t) : (putA ss d v).getD t .undef = ss.getD t .undef := by
  cases d with
  | none => rfl
  | some d =>
    have := h d rfl
    simp [putA, List.getD_eq_getElem?_getD, List.getElem?_set_ne this]
theorem putA_comm {ss : List AV} {d e : Option Tmp} {u v : AV} (h : ∀ t, d = some t → e ≠ some t) : putA (putA ss d u) e v = putA (putA ss e v) d u := by
  cases d with
  | none => rfl
  | some d =>
    cases e with
    | none => rfl
    | some e =>
      have hne : d ≠ e := fun he => h d rfl (by rw [he])
      simp [putA, List.set_comm _ _ hne]
theorem gOn_put {ss : List AV} {o : Oper} {d : Option Tmp} {v : AV} (h : ∀ t, d = some t → t ∉ o.looksAt ops) : gOn ops (putA ss d v) o = gOn ops ss o := by
  unfold gOn
  split
  · rfl
  · rename_i j want hg
    split
    · rfl
    · rename_i e he
      rw [getD_putA fun t ht heq => h t ht (by subst heq; simp [Oper.looksAt, hg, he])]
theorem dExec_put {ss : List AV} {id : Nat} {o : Oper} {d : Option Tmp} {v : AV} (h : ∀ t, d = some t → t ∉ o.looksAt ops) : dExec env id o (putA ss d v) = dExec env id o ss :=
  dExec_agree fun t ht => getD_putA fun e he heq => h e he (by
    subst heq
    exact List.mem_append_left _ (List.mem_filterMap.2 ⟨.tmp e, ht, rfl⟩))

theorem aft_out {q : Bool} {A : List Nat} {id w o : Nat} {ob1 ob : Objs} (h1 : hasB A o = false) (h2 : newB id w o = false) : aft q (some A) id w ob1 ob o = ob o := by
  cases q with
  | true => rfl
  | false => simp [aft, patch, h1, h2]
theorem aft_in {A : List Nat} {id w o : Nat} {ob1 ob : Objs} (h : (hasB A o || newB id w o) = true) : aft false (some A) id w ob1 ob o = ob1 o := by
  simp only [aft, patch, h, cond_true]
structure Apart (A B : List Nat) (i v j w : Nat) : Prop where
  ab : ∀ o, hasB A o = true → hasB B o = false
  an : ∀ o, hasB A o = true → newB j w o = false
  nb : ∀ o, newB i v o = true → hasB B o = false
  nn : ∀ o, newB i v o = true → newB j w o = false
theorem disjB_ok {A B : List Nat} {i v j w : Nat} (h : disjB A B i v j w = true) : Apart A B i v j w := by
  unfold disjB at h
  simp only [Bool.and_eq_true, Bool.or_eq_true, List.all_eq_true, Bool.not_eq_true', Nat.ble_eq] at h
  obtain ⟨⟨h1, h2⟩, h3⟩ := h
  refine ⟨fun o ho => (h1 o (hasB_iff.1 ho)).1, fun o ho => (h1 o (hasB_iff.1 ho)).2, fun o ho => ?_, fun o ho => ?_⟩
  · cases hb : hasB B o with
    | false => rfl
    | true => rw [h2 o (hasB_iff.1 hb)] at ho; exact absurd ho (by simp)
  · cases hb : newB j w o with
    | false => rfl
    | true =>
      rw [newB_iff] at ho hb
      omega
theorem Apart.symm {A B : List Nat} {i v j w : Nat} (h : Apart A B i v j w) : Apart B A j w i v := by
  have flip : ∀ {p q : Nat → Bool}, (∀ o, p o = true → q o = false) → ∀ o, q o = true → p o = false := fun h o ho => by
    rename_i p q
    cases hp : p o with
    | false => rfl
    | true => rw [h o hp] at ho; exact absurd ho (by simp)
  exact ⟨flip h.ab, flip (p := newB i v) (q := hasB B) h.nb, flip (p := hasB A) (q := newB j w) h.an, flip h.nn⟩
theorem view_aft {q : Bool} {A B : List Nat} {i v j w : Nat} {ob1 ob : Objs} (h : Apart A B i v j w) : view (some B) (aft q (some A) i v ob1 ob) = view (some B) ob := by
  funext o
  simp only [view, restr]
  cases hb : hasB B o with
  | false => rfl
  | true =>
    simp only [cond_true]
    exact aft_out (h.symm.ab o hb) (h.symm.an o hb)
theorem free_aft {q : Bool} {A B : List Nat} {i v j w : Nat} {ob1 ob : Objs} (h : Apart A B i v j w) {x : Nat} (hx : newB j w x = true) : aft q (some A) i v ob1 ob x = ob x := aft_out (h.symm.nb x hx) (h.symm.nn x hx)
theorem aft_comm {q r : Bool} {A B : List Nat} {i v j w : Nat} {ob1 ob2 ob : Objs} (h : Apart A B i v j w) : aft r (some B) j w ob2 (aft q (some A) i v ob1 ob) = aft q (some A) i v ob1 (aft r (some B) j w ob2 ob) := by
  funext o
  cases q with
  | true => rfl
  | false =>
    cases r with
    | true => rfl
    | false =>
      cases ha : (hasB A o || newB i v o) with
      | true =>
        rw [aft_in (ob := aft false (some B) j w ob2 ob) ha]
        have h1 : hasB B o = false ∧ newB j w o = false := by
          rcases Bool.or_eq_true _ _ ▸ ha with h1 | h1
          · exact ⟨h.ab o h1, h.an o h1⟩
          · exact ⟨h.nb o h1, h.nn o h1⟩
        rw [aft_out h1.1 h1.2, aft_in ha]
      | false =>
        simp only [Bool.or_eq_false_iff] at ha
        rw [aft_out (ob := aft false (some B) j w ob2 ob) ha.1 ha.2]
        cases hb : (hasB B o || newB j w o) with
        | true => rw [aft_in hb, aft_in hb]
        | false =>
          simp only [Bool.or_eq_false_iff] at hb
          rw [aft_out hb.1 hb.2, aft_out hb.1 hb.2, aft_out ha.1 ha.2]

theorem swap {x y : Nat × Foot} (hI : indB fb ops x y = true) {s s1 s2 : DS} (h1 : DStep env fb ops x s s1) (h2 : DStep env fb ops y s1 s2) : ∃ s1', DStep env fb ops y s s1' ∧ DStep env fb ops x s1' s2 := by
  obtain ⟨i, A⟩ := x
  obtain ⟨j, B⟩ := y
  obtain ⟨a, ha, h1⟩ := h1
  obtain ⟨b, hb, h2⟩ := h2
  dsimp only at ha hb h1 h2
  unfold indB at hI
  dsimp only at hI
  rw [ha, hb] at hI
  simp only [Bool.and_eq_true, Bool.or_eq_true] at hI
  obtain ⟨hap, hm⟩ := hI
  obtain ⟨p1, p2, p3⟩ := Oper.apart_spec hap
  obtain ⟨ss, ob⟩ := s
  -- how the one's turn leaves what the other looks at
  have key : ∀ {u : AV} {obx : Objs} {w' : AV} {oby : Objs}, (obx = ob ∨ ∃ obx1, obx = aft (quietOp a.op) A (idOf fb a) (wid a) obx1 ob) → (oby = ob ∨ ∃ oby1, oby = aft (quietOp b.op) B (idOf fb b) (wid b) oby1 ob) →
      (view B obx = view B ob ∧ (Free B (idOf fb b) (wid b) obx → Free B (idOf fb b) (wid b) ob)) ∧ (view A oby = view A ob ∧ (Free A (idOf fb a) (wid a) ob → Free A (idOf fb a) (wid a) oby)) := by
    intro u obx w' oby hx hy
    rcases hm with ⟨q1, q2⟩ | hd
    · have e1 : obx = ob := by
        rcases hx with hx | ⟨_, hx⟩
        · exact hx
        · rw [hx, q1]; rfl
      have e2 : oby = ob := by
        rcases hy with hy | ⟨_, hy⟩
        · exact hy
        · rw [hy, q2]; rfl
      subst e1 e2
      exact ⟨⟨rfl, id⟩, rfl, id⟩
    · split at hd
      · rename_i A B
        have hd := disjB_ok hd
        refine ⟨?_, ?_⟩
        · rcases hx with hx | ⟨_, hx⟩
          · subst hx; exact ⟨rfl, id⟩
          · subst hx
            refine ⟨view_aft hd, fun hf => .inr fun z hz => ?_⟩
            rcases hf with hf | hf
            · exact absurd hf (by simp)
            · have := hf z hz; rwa [free_aft hd hz] at this
        · rcases hy with hy | ⟨_, hy⟩
          · subst hy; exact ⟨rfl, id⟩
          · subst hy
            refine ⟨view_aft hd.symm, fun hf => .inr fun z hz => ?_⟩
            rcases hf with hf | hf
            · exact absurd hf (by simp)
            · rw [free_aft hd.symm hz]; exact hf z hz
      · exact absurd hd (by simp)
  have comm : ∀ obx1 oby1, aft (quietOp b.op) B (idOf fb b) (wid b) oby1 (aft (quietOp a.op) A (idOf fb a) (wid a) obx1 ob) = aft (quietOp a.op) A (idOf fb a) (wid a) obx1 (aft (quietOp b.op) B (idOf fb b) (wid b) oby1 ob) := by
    intro obx1 oby1
    rcases hm with ⟨q1, q2⟩ | hd
    · rw [q1, q2]; rfl
    · split at hd
      · exact aft_comm (disjB_ok hd)
      · exact absurd hd (by simp)
  have hput : ∀ u v, putA (putA ss a.dst u) b.dst v = putA (putA ss b.dst v) a.dst u := fun u v => putA_comm p2
  rcases h1 with ⟨g1, e1⟩ | ⟨g1, f1, v1, ob1, r1, e1⟩
  · subst e1
    dsimp only at g1
    rcases h2 with ⟨g2, e2⟩ | ⟨g2, f2, v2, ob2, r2, e2⟩
    · subst e2
      dsimp only at g2
      rw [gOn_put p1] at g2
      refine ⟨(putA ss b.dst .tnil, ob), ⟨b, hb, .inl ⟨g2, rfl⟩⟩, a, ha, .inl ⟨by dsimp only; rw [gOn_put p3]; exact g1, by dsimp only; rw [hput]⟩⟩
    · subst e2
      dsimp only at g2 f2 r2
      rw [gOn_put p1] at g2
      rw [dExec_put p1] at r2
      refine ⟨(putA ss b.dst v2, aft (quietOp b.op) B (idOf fb b) (wid b) ob2 ob), ⟨b, hb, .inr ⟨g2, f2, v2, ob2, r2, rfl⟩⟩, a, ha, .inl ⟨by dsimp only; rw [gOn_put p3]; exact g1, by dsimp only; rw [hput]⟩⟩
  · subst e1
    dsimp only at g1 f1 r1
    rcases h2 with ⟨g2, e2⟩ | ⟨g2, f2, v2, ob2, r2, e2⟩
    · subst e2
      dsimp only at g2
      rw [gOn_put p1] at g2
      refine ⟨(putA ss b.dst .tnil, ob), ⟨b, hb, .inl ⟨g2, rfl⟩⟩, a, ha, .inr ⟨by dsimp only; rw [gOn_put p3]; exact g1, f1, v1, ob1, by dsimp only; rw [dExec_put p3]; exact r1, by dsimp only; rw [hput]⟩⟩
    · subst e2
      dsimp only at g2 f2 r2
      rw [gOn_put p1] at g2
      rw [dExec_put p1] at r2
      obtain ⟨⟨k1, k2⟩, k3, k4⟩ := key (u := v1) (w' := v2) (.inr ⟨ob1, rfl⟩) (.inr ⟨ob2, rfl⟩)
      rw [k1] at r2
      refine ⟨(putA ss b.dst v2, aft (quietOp b.op) B (idOf fb b) (wid b) ob2 ob), ⟨b, hb, .inr ⟨g2, k2 f2, v2, ob2, r2, rfl⟩⟩, a, ha, .inr ⟨by dsimp only; rw [gOn_put p3]; exact g1, k4 f1, v1, ob1, by dsimp only; rw [dExec_put p3, k3]; exact r1, by dsimp only; rw [hput, comm]⟩⟩
theorem bubble {x : Nat × Foot} {T2 : List (Nat × Foot)} {s' : DS} : ∀ {T1 : List (Nat × Foot)} {s : DS}, (∀ y, y ∈ T1 → indB fb ops y x = true) → DRun env fb ops (T1 ++ x :: T2) s s' → DRun env fb ops (x :: (T1 ++ T2)) s s' := by
  intro T1
  induction T1 with
  | nil => intro s _ h; exact h
  | cons y T1 ih =>
    intro s hI h
    obtain ⟨s1, h1, h2⟩ := h
    obtain ⟨s2, h3, h4⟩ := ih (fun z hz => hI z (List.mem_cons_of_mem _ hz)) h2
    obtain ⟨s1', h5, h6⟩ := swap (hI y List.mem_cons_self) h1 h3
    exact ⟨s1', h5, s2, h6, h4⟩
end
end Go.Proofs.Ytbpfllifhpdlfaa.Ev
