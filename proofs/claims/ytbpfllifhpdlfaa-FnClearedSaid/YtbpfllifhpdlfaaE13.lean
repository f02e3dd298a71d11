/- One operation of the machine that is no call of a Go function, told abstractly. -/
import Derived.Test.YtbpfllifhpdlfaaE12
namespace Go.Proofs.Ytbpfllifhpdlfaa.Ev
open Go
set_option linter.unusedVariables false
set_option linter.unusedSimpArgs false

def asInt? : AV → Option (IntKind × Int)
  | .pv _ (.int k) n => some (k, n)
  | _ => none
def optInt (ss : List AV) : Option Operand → Option (Option Int)
  | none => some none
  | some x => match valOf ss x with
    | some (.pv _ (.int _) n) => some (some n)
    | _ => none
def capsOf (ss : List AV) : List Operand → Option (List Nat)
  | [] => some []
  | x :: r => match valOf ss x, capsOf ss r with
    | some (.bptr o []), some l => some (o :: l)
    | _, _ => none
/-- A row of one's own is told to last before a piece of it is taken. -/
def sliceSrc (ob : Objs) : AV → Option (AV × Objs)
  | .row o v => match ob o with
    | some (.row v' m T xs) => if Nat.beq v v' = true then some (.pv m (.slice T) xs, ob.put o (.imm v' m T xs)) else none
    | some (.imm v' m T xs) => if Nat.beq v v' = true then some (.pv m (.slice T) xs, ob) else none
    | _ => none
  | a => some (a, ob)
def aBuiltin (tab : TTab) (id : Nat) (ss : List AV) (ob : Objs) (b : Builtin) (args : Array Operand) (tys : Array TypeId) : Tr (AV × Objs) :=
  match b, args.toList, tys.toList with
  | .len, [x], [t] => Tr.of (valOf ss x) fun a => Tr.of (aLen tab ob t a) fun n => .ret (pvI .i64 n, ob)
  | .append, [x, y], [t, u] => Tr.chk (Nat.beq t u) <| Tr.of (valOf ss x) fun a => Tr.of (valOf ss y) fun b => aAppend tab ob id t a b
  | .min, [x, y], _ => Tr.of (valOf ss x) fun a => Tr.of (valOf ss y) fun b => Tr.of (aMinMax false a b) fun r => .ret (r, ob)
  | .max, [x, y], _ => Tr.of (valOf ss x) fun a => Tr.of (valOf ss y) fun b => Tr.of (aMinMax true a b) fun r => .ret (r, ob)
  | _, _, _ => .fail
def aOp (tab : TTab) (id : Nat) (o : Op) (ss : List AV) (ob : Objs) : Tr (AV × Objs) :=
  match o with
  | .move x | .assign x => Tr.of (valOf ss x) fun a => .ret (a, ob)
  | .pick c x y => Tr.of (valOf ss c) fun
    | .pv _ .bool b => .ite b (Tr.of (valOf ss x) fun a => .ret (a, ob)) (Tr.of (valOf ss y) fun a => .ret (a, ob))
    | _ => .fail
  | .alloc t => Tr.of (aAlloc tab ob id t) .ret
  | .box t x => Tr.of (valOf ss x) fun a => Tr.of (aBox tab ob id t a) .ret
  | .build t ps => Tr.of (valParts ss ps.toList) fun l => Tr.of (aBuild tab ob t l) fun a => .ret (a, ob)
  | .buildSlice t n ps => Tr.of (valParts ss ps.toList) fun l => Tr.of (aBuildSlice tab ob id t n l) .ret
  | .load t x => Tr.of (valOf ss x) fun a => Tr.of (aLoad tab ob t a) fun r => .ret (r, ob)
  | .store t x y => Tr.of (valOf ss x) fun a => Tr.of (valOf ss y) fun b => Tr.of (aStore tab ob t a b) fun ob' => .ret (.undef, ob')
  | .nilCheck x => Tr.of (valOf ss x) fun
    | .bptr o p => Tr.chk ((AV.bptr o p).cur ob) (.ret (.bptr o p, ob))
    | .pp m T y => .ret (.pp m T y, ob)
    | _ => .fail
  | .binOp op xt x y _ => Tr.of (valOf ss x) fun a => Tr.of (valOf ss y) fun b => (binV tab op xt a b).bind fun r => .ret (r, ob)
  | .unOp op _ x => Tr.of (valOf ss x) fun a => (unV op a).bind fun r => .ret (r, ob)
  | .convert s d x => Tr.of (valOf ss x) fun a => (convV tab s d a).bind fun r => .ret (r, ob)
  | .makeFunc (.func f) first caps => Tr.chk first.toList.isEmpty <| Tr.of (capsOf ss caps.toList) fun os => .ret (.fn f os, ob)
  | .makeSlice t l c => Tr.of ((valOf ss l).bind asInt?) fun a => Tr.of ((valOf ss c).bind asInt?) fun b => aMake tab ob id t a.2 b.2
  | .slice t x lo hi none => Tr.of (valOf ss x) fun a => Tr.of (optInt ss lo) fun l => Tr.of (optInt ss hi) fun h => Tr.of (sliceSrc ob a) fun p => (aSlice tab t l h p.1).bind fun r => .ret (r, p.2)
  | .fieldAddr s x j => Tr.of (valOf ss x) fun a => Tr.of (aFieldAddr tab ob s j a) fun r => .ret (r, ob)
  | .field s x j => Tr.of (valOf ss x) fun a => Tr.of (aField tab ob s j a) fun r => .ret (r, ob)
  | .indexAddr t x i => Tr.of (valOf ss x) fun a => Tr.of ((valOf ss i).bind asInt?) fun n => Tr.of (aElem tab ob t a) fun p => Tr.grd (decide (0 ≤ n.2)) <| Tr.grd (decide (n.2 < p.1)) <| .ret (p.2 n.2.toNat, ob)
  | .index t x i => Tr.of (valOf ss x) fun
    | .pv _ .str s => Tr.of ((valOf ss i).bind asInt?) fun n => Tr.of (tab.find t) fun
      | ⟨_, .str, _⟩ => Tr.grd (decide (0 ≤ n.2)) <| Tr.grd (decide (n.2 < (s.size : Int))) <| .ret (pvI .u8 (strAt s n.2), ob)
      | _ => .fail
    | _ => .fail
  | .extract x n => Tr.of (valOf ss x) fun a => Tr.of (aExtract a n) fun r => .ret (r, ob)
  | .call c => match c.callee with
    | .builtin b => aBuiltin tab id ss ob b c.args c.argTypes
    | _ => .fail
  | _ => .fail

section
variable {P : Program} {E : Fix} {X : Ctx} {tab : TTab}

/-- The operation runs through, and what is known then fits the world then. -/
def Comes1 (P : Program) (E : Fix) (X : Ctx) (s : Sem Next) (r : AV) (ob' : Objs) : Prop :=
  ∃ X' nx val, s.run P X.w = .ok nx X'.w ∧ (nx = .value val ∨ (nx = .skip ∧ val = undef)) ∧ SlotR X' r val ∧ Fits E X' ∧ X'.objs = ob' ∧ Evo X X'
theorem comes_same (F : Fits E X) {s : Sem Value} {r : AV} (h : ∃ val, s.run P X.w = .ok val X.w ∧ SlotR X r val) : Comes1 P E X (do pure (.value (← s))) r X.objs := by
  obtain ⟨val, h1, h2⟩ := h
  exact ⟨X, .value val, val, by simp [h1], .inl rfl, h2, F, rfl, Evo.refl F.ij⟩
theorem comes_new {s : Sem Value} {r : AV} {ob' : Objs} (h : ∃ X' val, s.run P X.w = .ok val X'.w ∧ SlotR X' r val ∧ Fits E X' ∧ X'.objs = ob' ∧ Evo X X') : Comes1 P E X (do pure (.value (← s))) r ob' := by
  obtain ⟨X', val, h1, h2, h3, h4, h5⟩ := h
  exact ⟨X', .value val, val, by simp [h1], .inl rfl, h2, h3, h4, h5⟩

theorem asInt_ok {a : AV} {p : IntKind × Int} (h : asInt? a = some p) {v : Value} (hv : SlotR X a v) : v = .int p.1 p.2 := by
  unfold asInt? at h
  split at h
  · simp only [Option.some.injEq] at h
    subst h
    exact slot_int hv
  · exact absurd h (by simp)
theorem capsOf_ok {ss : List AV} {a : Act} (hs : SlotsR X ss a.tmps) : ∀ {l : List Operand} {os : List Nat}, capsOf ss l = some os → l.map a.eval = os.map (fun o => Value.pointer (some ⟨(X.φ o).blk, 0, none⟩)) ∧ ∀ o, o ∈ os → ∃ T b, X.objs o = some (.box T b) := by
  intro l
  induction l with
  | nil => intro os h; simp only [capsOf, Option.some.injEq] at h; subst h; exact ⟨rfl, fun o ho => absurd ho (by simp)⟩
  | cons x l ih =>
    intro os h
    simp only [capsOf] at h
    split at h
    · rename_i o r hx hr
      simp only [Option.some.injEq] at h
      subst h
      obtain ⟨h1, h2⟩ := ih hr
      have hv := valOf_ok hs hx
      cases ho : X.objs o with
      | none =>
        obtain ⟨_, _, h3⟩ := hv
        simp only [AVR, ho] at h3
      | some obj =>
        cases obj with
        | box T b =>
          obtain ⟨_, hp⟩ := slot_bptr hv ho
          refine ⟨?_, fun o' ho' => ?_⟩
          · simp only [List.map_cons, hp 0 T rfl, h1]
          · rcases List.mem_cons.1 ho' with e | e
            · subst e; exact ⟨T, b, ho⟩
            · exact h2 o' e
        | row v m T xs => obtain ⟨_, _, h3⟩ := hv; simp only [AVR, ho] at h3
        | imm v m T xs => obtain ⟨_, _, h3⟩ := hv; simp only [AVR, ho] at h3
    · exact absurd h (by simp)

theorem sliceSrc_ok (F : Fits E X) {a a' : AV} {ob' : Objs} {v : Value} (hv : SlotR X a v) (h : sliceSrc X.objs a = some (a', ob')) : ∃ X', X'.w = X.w ∧ X'.objs = ob' ∧ Fits E X' ∧ Evo X X' ∧ SlotR X' a' v := by
  unfold sliceSrc at h
  split at h
  · rename_i o w
    split at h
    · rename_i v' m T xs ho
      split at h
      · rename_i hb
        obtain rfl := Nat.eq_of_beq_eq_true hb
        simp only [Option.some.injEq, Prod.mk.injEq] at h
        obtain ⟨rfl, rfl⟩ := h
        obtain ⟨X', h2, h3, h4, h5⟩ := F.freeze ho
        refine ⟨X', h4.w, h2, h3, h4.evo, ?_⟩
        rw [slot_row hv ho]
        refine ⟨?_, ?_, Rep.congr (fun j hj => ?_) h5⟩
        · unfold Loc.sl; split <;> rfl
        · unfold Loc.sl; split <;> rfl
        · obtain rfl : j = 0 := by simp [Ty.sz] at hj; exact hj
          unfold Loc.sl; split <;> rfl
      · exact absurd h (by simp)
    · rename_i v' m T xs ho
      split at h
      · rename_i hb
        obtain rfl := Nat.eq_of_beq_eq_true hb
        simp only [Option.some.injEq, Prod.mk.injEq] at h
        obtain ⟨rfl, rfl⟩ := h
        refine ⟨X, rfl, rfl, F, Evo.refl F.ij, ?_⟩
        rw [slot_imm hv ho]
        refine ⟨?_, ?_, Rep.congr (fun j hj => ?_) (F.objs o _ ho).2⟩
        · unfold Loc.sl; split <;> rfl
        · unfold Loc.sl; split <;> rfl
        · obtain rfl : j = 0 := by simp [Ty.sz] at hj; exact hj
          unfold Loc.sl; split <;> rfl
      · exact absurd h (by simp)
    · exact absurd h (by simp)
  · simp only [Option.some.injEq, Prod.mk.injEq] at h
    obtain ⟨rfl, rfl⟩ := h
    exact ⟨X, rfl, rfl, F, Evo.refl F.ij, hv⟩

theorem optInt_ok {ss : List AV} {a : Act} (hs : SlotsR X ss a.tmps) {x : Option Operand} {r : Option Int} (h : optInt ss x = some r) : ∃ y : Option (IntKind × Int), x.map a.eval = y.map toV ∧ r = y.map snd2 := by
  cases x with
  | none => simp only [optInt, Option.some.injEq] at h; subst h; exact ⟨none, rfl, rfl⟩
  | some x =>
    simp only [optInt] at h
    split at h
    · rename_i m k n hx
      simp only [Option.some.injEq] at h
      subst h
      have := slot_int (valOf_ok hs hx)
      exact ⟨some (k, n), by simp [this, toV], rfl⟩
    · exact absurd h (by simp)

theorem aBuiltin_ok (F : Fits E X) (hT : tab.ok P = true) {id : Nat} {ss : List AV} {a : Act} (hs : SlotsR X ss a.tmps) {b : Builtin} {args : Array Operand} {tys : Array TypeId} {r : AV} {ob' : Objs} (ty : TypeId) (cs : Array Bool)
    (h : (aBuiltin tab id ss X.objs b args tys).run = some (r, ob')) : Comes1 P E X (builtin b tys ty cs (args.map a.eval)) r ob' := by
  unfold aBuiltin at h
  split at h
  · rename_i x t ha ht
    obtain ⟨v, h1, h⟩ := Tr.run_of h
    obtain ⟨n, h2, h⟩ := Tr.run_of h
    have h := Tr.run_ret h
    simp only [Prod.mk.injEq] at h
    obtain ⟨rfl, rfl⟩ := h
    have e1 : args.map a.eval = #[a.eval x] := by rw [← Array.toList_inj]; simp [ha]
    have e2 : tys = #[t] := by rw [← Array.toList_inj]; simp [ht]
    rw [e1, e2]
    exact comes_same F ⟨_, aLen_ok F hT (valOf_ok hs h1) h2, slot_mk_int _ _ _⟩
  · rename_i x y t u ha ht
    replace h := Tr.run_chk h
    obtain ⟨h0, h⟩ := h
    obtain rfl := Nat.eq_of_beq_eq_true h0
    obtain ⟨v, h1, h⟩ := Tr.run_of h
    obtain ⟨w, h2, h⟩ := Tr.run_of h
    have e1 : args.map a.eval = #[a.eval x, a.eval y] := by rw [← Array.toList_inj]; simp [ha]
    have e2 : tys = #[t, t] := by rw [← Array.toList_inj]; simp [ht]
    rw [e1, e2]
    exact comes_new (aAppend_ok F hT (valOf_ok hs h1) (valOf_ok hs h2) h)
  · rename_i x y ha
    obtain ⟨v, h1, h⟩ := Tr.run_of h
    obtain ⟨w, h2, h⟩ := Tr.run_of h
    obtain ⟨q, h3, h⟩ := Tr.run_of h
    have h := Tr.run_ret h
    simp only [Prod.mk.injEq] at h
    obtain ⟨rfl, rfl⟩ := h
    have e1 : args.map a.eval = #[a.eval x, a.eval y] := by rw [← Array.toList_inj]; simp [ha]
    rw [e1]
    unfold aMinMax at h3
    split at h3
    · split at h3
      · rename_i hk
        subst hk
        simp only [Option.some.injEq] at h3
        subst h3
        rw [slot_int (valOf_ok hs h1), slot_int (valOf_ok hs h2)]
        refine comes_same F ⟨_, ?_, slot_mk_int _ _ _⟩
        simp [Builtin.min_, Builtin.min2]
      · exact absurd h3 (by simp)
    · exact absurd h3 (by simp)
  · rename_i x y ha
    obtain ⟨v, h1, h⟩ := Tr.run_of h
    obtain ⟨w, h2, h⟩ := Tr.run_of h
    obtain ⟨q, h3, h⟩ := Tr.run_of h
    have h := Tr.run_ret h
    simp only [Prod.mk.injEq] at h
    obtain ⟨rfl, rfl⟩ := h
    have e1 : args.map a.eval = #[a.eval x, a.eval y] := by rw [← Array.toList_inj]; simp [ha]
    rw [e1]
    unfold aMinMax at h3
    split at h3
    · split at h3
      · rename_i hk
        subst hk
        simp only [Option.some.injEq] at h3
        subst h3
        rw [slot_int (valOf_ok hs h1), slot_int (valOf_ok hs h2)]
        refine comes_same F ⟨_, ?_, slot_mk_int _ _ _⟩
        simp [Builtin.max_, Builtin.max2]
      · exact absurd h3 (by simp)
    · exact absurd h3 (by simp)
  · exact (Tr.run_fail h).elim

theorem aOp_ok (F : Fits E X) (hT : tab.ok P = true) {id : Nat} {o : Oper} {ss : List AV} {a : Act} (hs : SlotsR X ss a.tmps) {r : AV} {ob' : Objs}
    (h : (aOp tab id o.op ss X.objs).run = some (r, ob')) : Comes1 P E X (execOp a.eval o) r ob' := by
  unfold aOp at h
  unfold execOp
  cases ho : o.op with
  | move x =>
    simp only [ho] at h ⊢
    obtain ⟨v, h1, h⟩ := Tr.run_of h
    have h := Tr.run_ret h
    simp only [Prod.mk.injEq] at h
    obtain ⟨rfl, rfl⟩ := h
    exact ⟨X, _, _, rfl, .inl rfl, valOf_ok hs h1, F, rfl, Evo.refl F.ij⟩
  | assign x =>
    simp only [ho] at h ⊢
    obtain ⟨v, h1, h⟩ := Tr.run_of h
    have h := Tr.run_ret h
    simp only [Prod.mk.injEq] at h
    obtain ⟨rfl, rfl⟩ := h
    exact ⟨X, _, _, rfl, .inl rfl, valOf_ok hs h1, F, rfl, Evo.refl F.ij⟩
  | pick c x y =>
    simp only [ho] at h ⊢
    obtain ⟨v, h1, h⟩ := Tr.run_of h
    split at h
    · have hc := slot_bool (valOf_ok hs h1)
      simp only [Tr.run] at h
      split at h
      · rename_i hb
        subst hb
        obtain ⟨v, h1, h⟩ := Tr.run_of h
        have h := Tr.run_ret h
        simp only [Prod.mk.injEq] at h
        obtain ⟨rfl, rfl⟩ := h
        exact ⟨X, .value (a.eval x), _, by simp [hc, asBool], .inl rfl, valOf_ok hs h1, F, rfl, Evo.refl F.ij⟩
      · rename_i hb
        have hb := Bool.eq_false_iff.2 hb
        obtain ⟨v, h1, h⟩ := Tr.run_of h
        have h := Tr.run_ret h
        simp only [Prod.mk.injEq] at h
        obtain ⟨rfl, rfl⟩ := h
        exact ⟨X, .value (a.eval y), _, by simp [hc, hb, asBool], .inl rfl, valOf_ok hs h1, F, rfl, Evo.refl F.ij⟩
    · exact (Tr.run_fail h).elim
  | alloc t =>
    simp only [ho] at h ⊢
    obtain ⟨v, h1, h⟩ := Tr.run_of h
    obtain rfl := Tr.run_ret h
    exact comes_new (aAlloc_ok F hT h1)
  | box t x =>
    simp only [ho] at h ⊢
    obtain ⟨v, h1, h⟩ := Tr.run_of h
    obtain ⟨w, h2, h⟩ := Tr.run_of h
    obtain rfl := Tr.run_ret h
    exact comes_new (aBox_ok F h2 (valOf_ok hs h1))
  | build t ps =>
    simp only [ho] at h ⊢
    obtain ⟨l, h1, h⟩ := Tr.run_of h
    obtain ⟨w, h2, h⟩ := Tr.run_of h
    have h := Tr.run_ret h
    simp only [Prod.mk.injEq] at h
    obtain ⟨rfl, rfl⟩ := h
    exact comes_same F (aBuild_ok F hT (by rw [Array.toList_map]; exact valParts_ok hs h1) h2)
  | buildSlice t n ps =>
    simp only [ho] at h ⊢
    obtain ⟨l, h1, h⟩ := Tr.run_of h
    obtain ⟨w, h2, h⟩ := Tr.run_of h
    obtain rfl := Tr.run_ret h
    exact comes_new (aBuildSlice_ok F hT (by rw [Array.toList_map]; exact valParts_ok hs h1) h2)
  | load t x =>
    simp only [ho] at h ⊢
    obtain ⟨v, h1, h⟩ := Tr.run_of h
    obtain ⟨w, h2, h⟩ := Tr.run_of h
    have h := Tr.run_ret h
    simp only [Prod.mk.injEq] at h
    obtain ⟨rfl, rfl⟩ := h
    exact comes_same F (aLoad_ok F hT (valOf_ok hs h1) h2)
  | store t x y =>
    simp only [ho] at h ⊢
    obtain ⟨v, h1, h⟩ := Tr.run_of h
    obtain ⟨w, h2, h⟩ := Tr.run_of h
    obtain ⟨q, h3, h⟩ := Tr.run_of h
    have h := Tr.run_ret h
    simp only [Prod.mk.injEq] at h
    obtain ⟨rfl, rfl⟩ := h
    obtain ⟨X', g1, g2, g3, g4⟩ := aStore_ok F hT (valOf_ok hs h1) (valOf_ok hs h2) h3
    exact ⟨X', .skip, undef, by simp [g1], .inr ⟨rfl, rfl⟩, trivial, g2, g3, g4⟩
  | nilCheck x =>
    simp only [ho] at h ⊢
    obtain ⟨v, h1, h⟩ := Tr.run_of h
    have hv := valOf_ok hs h1
    split at h
    · rename_i o p
      obtain ⟨hc, h⟩ := Tr.run_chk h
      have h := Tr.run_ret h
      simp only [Prod.mk.injEq] at h
      obtain ⟨rfl, rfl⟩ := h
      have : ∃ ad, a.eval x = .pointer (some ad) := by
        simp only [AV.cur] at hc
        split at hc
        · rename_i T b hob
          cases hat : Ty.at p T with
          | none => simp [hat] at hc
          | some q => obtain ⟨off, T'⟩ := q; exact ⟨_, (slot_bptr hv hob).2 off T' hat⟩
        · simp at hc
      obtain ⟨ad, e⟩ := this
      rw [e] at hv ⊢
      exact ⟨X, .value _, _, rfl, .inl rfl, hv, F, rfl, Evo.refl F.ij⟩
    · have h := Tr.run_ret h
      simp only [Prod.mk.injEq] at h
      obtain ⟨rfl, rfl⟩ := h
      obtain ⟨b, off, e, _⟩ := slot_pp hv
      rw [e] at hv ⊢
      exact ⟨X, .value _, _, rfl, .inl rfl, hv, F, rfl, Evo.refl F.ij⟩
    · exact (Tr.run_fail h).elim
  | binOp op xt x y yt =>
    simp only [ho] at h ⊢
    obtain ⟨v, h1, h⟩ := Tr.run_of h
    obtain ⟨w, h2, h⟩ := Tr.run_of h
    rw [Tr.run_bind] at h
    obtain ⟨q, h3, h⟩ := Option.bind_eq_some_iff.1 h
    have h := Tr.run_ret h
    simp only [Prod.mk.injEq] at h
    obtain ⟨rfl, rfl⟩ := h
    exact comes_same F (binV_ok hT h3 (valOf_ok hs h1) (valOf_ok hs h2) x y)
  | unOp op xt x =>
    simp only [ho] at h ⊢
    obtain ⟨v, h1, h⟩ := Tr.run_of h
    rw [Tr.run_bind] at h
    obtain ⟨q, h3, h⟩ := Option.bind_eq_some_iff.1 h
    have h := Tr.run_ret h
    simp only [Prod.mk.injEq] at h
    obtain ⟨rfl, rfl⟩ := h
    exact comes_same F (unV_ok h3 (valOf_ok hs h1))
  | convert s d x =>
    simp only [ho] at h ⊢
    obtain ⟨v, h1, h⟩ := Tr.run_of h
    rw [Tr.run_bind] at h
    obtain ⟨q, h3, h⟩ := Option.bind_eq_some_iff.1 h
    have h := Tr.run_ret h
    simp only [Prod.mk.injEq] at h
    obtain ⟨rfl, rfl⟩ := h
    exact comes_same F (convV_ok hT h3 (valOf_ok hs h1))
  | makeFunc fn first caps =>
    cases fn with
    | func f =>
      simp only [ho] at h ⊢
      obtain ⟨h0, h⟩ := Tr.run_chk h
      obtain ⟨os, h1, h⟩ := Tr.run_of h
      have h := Tr.run_ret h
      simp only [Prod.mk.injEq] at h
      obtain ⟨rfl, rfl⟩ := h
      obtain ⟨e1, e2⟩ := capsOf_ok hs h1
      have e3 : first = #[] := by rw [← Array.toList_inj]; simpa using h0
      refine comes_same F ⟨_, rfl, rfl, rfl, ?_, e2⟩
      subst e3
      have e4 : caps.map a.eval = (os.map fun o => Value.pointer (some ⟨(X.φ o).blk, 0, none⟩)).toArray := by
        rw [← Array.toList_inj, Array.toList_map, e1]
      rw [e4, Array.map_empty]
      rfl
    | _ => simp only [ho] at h; exact (Tr.run_fail h).elim
  | makeSlice t l c =>
    simp only [ho] at h ⊢
    obtain ⟨p, h1, h⟩ := Tr.run_of h
    obtain ⟨q, h2, h⟩ := Tr.run_of h
    obtain ⟨u, h3, h4⟩ := Option.bind_eq_some_iff.1 h1
    obtain ⟨w, h5, h6⟩ := Option.bind_eq_some_iff.1 h2
    rw [asInt_ok h4 (valOf_ok hs h3), asInt_ok h6 (valOf_ok hs h5)]
    exact comes_new (aMake_ok F hT h)
  | slice t x lo hi mx =>
    cases mx with
    | none =>
      simp only [ho] at h ⊢
      obtain ⟨v, h1, h⟩ := Tr.run_of h
      obtain ⟨l, h2, h⟩ := Tr.run_of h
      obtain ⟨g, h3, h⟩ := Tr.run_of h
      obtain ⟨p, h4, h⟩ := Tr.run_of h
      rw [Tr.run_bind] at h
      obtain ⟨q, h5, h⟩ := Option.bind_eq_some_iff.1 h
      have h := Tr.run_ret h
      simp only [Prod.mk.injEq] at h
      obtain ⟨rfl, rfl⟩ := h
      obtain ⟨y1, e1, rfl⟩ := optInt_ok hs h2
      obtain ⟨y2, e2, rfl⟩ := optInt_ok hs h3
      obtain ⟨X', w1, o1, F1, ev, sl⟩ := sliceSrc_ok F (valOf_ok hs h1) (a' := p.1) (ob' := p.2) h4
      obtain ⟨val, g1, g2⟩ := aSlice_ok hT sl h5
      rw [e1, e2]
      rw [w1] at g1
      refine comes_new ⟨X', val, by rw [w1]; exact g1, g2, F1, o1, ev⟩
    | some m => simp only [ho] at h; exact (Tr.run_fail h).elim
  | fieldAddr s x j =>
    simp only [ho] at h ⊢
    obtain ⟨v, h1, h⟩ := Tr.run_of h
    obtain ⟨w, h2, h⟩ := Tr.run_of h
    have h := Tr.run_ret h
    simp only [Prod.mk.injEq] at h
    obtain ⟨rfl, rfl⟩ := h
    exact comes_same F (aFieldAddr_ok F hT (valOf_ok hs h1) h2)
  | field s x j =>
    simp only [ho] at h ⊢
    obtain ⟨v, h1, h⟩ := Tr.run_of h
    obtain ⟨w, h2, h⟩ := Tr.run_of h
    have h := Tr.run_ret h
    simp only [Prod.mk.injEq] at h
    obtain ⟨rfl, rfl⟩ := h
    exact comes_same F (aField_ok hT (valOf_ok hs h1) h2)
  | indexAddr t x i =>
    simp only [ho] at h ⊢
    obtain ⟨v, h1, h⟩ := Tr.run_of h
    obtain ⟨n, h2, h⟩ := Tr.run_of h
    obtain ⟨p, h3, h⟩ := Tr.run_of h
    obtain ⟨h4, h⟩ := Tr.run_grd h
    obtain ⟨h5, h⟩ := Tr.run_grd h
    have h := Tr.run_ret h
    simp only [Prod.mk.injEq] at h
    obtain ⟨rfl, rfl⟩ := h
    obtain ⟨u, h6, h7⟩ := Option.bind_eq_some_iff.1 h2
    rw [asInt_ok h7 (valOf_ok hs h6)]
    exact comes_same F (aElem_ok F hT (valOf_ok hs h1) (n := p.1) (f := p.2) h3 (of_decide_eq_true h4) (of_decide_eq_true h5))
  | index t x i =>
    simp only [ho] at h ⊢
    obtain ⟨v, h1, h⟩ := Tr.run_of h
    split at h
    · obtain ⟨n, h2, h⟩ := Tr.run_of h
      obtain ⟨p, h3, h⟩ := Tr.run_of h
      split at h
      · obtain ⟨h4, h⟩ := Tr.run_grd h
        obtain ⟨h5, h⟩ := Tr.run_grd h
        have h := Tr.run_ret h
        simp only [Prod.mk.injEq] at h
        obtain ⟨rfl, rfl⟩ := h
        obtain ⟨u, h6, h7⟩ := Option.bind_eq_some_iff.1 h2
        rw [asInt_ok h7 (valOf_ok hs h6), slot_str (valOf_ok hs h1)]
        exact comes_same F ⟨_, run_index_str (TB_str (TTab.find_ok hT h3).1) (of_decide_eq_true h4) (of_decide_eq_true h5) _, slot_mk_int _ _ _⟩
      · exact (Tr.run_fail h).elim
    · exact (Tr.run_fail h).elim
  | extract x n =>
    simp only [ho] at h ⊢
    obtain ⟨v, h1, h⟩ := Tr.run_of h
    obtain ⟨w, h2, h⟩ := Tr.run_of h
    have h := Tr.run_ret h
    simp only [Prod.mk.injEq] at h
    obtain ⟨rfl, rfl⟩ := h
    exact comes_same F (aExtract_ok (valOf_ok hs h1) h2)
  | call c =>
    simp only [ho] at h ⊢
    split at h
    · rename_i b hb
      have := aBuiltin_ok F hT hs o.type (c.args.map fun | .const _ => true | _ => false) h
      obtain ⟨X', nx, val, g1, g2⟩ := this
      refine ⟨X', nx, val, ?_, g2⟩
      simp only [resolve, hb, Sem.run_bind, Sem.run_pure, Result.andThen_ok, invoke]
      exact g1
    · exact (Tr.run_fail h).elim
  | _ => simp only [ho] at h; exact (Tr.run_fail h).elim
end
end Go.Proofs.Ytbpfllifhpdlfaa.Ev
