/- The abstract operations that make no memory, each with a proof that the machine's operation comes to the same. -/
import Derived.Test.YtbpfllifhpdlfaaE6
import Derived.Laws.Small
namespace Go.Proofs.Ytbpfllifhpdlfaa.Ev
open Go
set_option linter.unusedVariables false
set_option linter.unusedSimpArgs false

/-- A run that may part its ways, call, or fail. -/
inductive Tr (α : Type) where
  | ret (a : α)
  | fail
  | ite (c : Bool) (t e : Tr α)
  | call (R : Ty) (o : Option R.D) (f : R.D → Tr α)
def Tr.bind {α β : Type} : Tr α → (α → Tr β) → Tr β
  | .ret a, f => f a
  | .fail, _ => .fail
  | .ite c t e, f => .ite c (t.bind f) (e.bind f)
  | .call R o g, f => .call R o fun x => (g x).bind f
def Tr.run {α : Type} : Tr α → Option α
  | .ret a => some a
  | .fail => none
  | .ite c t e => if c = true then t.run else e.run
  | .call _ o g => o.bind fun x => (g x).run
theorem Tr.run_bind {α β : Type} (t : Tr α) (f : α → Tr β) : (t.bind f).run = t.run.bind fun a => (f a).run := by
  induction t with
  | ret a => rfl
  | fail => rfl
  | ite c t e iht ihe => simp only [Tr.bind, Tr.run, iht, ihe]; split <;> rfl
  | call R o g ih => cases o <;> simp [Tr.bind, Tr.run, ih]
def Tr.grd {α : Type} (c : Bool) (t : Tr α) : Tr α := .ite c t .fail
theorem Tr.run_grd {α : Type} {c : Bool} {t : Tr α} {a : α} (h : (Tr.grd c t).run = some a) : c = true ∧ t.run = some a := by
  simp only [Tr.grd, Tr.run] at h
  split at h
  · exact ⟨‹_›, h⟩
  · exact absurd h (by simp)
/-- A test that is decided on the spot. -/
def Tr.chk {α : Type} (c : Bool) (t : Tr α) : Tr α := match c with
  | true => t
  | false => .fail
theorem Tr.run_chk {α : Type} {c : Bool} {t : Tr α} {a : α} (h : (Tr.chk c t).run = some a) : c = true ∧ t.run = some a := by
  cases c
  · exact absurd h (by simp [Tr.chk, Tr.run])
  · exact ⟨rfl, h⟩
def Tr.of {α β : Type} (o : Option α) (f : α → Tr β) : Tr β := match o with
  | some a => f a
  | none => .fail
theorem Tr.run_of {α β : Type} {o : Option α} {f : α → Tr β} {b : β} (h : (Tr.of o f).run = some b) : ∃ a, o = some a ∧ (f a).run = some b := by
  cases o
  · exact absurd h (by simp [Tr.of, Tr.run])
  · exact ⟨_, rfl, h⟩
theorem Tr.run_ret {α : Type} {a b : α} (h : (Tr.ret a).run = some b) : a = b := Option.some.inj h
theorem Tr.run_fail {α : Type} {b : α} (h : (Tr.fail : Tr α).run = some b) : False := by simp [Tr.run] at h

/-! ### What operands are -/
def constAV : Value → Option AV
  | .bool b => some (.pv false .bool b)
  | .int k n => some (.pv false (.int k) n)
  | .string s => some (.pv false .str s)
  | .slice none 0 0 => some .nilv
  | .pointer none => some .undef
  | _ => none
def valOf (ss : List AV) : Operand → Option AV
  | .tmp t => some (ss.getD t .undef)
  | .const v => constAV v
  | .func f => some (.fn f [])
  | .global _ => none
theorem constAV_ok {X : Ctx} {v : Value} {a : AV} (h : constAV v = some a) : SlotR X a v := by
  unfold constAV at h
  split at h <;> first | (simp only [Option.some.injEq] at h; subst h; exact ⟨rfl, rfl, rfl⟩) | (simp only [Option.some.injEq] at h; subst h; trivial) | exact absurd h (by simp)
theorem valOf_ok {X : Ctx} {ss : List AV} {a : Act} (hs : SlotsR X ss a.tmps) {x : Operand} {v : AV} (h : valOf ss x = some v) : SlotR X v (a.eval x) := by
  cases x with
  | tmp t => simp only [valOf, Option.some.injEq] at h; subst h; exact hs.2 t
  | const c => exact constAV_ok h
  | func f => simp only [valOf, Option.some.injEq] at h; subst h; exact ⟨rfl, rfl, rfl, fun o ho => absurd ho (by simp)⟩
  | global g => simp [valOf] at h

theorem one_cell {v : Value} (h1 : Value.isAgg v = false) (h2 : v.cells.size = 1) : cv v 0 = some v := by
  cases v <;> first | rfl | simp [Value.isAgg] at h1
theorem slot_int {X : Ctx} {m : Bool} {k : IntKind} {n : Int} {v : Value} (h : SlotR X (.pv m (.int k) n) v) : v = .int k n := by
  obtain ⟨h1, h2, h3⟩ := h
  have e := one_cell h1 h2
  have h3' : cv v 0 = some (.int k n) := h3
  rw [e] at h3'
  exact Option.some.inj h3'
theorem slot_bool {X : Ctx} {m : Bool} {b : Bool} {v : Value} (h : SlotR X (.pv m .bool b) v) : v = .bool b := by
  obtain ⟨h1, h2, h3⟩ := h
  have e := one_cell h1 h2
  have h3' : cv v 0 = some (.bool b) := h3
  rw [e] at h3'
  exact Option.some.inj h3'
theorem slot_str {X : Ctx} {m : Bool} {s : ByteArray} {v : Value} (h : SlotR X (.pv m .str s) v) : v = .string s := by
  obtain ⟨h1, h2, h3⟩ := h
  have e := one_cell h1 h2
  have h3' : cv v 0 = some (.string s) := h3
  rw [e] at h3'
  exact Option.some.inj h3'
theorem slot_nil {X : Ctx} {v : Value} (h : SlotR X .nilv v) : v = .slice none 0 0 := by
  obtain ⟨h1, h2, h3⟩ := h
  have e := one_cell h1 h2
  have h3' : cv v 0 = some (.slice none 0 0) := h3
  rw [e] at h3'
  exact Option.some.inj h3'
theorem slot_slice {X : Ctx} {m : Bool} {e : Ty} {xs : List e.D} {v : Value} (h : SlotR X (.pv m (.slice e) xs) v) : ∃ ad cap, v = .slice ad xs.length cap ∧ xs.length ≤ cap ∧
      (0 < xs.length → ∃ b off, ad = some ⟨b, off, none⟩ ∧ X.set m b ∧ ∀ i (h : i < xs.length), Rep X.w (X.set m) e xs[i] (mem X.w b (off + i * e.sz))) := by
  obtain ⟨h1, h2, h3⟩ := h
  have e1 := one_cell h1 h2
  obtain ⟨ad, cap, h4, h5, h6⟩ := h3
  rw [e1] at h4
  exact ⟨ad, cap, Option.some.inj h4, h5, h6⟩
theorem slot_row {X : Ctx} {o v : Nat} {val : Value} (h : SlotR X (.row o v) val) {m : Bool} {T : Ty} {xs : List T.D} (ho : X.objs o = some (.row v m T xs)) : val = (X.φ o).sl := by
  obtain ⟨h1, h2, h3⟩ := h
  have e := one_cell h1 h2
  simp only [AVR, ho] at h3
  have := h3.2 trivial
  rw [e] at this
  exact Option.some.inj this
theorem slot_imm {X : Ctx} {o v : Nat} {val : Value} (h : SlotR X (.row o v) val) {m : Bool} {T : Ty} {xs : List T.D} (ho : X.objs o = some (.imm v m T xs)) : val = (X.φ o).sl := by
  obtain ⟨h1, h2, h3⟩ := h
  have e := one_cell h1 h2
  simp only [AVR, ho] at h3
  have := h3.2 trivial
  rw [e] at this
  exact Option.some.inj this
theorem slot_bptr {X : Ctx} {o : Nat} {p : List Step} {val : Value} (h : SlotR X (.bptr o p) val) {T : Ty} {a : AV} (ho : X.objs o = some (.box T a)) : PathOk p T ∧ ∀ off T', Ty.at p T = some (off, T') → val = .pointer (some ⟨(X.φ o).blk, off, none⟩) := by
  obtain ⟨h1, h2, h3⟩ := h
  have e := one_cell h1 h2
  simp only [AVR, ho] at h3
  refine ⟨h3.1, fun off T' ht => ?_⟩
  have := h3.2 off T' ht
  rw [e] at this
  exact Option.some.inj this
theorem slot_rptr {X : Ctx} {o v i : Nat} {p : List Step} {val : Value} (h : SlotR X (.rptr o v i p) val) {m : Bool} {T : Ty} {xs : List T.D} (ho : X.objs o = some (.row v m T xs)) : i < (X.φ o).len ∧ PathOk p T ∧ ∀ off T', Ty.at p T = some (off, T') → val = .pointer (some ⟨(X.φ o).blk, i * T.sz + off, none⟩) := by
  obtain ⟨h1, h2, h3⟩ := h
  have e := one_cell h1 h2
  simp only [AVR, ho] at h3
  obtain ⟨h4, h5, h6⟩ := h3.2 trivial
  refine ⟨h4, h5, fun off T' ht => ?_⟩
  have := h6 off T' ht
  rw [e] at this
  exact Option.some.inj this
theorem slot_pp {X : Ctx} {m : Bool} {T : Ty} {x : T.D} {val : Value} (h : SlotR X (.pp m T x) val) : ∃ b off, val = .pointer (some ⟨b, off, none⟩) ∧ X.set m b ∧ Rep X.w (X.set m) T x (mem X.w b off) := by
  obtain ⟨h1, h2, b, off, h4, h5, h6⟩ := h
  have e := one_cell h1 h2
  rw [e] at h4
  exact ⟨b, off, Option.some.inj h4, h5, h6⟩
theorem slot_of_cell {X : Ctx} {a : AV} {v : Value} (hv : okCell v) (ha : a.isAgg = false) (hz : a.sz = 1) (hr : AVR X a (cv v)) (ht : ∀ x y, a ≠ .tcons x y) (hn : a ≠ .tnil) : SlotR X a v := by
  have h1 : Value.isAgg v = false := by cases v <;> first | rfl | exact hv.elim
  have h2 : v.cells.size = 1 := by cases v <;> first | rfl | exact hv.elim
  cases a with
  | undef => trivial
  | tnil => exact absurd rfl hn
  | tcons x y => exact absurd rfl (ht x y)
  | _ => exact ⟨h1.trans ha.symm, h2.trans hz.symm, hr⟩
theorem slot_mk_int {X : Ctx} (m : Bool) (k : IntKind) (n : Int) : SlotR X (.pv m (.int k) n) (.int k n) := ⟨rfl, rfl, rfl⟩
theorem slot_mk_bool {X : Ctx} (m : Bool) (b : Bool) : SlotR X (.pv m .bool b) (.bool b) := ⟨rfl, rfl, rfl⟩
theorem slot_mk_str {X : Ctx} (m : Bool) (s : ByteArray) : SlotR X (.pv m .str s) (.string s) := ⟨rfl, rfl, rfl⟩

/-! ### Arithmetic -/
def pvI (k : IntKind) (n : Int) : AV := .pv false (.int k) n
def pvB (b : Bool) : AV := .pv false .bool b
def binI (op : BinOp) (k k' : IntKind) (a b : Int) : Tr AV :=
  match op with
  | .shl => .ite (decide (b < 0)) .fail (.ret (pvI k (k.wrap (a * 2 ^ min b.toNat k.bits))))
  | .shr => .ite (decide (b < 0)) .fail (.ret (pvI k (a.fdiv (2 ^ min b.toNat k.bits))))
  | op => Tr.chk (decide (k = k')) <| match op with
    | .add => .ret (pvI k (k.wrap (a + b)))
    | .sub => .ret (pvI k (k.wrap (a - b)))
    | .mul => .ret (pvI k (k.wrap (a * b)))
    | .quo => .ite (decide (b = 0)) .fail (.ret (pvI k (k.wrap (a.tdiv b))))
    | .rem => .ite (decide (b = 0)) .fail (.ret (pvI k (a.tmod b)))
    | .and => .ret (pvI k (Go.bits .and k a b))
    | .or => .ret (pvI k (Go.bits .or k a b))
    | .xor => .ret (pvI k (Go.bits .xor k a b))
    | .andNot => .ret (pvI k (Go.bits .andNot k a b))
    | .eql => .ret (pvB (a == b))
    | .neq => .ret (pvB (a != b))
    | .lss => .ret (pvB (decide (a < b)))
    | .leq => .ret (pvB (decide (a ≤ b)))
    | .gtr => .ret (pvB (decide (a > b)))
    | .geq => .ret (pvB (decide (a ≥ b)))
    | _ => .fail
theorem binI_ok {P : Program} {X : Ctx} {op : BinOp} {k k' : IntKind} {a b : Int} {r : AV} (h : (binI op k k' a b).run = some r) (xt : TypeId) :
    ∃ v, (binOp op xt (.int k a) (.int k' b)).run P X.w = .ok v X.w ∧ SlotR X r v := by
  cases op <;> simp only [binI] at h
  case shl =>
    simp only [Tr.run] at h
    split at h
    · exact absurd h (by simp)
    · rename_i hb
      simp only [decide_eq_true_eq] at hb
      obtain rfl := Option.some.inj h
      exact ⟨_, by simp [binOp, Op.shift, hb], slot_mk_int _ _ _⟩
  case shr =>
    simp only [Tr.run] at h
    split at h
    · exact absurd h (by simp)
    · rename_i hb
      simp only [decide_eq_true_eq] at hb
      obtain rfl := Option.some.inj h
      exact ⟨_, by simp [binOp, Op.shift, hb], slot_mk_int _ _ _⟩
  case quo =>
    replace h := Tr.run_chk h
    obtain ⟨hk, h⟩ := h
    obtain rfl := of_decide_eq_true hk
    simp only [Tr.run] at h
    split at h
    · exact absurd h (by simp)
    · rename_i hb
      simp only [decide_eq_true_eq] at hb
      obtain rfl := Option.some.inj h
      exact ⟨_, by simp [binOp, Op.intDiv, hb], slot_mk_int _ _ _⟩
  case rem =>
    replace h := Tr.run_chk h
    obtain ⟨hk, h⟩ := h
    obtain rfl := of_decide_eq_true hk
    simp only [Tr.run] at h
    split at h
    · exact absurd h (by simp)
    · rename_i hb
      simp only [decide_eq_true_eq] at hb
      obtain rfl := Option.some.inj h
      exact ⟨_, by simp [binOp, Op.intDiv, hb], slot_mk_int _ _ _⟩
  all_goals
    replace h := Tr.run_chk h
    obtain ⟨hk, h⟩ := h
    obtain rfl := of_decide_eq_true hk
    first
      | exact (Tr.run_fail h).elim
      | (obtain rfl := Option.some.inj h
         first
           | (refine ⟨_, ?_, slot_mk_int _ _ _⟩; simp [binOp, Op.intArith]; done)
           | (refine ⟨_, ?_, slot_mk_int _ _ _⟩; simp [binOp, intBits_and, intBits_or, intBits_xor, intBits_andNot]; done)
           | (refine ⟨_, ?_, slot_mk_bool _ _⟩; simp [binOp, Op.intCmp]; done))
def isBoolT (tab : TTab) (t : TypeId) : Bool := match tab.find t with
  | some ⟨_, .bool, _⟩ => true
  | _ => false
def binV (tab : TTab) (op : BinOp) (xt : TypeId) : AV → AV → Tr AV
  | .pv _ (.int k) a, .pv _ (.int k') b => binI op k k' a b
  | .pv _ .bool a, .pv _ .bool b => Tr.chk (isBoolT tab xt) <| match op with
    | .eql => .ret (pvB (a == b))
    | .neq => .ret (pvB (!(a == b)))
    | _ => .fail
  | .pv _ .str a, .pv _ .str b => match op with
    | .eql => .ret (pvB (a.toList == b.toList))
    | .neq => .ret (pvB (!(a.toList == b.toList)))
    | .lss => .ret (pvB (Op.bytesLess a.toList b.toList))
    | .gtr => .ret (pvB (!(Op.bytesLess a.toList b.toList || a.toList == b.toList)))
    | .leq => .ret (pvB (Op.bytesLess a.toList b.toList || a.toList == b.toList))
    | .geq => .ret (pvB (!Op.bytesLess a.toList b.toList))
    | .add => .ite (decide (((a.size + b.size : Nat) : Int) > IntKind.i64.max)) .fail (.ret (.pv false .str (a ++ b)))
    | _ => .fail
  | _, _ => .fail
theorem TB_bool {P : Program} {t : TypeId} (h : (TB P .bool).1 t = true) : P.underlying t = some .bool := by
  simp only [TB, Bool.and_eq_true] at h
  obtain ⟨d, hd, hf⟩ := descB_ok h.2
  cases d <;> simp [isBoolD] at hf
  exact hd
theorem isBoolT_ok {P : Program} {tab : TTab} (hT : tab.ok P = true) {t : TypeId} (h : isBoolT tab t = true) : P.underlying t = some .bool := by
  unfold isBoolT at h
  split at h
  · rename_i a b hf
    exact TB_bool (TTab.find_ok hT hf).1
  · simp at h
/-- The guard ahead of '==' says nothing of plain values. -/
theorem eqGuard_plain {P : Program} (op : BinOp) (t : TypeId) (x y : Operand) {a b : Value} (ha : Value.isAgg a = false) (hb : a ≠ .nilIface) (w : World) : (eqGuard op t x y a b).run P w = .ok () w := by
  unfold eqGuard
  cases op <;> first | rfl | (cases a <;> first | rfl | exact absurd rfl hb | exact absurd ha (by simp [Value.isAgg]))
theorem binV_ok {P : Program} {X : Ctx} {tab : TTab} (hT : tab.ok P = true) {op : BinOp} {xt : TypeId} {a b r : AV} (h : (binV tab op xt a b).run = some r) {x y : Value} (ha : SlotR X a x) (hb : SlotR X b y) (ox oy : Operand) :
    ∃ v, ((do eqGuard op xt ox oy x y; binOp op xt x y) : Sem Value).run P X.w = .ok v X.w ∧ SlotR X r v := by
  unfold binV at h
  split at h
  · rename_i m k n m' k' n'
    obtain rfl := slot_int ha
    obtain rfl := slot_int hb
    obtain ⟨v, hv, hr⟩ := binI_ok (P := P) (X := X) h xt
    exact ⟨v, by rw [Sem.run_bind, eqGuard_plain op xt ox oy rfl (by simp)]; exact hv, hr⟩
  · obtain rfl := slot_bool ha
    obtain rfl := slot_bool hb
    replace h := Tr.run_chk h
    obtain ⟨hk, h⟩ := h
    have hu := isBoolT_ok hT hk
    split at h
    · obtain rfl := Option.some.inj h
      refine ⟨_, ?_, slot_mk_bool _ _⟩
      rw [Sem.run_bind, eqGuard_plain _ xt ox oy rfl (by simp)]
      simp [binOp, run_equal_bool _ _ _ _ hu]
    · obtain rfl := Option.some.inj h
      refine ⟨_, ?_, slot_mk_bool _ _⟩
      rw [Sem.run_bind, eqGuard_plain _ xt ox oy rfl (by simp)]
      simp [binOp, run_equal_bool _ _ _ _ hu]
    · exact (Tr.run_fail h).elim
  · obtain rfl := slot_str ha
    obtain rfl := slot_str hb
    rw [Sem.run_bind, eqGuard_plain op xt ox oy rfl (by simp)]
    split at h
    case h_7 =>
      simp only [Tr.run] at h
      split at h
      · exact absurd h (by simp)
      · rename_i hc
        simp only [decide_eq_true_eq] at hc
        obtain rfl := Option.some.inj h
        exact ⟨_, by simp only [Result.andThen_ok, binOp, Op.stringOp]; rw [if_neg hc]; rfl, slot_mk_str _ _⟩
    all_goals first
      | exact (Tr.run_fail h).elim
      | (obtain rfl := Option.some.inj h
         exact ⟨_, by simp [binOp, Op.stringOp], slot_mk_bool _ _⟩)
  · exact (Tr.run_fail h).elim
def unV (op : UnOp) : AV → Tr AV
  | .pv _ .bool b => match op with
    | .not => .ret (pvB (!b))
    | _ => .fail
  | .pv _ (.int k) n => match op with
    | .neg => .ret (pvI k (k.wrap (0 - n)))
    | _ => .fail
  | _ => .fail
theorem unV_ok {P : Program} {X : Ctx} {op : UnOp} {a r : AV} (h : (unV op a).run = some r) {x : Value} (ha : SlotR X a x) : ∃ v, (Op.unary op x).run P X.w = .ok v X.w ∧ SlotR X r v := by
  unfold unV at h
  split at h
  · obtain rfl := slot_bool ha
    split at h
    · obtain rfl := Option.some.inj h
      exact ⟨_, rfl, slot_mk_bool _ _⟩
    · exact (Tr.run_fail h).elim
  · obtain rfl := slot_int ha
    split at h
    · obtain rfl := Option.some.inj h
      exact ⟨_, by simp [Op.unary, Op.intArith], slot_mk_int _ _ _⟩
    · exact (Tr.run_fail h).elim
  · exact (Tr.run_fail h).elim
def convV (tab : TTab) (src dst : TypeId) : AV → Tr AV
  | .pv _ (.int _) n => match tab.find src, tab.find dst with
    | some _, some ⟨_, .int k, _⟩ => .ret (pvI k (k.wrap n))
    | _, _ => .fail
  | _ => .fail
theorem convV_ok {P : Program} {X : Ctx} {tab : TTab} (hT : tab.ok P = true) {src dst : TypeId} {a r : AV} (h : (convV tab src dst a).run = some r) {x : Value} (ha : SlotR X a x) : ∃ v, (convert src dst x).run P X.w = .ok v X.w ∧ SlotR X r v := by
  unfold convV at h
  split at h
  · obtain rfl := slot_int ha
    split at h
    · rename_i e t k b hs hd
      obtain rfl := Option.some.inj h
      obtain ⟨d, hd1, _⟩ := TB_agg (TTab.find_ok hT hs).1
      have hd2 := TB_int (TTab.find_ok hT hd).1
      refine ⟨_, ?_, slot_mk_int _ _ _⟩
      simp only [convert, Sem.run_bind, run_under hd1, run_under hd2, Result.andThen_ok]
      cases d <;> rfl
    · exact (Tr.run_fail h).elim
  · exact (Tr.run_fail h).elim
end Go.Proofs.Ytbpfllifhpdlfaa.Ev
