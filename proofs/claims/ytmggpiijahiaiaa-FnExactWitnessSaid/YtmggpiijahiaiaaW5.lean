/- Proved: the law laws.FnExactWitness returns true for every input, and the input reads behind the call as it read before. There are no conditions. (The last theorem: fnExactWitness_holds.) -/
import Derived.Test.YtmggpiijahiaiaaW4
import Derived.Test.YtmggpiijahiaiaaProg
import Derived.Test.YtmggpiijahiaiaaRows
import Derived.WalkKit
import Derived.ProofKit
import Derived.OpenShut
import Derived.ShutString
import Derived.ChangeOld
import Derived.Below
import Derived.SizedLaws
import Derived.DataShut
namespace Go.Proofs.Ytmggpiijahiaiaa.Ev
open Go
set_option linter.unusedVariables false
set_option linter.unusedSimpArgs false
set_option maxRecDepth 100000
def s_PastOk_tab : TTab := [⟨3, (.int .i64), 0⟩, ⟨4, .bool, 0⟩, ⟨25, (.slice tPast), 64⟩, ⟨40, (.int .u64), 0⟩, ⟨42, tLedgerCall, 0⟩, ⟨44, tPast, 0⟩]
abbrev s_PastOk_ps : List Par := [.lent (.slice tPast)]
abbrev s_PastOk_outs : Outs := .one (.pure .bool)
abbrev s_PastOk_R : Type := (Bool × Unit)
abbrev s_PastOk_T : Ty := .pair (Outs.ty s_PastOk_outs) (mutsTy s_PastOk_ps)
noncomputable def s_PastOk_env : Env := { tab := s_PastOk_tab, fns := [(38, Try.f38)], sigs := [(56, s_l01In_sig)] }
def s_PastOk_anns : List Ann := [⟨38, 2, [0, 3], []⟩, ⟨38, 100025, [0, 3, 4, 25], []⟩, ⟨38, 200003, [0, 3], []⟩]
inductive s_PastOk_H where
  | l0 (v0 : List PastD) (v1 : Int)
  | l1 (v0 : List PastD) (v1 : Int) (v2 : Bool) (v3 : PastD)
  | l2 (v0 : List PastD) (v1 : Int)
noncomputable def s_PastOk_cfg : s_PastOk_H → Cfg
  | .l0 v0 v1 => { fr := { fn := 38, fb := 0, ss := sl 47 [(0, (.pv true (.slice tPast) v0)), (3, (.pv false (.int .i64) v1))], todo := todoAt (bodyOf Try.f38) [false, true, false, true] [] }, cs := [], ob := ofList [] }
  | .l1 v0 v1 v2 v3 => { fr := { fn := 38, fb := 0, ss := sl 47 [(0, (.pv true (.slice tPast) v0)), (3, (.pv false (.int .i64) v1)), (4, (.bptr 0 [])), (25, (.pv false .bool v2))], todo := cutAt (bodyOf Try.f38) [false, true, false, true, true, false, true, true, false, true, false] [] }, cs := [], ob := ofList [.box tPast (.pv false tPast v3)] }
  | .l2 v0 v1 => { fr := { fn := 38, fb := 0, ss := sl 47 [(0, (.pv true (.slice tPast) v0)), (3, (.pv false (.int .i64) v1))], todo := cutAt (bodyOf Try.f38) [false, true, false, true, true, false, false] [] }, cs := [], ob := ofList [] }
def s_PastOk_body (rec : s_PastOk_H → Option s_PastOk_R) : s_PastOk_H → Option s_PastOk_R
  | .l0 v0 v1 =>
    if (decide (v1 < (↑v0.length : Int))) = true then
      if (decide (0 ≤ v1)) = true then
        if (decide (v1 < (↑v0.length : Int))) = true then
          (s_l01In_fn (v0.getD v1.toNat ((0, 0, 0, 0, ()), 0, 0, 0, 0, ())).fst.fst 0 5).bind fun y0 =>
            if (!y0.fst) = true then
              (rec (.l1 (v0) (v1) (Bool.true) (v0.getD v1.toNat ((0, 0, 0, 0, ()), 0, 0, 0, 0, ())))).bind some
            else
              (s_l01In_fn (v0.getD v1.toNat ((0, 0, 0, 0, ()), 0, 0, 0, 0, ())).snd.fst 0 1000000).bind fun y1 =>
                (rec (.l1 (v0) (v1) (!y1.fst) (v0.getD v1.toNat ((0, 0, 0, 0, ()), 0, 0, 0, 0, ())))).bind some
        else
          none
      else
        none
    else
      some (decide ((↑v0.length : Int) ≤ 7), ())
  | .l1 v0 v1 v2 v3 =>
    if (v2) = true then
      some (false, ())
    else
      if (v3.snd.snd.fst == -1) = true then
        if (v3.snd.snd.snd.fst != 0) = true then
          some (false, ())
        else
          if (v3.snd.snd.snd.snd.fst != 0) = true then
            some (false, ())
          else
            (rec (.l2 (v0) (v1))).bind some
      else
        (s_l01In_fn v3.snd.snd.fst (IntKind.i64.wrap (v3.snd.fst + 1)) 1000000).bind fun y2 =>
          if (!y2.fst) = true then
            some (false, ())
          else
            (rec (.l2 (v0) (v1))).bind some
  | .l2 v0 v1 =>
    (rec (.l0 (v0) (IntKind.i64.wrap (v1 + 1)))).bind some
def s_PastOk_start (rec : s_PastOk_H → Option s_PastOk_R) (x0 : (List PastD)) : Option s_PastOk_R :=
  (rec (.l0 (x0) (0))).bind some
def s_PastOk_go : Nat → s_PastOk_H → Option s_PastOk_R
  | 0, _ => none
  | k + 1, h => s_PastOk_body (s_PastOk_go k) h
def s_PastOk_k (k : Nat) (x0 : (List PastD)) : Option s_PastOk_R := s_PastOk_start (s_PastOk_go k) x0
def s_PastOk_fn (x0 : (List PastD)) : Option s_PastOk_R := s_PastOk_k (x0.length + 10000000) x0
noncomputable def s_PastOk_sig : Sig := { ps := s_PastOk_ps, outs := s_PastOk_outs, fn := fun x => s_PastOk_fn (x.1) }
theorem s_PastOk_l0_t (rec : Cfg → Option s_PastOk_R) (v0 : List PastD) (v1 : Int) : Tr.k (ev s_PastOk_env s_PastOk_anns s_PastOk_sig rec 20000 (s_PastOk_cfg (.l0 v0 v1))) some = (br (decide (v1 < (↑v0.length : Int))) (br (decide (0 ≤ v1)) (br (decide (v1 < (↑v0.length : Int))) ((s_l01In_fn (v0.getD v1.toNat ((0, 0, 0, 0, ()), 0, 0, 0, 0, ())).fst.fst 0 5).bind fun y0 => br (!y0.fst) ((rec (s_PastOk_cfg (.l1 (v0) (v1) (Bool.true) (v0.getD v1.toNat ((0, 0, 0, 0, ()), 0, 0, 0, 0, ()))))).bind some) ((s_l01In_fn (v0.getD v1.toNat ((0, 0, 0, 0, ()), 0, 0, 0, 0, ())).snd.fst 0 1000000).bind fun y1 => (rec (s_PastOk_cfg (.l1 (v0) (v1) (!y1.fst) (v0.getD v1.toNat ((0, 0, 0, 0, ()), 0, 0, 0, 0, ()))))).bind some)) (none)) (none)) (some (decide ((↑v0.length : Int) ≤ 7), ())) : Option s_PastOk_R) := by kernel_rfl
theorem s_PastOk_l0 (rec : Cfg → Option s_PastOk_sig.R.D) (v0 : List PastD) (v1 : Int) : (ev s_PastOk_env s_PastOk_anns s_PastOk_sig rec 20000 (s_PastOk_cfg (.l0 v0 v1))).run = s_PastOk_body (fun h => rec (s_PastOk_cfg h)) (.l0 v0 v1) := (Tr.k_some _).trans ((s_PastOk_l0_t rec v0 v1).trans (by first | rfl | (simp only [br_ite]; rfl)))
theorem s_PastOk_l1_t (rec : Cfg → Option s_PastOk_R) (v0 : List PastD) (v1 : Int) (v2 : Bool) (v3 : PastD) : Tr.k (ev s_PastOk_env s_PastOk_anns s_PastOk_sig rec 20000 (s_PastOk_cfg (.l1 v0 v1 v2 v3))) some = (br (v2) (some (false, ())) (br (v3.snd.snd.fst == -1) (br (v3.snd.snd.snd.fst != 0) (some (false, ())) (br (v3.snd.snd.snd.snd.fst != 0) (some (false, ())) ((rec (s_PastOk_cfg (.l2 (v0) (v1)))).bind some))) ((s_l01In_fn v3.snd.snd.fst (IntKind.i64.wrap (v3.snd.fst + 1)) 1000000).bind fun y2 => br (!y2.fst) (some (false, ())) ((rec (s_PastOk_cfg (.l2 (v0) (v1)))).bind some))) : Option s_PastOk_R) := by kernel_rfl
theorem s_PastOk_l1 (rec : Cfg → Option s_PastOk_sig.R.D) (v0 : List PastD) (v1 : Int) (v2 : Bool) (v3 : PastD) : (ev s_PastOk_env s_PastOk_anns s_PastOk_sig rec 20000 (s_PastOk_cfg (.l1 v0 v1 v2 v3))).run = s_PastOk_body (fun h => rec (s_PastOk_cfg h)) (.l1 v0 v1 v2 v3) := (Tr.k_some _).trans ((s_PastOk_l1_t rec v0 v1 v2 v3).trans (by first | rfl | (simp only [br_ite]; rfl)))
theorem s_PastOk_l2_t (rec : Cfg → Option s_PastOk_R) (v0 : List PastD) (v1 : Int) : Tr.k (ev s_PastOk_env s_PastOk_anns s_PastOk_sig rec 20000 (s_PastOk_cfg (.l2 v0 v1))) some = ((rec (s_PastOk_cfg (.l0 (v0) (IntKind.i64.wrap (v1 + 1))))).bind some : Option s_PastOk_R) := by kernel_rfl
theorem s_PastOk_l2 (rec : Cfg → Option s_PastOk_sig.R.D) (v0 : List PastD) (v1 : Int) : (ev s_PastOk_env s_PastOk_anns s_PastOk_sig rec 20000 (s_PastOk_cfg (.l2 v0 v1))).run = s_PastOk_body (fun h => rec (s_PastOk_cfg h)) (.l2 v0 v1) := (Tr.k_some _).trans ((s_PastOk_l2_t rec v0 v1).trans (by first | rfl | (simp only [br_ite]; rfl)))
theorem s_PastOk_begin_t (rec : Cfg → Option s_PastOk_R) (x0 : (List PastD)) : Tr.k (ev s_PastOk_env s_PastOk_anns s_PastOk_sig rec 20000 (entry s_PastOk_sig 38 Try.f38 (bodyOf Try.f38) (x0, ()))) some = ((rec (s_PastOk_cfg (.l0 (x0) (0)))).bind some : Option s_PastOk_R) := by kernel_rfl
theorem s_PastOk_begin (rec : Cfg → Option s_PastOk_sig.R.D) (x0 : (List PastD)) : (ev s_PastOk_env s_PastOk_anns s_PastOk_sig rec 20000 (entry s_PastOk_sig 38 Try.f38 (bodyOf Try.f38) (x0, ()))).run = s_PastOk_start (fun h => rec (s_PastOk_cfg h)) x0 := (Tr.k_some _).trans ((s_PastOk_begin_t rec x0).trans (by first | rfl | (simp only [br_ite]; rfl)))
theorem s_PastOk_tab_ok : s_PastOk_tab.ok Try.prog = true := by decide +kernel
theorem s_PastOk_env_ok : (s_PastOk_env).Ok Try.prog where
  mixed := by decide +kernel
  tab := s_PastOk_tab_ok
  fns := by
    intro p hp
    simp only [s_PastOk_env, List.mem_cons, List.not_mem_nil, or_false] at hp
    subst hp
    · exact ⟨Try.func38, by decide +kernel⟩
  sigs := by
    intro p hp
    simp only [s_PastOk_env, List.mem_cons, List.not_mem_nil, or_false] at hp
    subst hp
    · exact ⟨s_l01In_meets, _, Try.func56, by decide +kernel⟩
  exts := by
    intro p hp
    simp only [s_PastOk_env, List.mem_cons, List.not_mem_nil, or_false] at hp
theorem s_PastOk_run (k : Nat) (h : s_PastOk_H) : Om s_PastOk_env s_PastOk_anns s_PastOk_sig 20000 k (s_PastOk_cfg h) = s_PastOk_go k h :=
  Om_go (sg := s_PastOk_sig) (cfg := s_PastOk_cfg) (body := s_PastOk_body) (go := s_PastOk_go) (fun _ => rfl) (fun _ _ => rfl) (fun rec h => by
  cases h with
  | l0 v0 v1 => exact s_PastOk_l0 rec v0 v1
  | l1 v0 v1 v2 v3 => exact s_PastOk_l1 rec v0 v1 v2 v3
  | l2 v0 v1 => exact s_PastOk_l2 rec v0 v1) k h
theorem s_PastOk_meets : Meets Try.prog 38 s_PastOk_sig := by
  refine meets (anns := s_PastOk_anns) (N := 20000) s_PastOk_env_ok Try.func38 (body := bodyOf Try.f38) (by rfl) ?_
  rintro ⟨x0, ⟨⟩⟩ r hr
  refine ⟨x0.length + 10000000, ?_⟩
  show (ev s_PastOk_env s_PastOk_anns s_PastOk_sig (Om s_PastOk_env s_PastOk_anns s_PastOk_sig 20000 (x0.length + 10000000)) 20000 (entry s_PastOk_sig 38 Try.f38 (bodyOf Try.f38) (x0, ()))).run = some r
  rw [s_PastOk_begin]
  have e : (fun h => Om s_PastOk_env s_PastOk_anns s_PastOk_sig 20000 (x0.length + 10000000) (s_PastOk_cfg h)) = s_PastOk_go (x0.length + 10000000) := funext fun h => s_PastOk_run _ h
  rw [e]
  exact hr
end Go.Proofs.Ytmggpiijahiaiaa.Ev
namespace Go.Proofs.Ytmggpiijahiaiaa.Ev
open Go
set_option linter.unusedVariables false
set_option linter.unusedSimpArgs false
set_option maxRecDepth 100000
def slices_Index_int_tab : TTab := [⟨3, (.int .i64), 0⟩, ⟨4, .bool, 0⟩, ⟨29, (.slice (.int .i64)), 8⟩]
abbrev slices_Index_int_ps : List Par := [.lent (.slice (.int .i64)), .lent (.int .i64)]
abbrev slices_Index_int_outs : Outs := .one (.pure (.int .i64))
abbrev slices_Index_int_R : Type := (Int × Unit)
abbrev slices_Index_int_T : Ty := .pair (Outs.ty slices_Index_int_outs) (mutsTy slices_Index_int_ps)
noncomputable def slices_Index_int_env : Env := { tab := slices_Index_int_tab, fns := [(79, Try.f79)], sigs := [] }
def slices_Index_int_anns : List Ann := [⟨79, 2, [0, 1, 7, 8], []⟩]
inductive slices_Index_int_H where
  | l0 (v0 : List Int) (v1 : Int) (v2 : Int) (v3 : Int)
noncomputable def slices_Index_int_cfg : slices_Index_int_H → Cfg
  | .l0 v0 v1 v2 v3 => { fr := { fn := 79, fb := 0, ss := sl 19 [(0, (.pv true (.slice (.int .i64)) v0)), (1, (.pv false (.int .i64) v1)), (7, (.pv false (.int .i64) v2)), (8, (.pv false (.int .i64) v3))], todo := todoAt (bodyOf Try.f79) [false, true, false, true] [] }, cs := [], ob := ofList [] }
def slices_Index_int_body (rec : slices_Index_int_H → Option slices_Index_int_R) : slices_Index_int_H → Option slices_Index_int_R
  | .l0 v0 v1 v2 v3 =>
    if (decide (v3 < v2)) = true then
      if (decide (0 ≤ v3)) = true then
        if (decide (v3 < (↑v0.length : Int))) = true then
          if (v1 == v0.getD v3.toNat 0) = true then
            some (v3, ())
          else
            (rec (.l0 (v0) (v1) (v2) (IntKind.i64.wrap (v3 + 1)))).bind some
        else
          none
      else
        none
    else
      some (-1, ())
def slices_Index_int_start (rec : slices_Index_int_H → Option slices_Index_int_R) (x0 : (List Int)) (x1 : Int) : Option slices_Index_int_R :=
  (rec (.l0 (x0) (x1) ((↑x0.length : Int)) (0))).bind some
def slices_Index_int_go : Nat → slices_Index_int_H → Option slices_Index_int_R
  | 0, _ => none
  | k + 1, h => slices_Index_int_body (slices_Index_int_go k) h
def slices_Index_int_k (k : Nat) (x0 : (List Int)) (x1 : Int) : Option slices_Index_int_R := slices_Index_int_start (slices_Index_int_go k) x0 x1
def slices_Index_int_fn (x0 : (List Int)) (x1 : Int) : Option slices_Index_int_R := slices_Index_int_k (x0.length + 10000000) x0 x1
noncomputable def slices_Index_int_sig : Sig := { ps := slices_Index_int_ps, outs := slices_Index_int_outs, fn := fun x => slices_Index_int_fn (x.1) (x.2.1) }
theorem slices_Index_int_l0_t (rec : Cfg → Option slices_Index_int_R) (v0 : List Int) (v1 : Int) (v2 : Int) (v3 : Int) : Tr.k (ev slices_Index_int_env slices_Index_int_anns slices_Index_int_sig rec 20000 (slices_Index_int_cfg (.l0 v0 v1 v2 v3))) some = (br (decide (v3 < v2)) (br (decide (0 ≤ v3)) (br (decide (v3 < (↑v0.length : Int))) (br (v1 == v0.getD v3.toNat 0) (some (v3, ())) ((rec (slices_Index_int_cfg (.l0 (v0) (v1) (v2) (IntKind.i64.wrap (v3 + 1))))).bind some)) (none)) (none)) (some (-1, ())) : Option slices_Index_int_R) := by kernel_rfl
theorem slices_Index_int_l0 (rec : Cfg → Option slices_Index_int_sig.R.D) (v0 : List Int) (v1 : Int) (v2 : Int) (v3 : Int) : (ev slices_Index_int_env slices_Index_int_anns slices_Index_int_sig rec 20000 (slices_Index_int_cfg (.l0 v0 v1 v2 v3))).run = slices_Index_int_body (fun h => rec (slices_Index_int_cfg h)) (.l0 v0 v1 v2 v3) := (Tr.k_some _).trans ((slices_Index_int_l0_t rec v0 v1 v2 v3).trans (by first | rfl | (simp only [br_ite]; rfl)))
theorem slices_Index_int_begin_t (rec : Cfg → Option slices_Index_int_R) (x0 : (List Int)) (x1 : Int) : Tr.k (ev slices_Index_int_env slices_Index_int_anns slices_Index_int_sig rec 20000 (entry slices_Index_int_sig 79 Try.f79 (bodyOf Try.f79) (x0, x1, ()))) some = ((rec (slices_Index_int_cfg (.l0 (x0) (x1) ((↑x0.length : Int)) (0)))).bind some : Option slices_Index_int_R) := by kernel_rfl
theorem slices_Index_int_begin (rec : Cfg → Option slices_Index_int_sig.R.D) (x0 : (List Int)) (x1 : Int) : (ev slices_Index_int_env slices_Index_int_anns slices_Index_int_sig rec 20000 (entry slices_Index_int_sig 79 Try.f79 (bodyOf Try.f79) (x0, x1, ()))).run = slices_Index_int_start (fun h => rec (slices_Index_int_cfg h)) x0 x1 := (Tr.k_some _).trans ((slices_Index_int_begin_t rec x0 x1).trans (by first | rfl | (simp only [br_ite]; rfl)))
theorem slices_Index_int_tab_ok : slices_Index_int_tab.ok Try.prog = true := by decide +kernel
theorem slices_Index_int_env_ok : (slices_Index_int_env).Ok Try.prog where
  mixed := by decide +kernel
  tab := slices_Index_int_tab_ok
  fns := by
    intro p hp
    simp only [slices_Index_int_env, List.mem_cons, List.not_mem_nil, or_false] at hp
    subst hp
    · exact ⟨Try.func79, by decide +kernel⟩
  sigs := by
    intro p hp
    simp only [slices_Index_int_env, List.mem_cons, List.not_mem_nil, or_false] at hp
  exts := by
    intro p hp
    simp only [slices_Index_int_env, List.mem_cons, List.not_mem_nil, or_false] at hp
theorem slices_Index_int_run (k : Nat) (h : slices_Index_int_H) : Om slices_Index_int_env slices_Index_int_anns slices_Index_int_sig 20000 k (slices_Index_int_cfg h) = slices_Index_int_go k h :=
  Om_go (sg := slices_Index_int_sig) (cfg := slices_Index_int_cfg) (body := slices_Index_int_body) (go := slices_Index_int_go) (fun _ => rfl) (fun _ _ => rfl) (fun rec h => by
  cases h with
  | l0 v0 v1 v2 v3 => exact slices_Index_int_l0 rec v0 v1 v2 v3) k h
theorem slices_Index_int_meets : Meets Try.prog 79 slices_Index_int_sig := by
  refine meets (anns := slices_Index_int_anns) (N := 20000) slices_Index_int_env_ok Try.func79 (body := bodyOf Try.f79) (by rfl) ?_
  rintro ⟨x0, x1, ⟨⟩⟩ r hr
  refine ⟨x0.length + 10000000, ?_⟩
  show (ev slices_Index_int_env slices_Index_int_anns slices_Index_int_sig (Om slices_Index_int_env slices_Index_int_anns slices_Index_int_sig 20000 (x0.length + 10000000)) 20000 (entry slices_Index_int_sig 79 Try.f79 (bodyOf Try.f79) (x0, x1, ()))).run = some r
  rw [slices_Index_int_begin]
  have e : (fun h => Om slices_Index_int_env slices_Index_int_anns slices_Index_int_sig 20000 (x0.length + 10000000) (slices_Index_int_cfg h)) = slices_Index_int_go (x0.length + 10000000) := funext fun h => slices_Index_int_run _ h
  rw [e]
  exact hr
end Go.Proofs.Ytmggpiijahiaiaa.Ev
namespace Go.Proofs.Ytmggpiijahiaiaa.Ev
open Go
set_option linter.unusedVariables false
set_option linter.unusedSimpArgs false
set_option maxRecDepth 100000
def slices_Contains_int_tab : TTab := [⟨3, (.int .i64), 0⟩, ⟨4, .bool, 0⟩, ⟨29, (.slice (.int .i64)), 8⟩]
abbrev slices_Contains_int_ps : List Par := [.lent (.slice (.int .i64)), .lent (.int .i64)]
abbrev slices_Contains_int_outs : Outs := .one (.pure .bool)
abbrev slices_Contains_int_R : Type := (Bool × Unit)
abbrev slices_Contains_int_T : Ty := .pair (Outs.ty slices_Contains_int_outs) (mutsTy slices_Contains_int_ps)
noncomputable def slices_Contains_int_env : Env := { tab := slices_Contains_int_tab, fns := [(63, Try.f63)], sigs := [(79, slices_Index_int_sig)] }
def slices_Contains_int_anns : List Ann := []
inductive slices_Contains_int_H where
  | none
noncomputable def slices_Contains_int_cfg : slices_Contains_int_H → Cfg
  | .none => { fr := { fn := 0, fb := 0, ss := [], todo := [] }, cs := [], ob := fun _ => none }
def slices_Contains_int_body (rec : slices_Contains_int_H → Option slices_Contains_int_R) : slices_Contains_int_H → Option slices_Contains_int_R
  | .none => none
def slices_Contains_int_start (rec : slices_Contains_int_H → Option slices_Contains_int_R) (x0 : (List Int)) (x1 : Int) : Option slices_Contains_int_R :=
  (slices_Index_int_fn x0 x1).bind fun y0 =>
    some (decide (y0.fst ≥ 0), ())
def slices_Contains_int_go : Nat → slices_Contains_int_H → Option slices_Contains_int_R
  | 0, _ => none
  | k + 1, h => slices_Contains_int_body (slices_Contains_int_go k) h
def slices_Contains_int_k (k : Nat) (x0 : (List Int)) (x1 : Int) : Option slices_Contains_int_R := slices_Contains_int_start (slices_Contains_int_go k) x0 x1
def slices_Contains_int_fn (x0 : (List Int)) (x1 : Int) : Option slices_Contains_int_R := slices_Contains_int_k (1) x0 x1
noncomputable def slices_Contains_int_sig : Sig := { ps := slices_Contains_int_ps, outs := slices_Contains_int_outs, fn := fun x => slices_Contains_int_fn (x.1) (x.2.1) }
theorem slices_Contains_int_begin_t (rec : Cfg → Option slices_Contains_int_R) (x0 : (List Int)) (x1 : Int) : Tr.k (ev slices_Contains_int_env slices_Contains_int_anns slices_Contains_int_sig rec 20000 (entry slices_Contains_int_sig 63 Try.f63 (bodyOf Try.f63) (x0, x1, ()))) some = ((slices_Index_int_fn x0 x1).bind fun y0 => some (decide (y0.fst ≥ 0), ()) : Option slices_Contains_int_R) := by kernel_rfl
theorem slices_Contains_int_begin (rec : Cfg → Option slices_Contains_int_sig.R.D) (x0 : (List Int)) (x1 : Int) : (ev slices_Contains_int_env slices_Contains_int_anns slices_Contains_int_sig rec 20000 (entry slices_Contains_int_sig 63 Try.f63 (bodyOf Try.f63) (x0, x1, ()))).run = slices_Contains_int_start (fun h => rec (slices_Contains_int_cfg h)) x0 x1 := (Tr.k_some _).trans ((slices_Contains_int_begin_t rec x0 x1).trans (by first | rfl | (simp only [br_ite]; rfl)))
theorem slices_Contains_int_tab_ok : slices_Contains_int_tab.ok Try.prog = true := by decide +kernel
theorem slices_Contains_int_env_ok : (slices_Contains_int_env).Ok Try.prog where
  mixed := by decide +kernel
  tab := slices_Contains_int_tab_ok
  fns := by
    intro p hp
    simp only [slices_Contains_int_env, List.mem_cons, List.not_mem_nil, or_false] at hp
    subst hp
    · exact ⟨Try.func63, by decide +kernel⟩
  sigs := by
    intro p hp
    simp only [slices_Contains_int_env, List.mem_cons, List.not_mem_nil, or_false] at hp
    subst hp
    · exact ⟨slices_Index_int_meets, _, Try.func79, by decide +kernel⟩
  exts := by
    intro p hp
    simp only [slices_Contains_int_env, List.mem_cons, List.not_mem_nil, or_false] at hp
theorem slices_Contains_int_meets : Meets Try.prog 63 slices_Contains_int_sig := by
  refine meets (anns := slices_Contains_int_anns) (N := 20000) slices_Contains_int_env_ok Try.func63 (body := bodyOf Try.f63) (by rfl) ?_
  rintro ⟨x0, x1, ⟨⟩⟩ r hr
  refine ⟨1, ?_⟩
  show (ev slices_Contains_int_env slices_Contains_int_anns slices_Contains_int_sig (Om slices_Contains_int_env slices_Contains_int_anns slices_Contains_int_sig 20000 (1)) 20000 (entry slices_Contains_int_sig 63 Try.f63 (bodyOf Try.f63) (x0, x1, ()))).run = some r
  rw [slices_Contains_int_begin]
  exact hr
end Go.Proofs.Ytmggpiijahiaiaa.Ev
namespace Go.Proofs.Ytmggpiijahiaiaa.Ev
open Go
set_option linter.unusedVariables false
set_option linter.unusedSimpArgs false
set_option maxRecDepth 100000
def i_hasAnswered_tab : TTab := [⟨3, (.int .i64), 0⟩, ⟨4, .bool, 0⟩, ⟨25, (.slice tPast), 64⟩, ⟨29, (.slice (.int .i64)), 8⟩, ⟨44, tPast, 0⟩]
abbrev i_hasAnswered_ps : List Par := [.lent (.slice tPast), .lent (.slice (.int .i64))]
abbrev i_hasAnswered_outs : Outs := .one (.pure .bool)
abbrev i_hasAnswered_R : Type := (Bool × Unit)
abbrev i_hasAnswered_T : Ty := .pair (Outs.ty i_hasAnswered_outs) (mutsTy i_hasAnswered_ps)
noncomputable def i_hasAnswered_env : Env := { tab := i_hasAnswered_tab, fns := [(43, Try.f43)], sigs := [(63, slices_Contains_int_sig)] }
def i_hasAnswered_anns : List Ann := [⟨43, 2, [1, 7, 8, 9], []⟩, ⟨43, 100022, [1, 7, 8, 9, 22], []⟩]
inductive i_hasAnswered_H where
  | l0 (v0 : List Int) (v1 : List PastD) (v2 : Int) (v3 : Int)
  | l1 (v0 : List Int) (v1 : List PastD) (v2 : Int) (v3 : Int) (v4 : Bool)
noncomputable def i_hasAnswered_cfg : i_hasAnswered_H → Cfg
  | .l0 v0 v1 v2 v3 => { fr := { fn := 43, fb := 0, ss := sl 24 [(1, (.pv true (.slice (.int .i64)) v0)), (7, (.pv true (.slice tPast) v1)), (8, (.pv false (.int .i64) v2)), (9, (.pv false (.int .i64) v3))], todo := todoAt (bodyOf Try.f43) [false, true, false, true] [] }, cs := [], ob := ofList [] }
  | .l1 v0 v1 v2 v3 v4 => { fr := { fn := 43, fb := 0, ss := sl 24 [(1, (.pv true (.slice (.int .i64)) v0)), (7, (.pv true (.slice tPast) v1)), (8, (.pv false (.int .i64) v2)), (9, (.pv false (.int .i64) v3)), (22, (.pv false .bool v4))], todo := cutAt (bodyOf Try.f43) [false, true, false, true, true, false, false, true, true, false, false] [] }, cs := [], ob := ofList [] }
def i_hasAnswered_body (rec : i_hasAnswered_H → Option i_hasAnswered_R) : i_hasAnswered_H → Option i_hasAnswered_R
  | .l0 v0 v1 v2 v3 =>
    if (decide (v3 < v2)) = true then
      if (decide (0 ≤ v3)) = true then
        if (decide (v3 < (↑v1.length : Int))) = true then
          if ((v1.getD v3.toNat ((0, 0, 0, 0, ()), 0, 0, 0, 0, ())).snd.snd.fst != -1) = true then
            (slices_Contains_int_fn v0 v3).bind fun y0 =>
              (rec (.l1 (v0) (v1) (v2) (v3) (!y0.fst))).bind some
          else
            (rec (.l1 (v0) (v1) (v2) (v3) (Bool.false))).bind some
        else
          none
      else
        none
    else
      some (true, ())
  | .l1 v0 v1 v2 v3 v4 =>
    if (v4) = true then
      some (false, ())
    else
      (rec (.l0 (v0) (v1) (v2) (IntKind.i64.wrap (v3 + 1)))).bind some
def i_hasAnswered_start (rec : i_hasAnswered_H → Option i_hasAnswered_R) (x0 : (List PastD)) (x1 : (List Int)) : Option i_hasAnswered_R :=
  (rec (.l0 (x1) (x0) ((↑x0.length : Int)) (0))).bind some
def i_hasAnswered_go : Nat → i_hasAnswered_H → Option i_hasAnswered_R
  | 0, _ => none
  | k + 1, h => i_hasAnswered_body (i_hasAnswered_go k) h
def i_hasAnswered_k (k : Nat) (x0 : (List PastD)) (x1 : (List Int)) : Option i_hasAnswered_R := i_hasAnswered_start (i_hasAnswered_go k) x0 x1
def i_hasAnswered_fn (x0 : (List PastD)) (x1 : (List Int)) : Option i_hasAnswered_R := i_hasAnswered_k (x0.length + x1.length + 10000000) x0 x1
noncomputable def i_hasAnswered_sig : Sig := { ps := i_hasAnswered_ps, outs := i_hasAnswered_outs, fn := fun x => i_hasAnswered_fn (x.1) (x.2.1) }
theorem i_hasAnswered_l0_t (rec : Cfg → Option i_hasAnswered_R) (v0 : List Int) (v1 : List PastD) (v2 : Int) (v3 : Int) : Tr.k (ev i_hasAnswered_env i_hasAnswered_anns i_hasAnswered_sig rec 20000 (i_hasAnswered_cfg (.l0 v0 v1 v2 v3))) some = (br (decide (v3 < v2)) (br (decide (0 ≤ v3)) (br (decide (v3 < (↑v1.length : Int))) (br ((v1.getD v3.toNat ((0, 0, 0, 0, ()), 0, 0, 0, 0, ())).snd.snd.fst != -1) ((slices_Contains_int_fn v0 v3).bind fun y0 => (rec (i_hasAnswered_cfg (.l1 (v0) (v1) (v2) (v3) (!y0.fst)))).bind some) ((rec (i_hasAnswered_cfg (.l1 (v0) (v1) (v2) (v3) (Bool.false)))).bind some)) (none)) (none)) (some (true, ())) : Option i_hasAnswered_R) := by kernel_rfl
theorem i_hasAnswered_l0 (rec : Cfg → Option i_hasAnswered_sig.R.D) (v0 : List Int) (v1 : List PastD) (v2 : Int) (v3 : Int) : (ev i_hasAnswered_env i_hasAnswered_anns i_hasAnswered_sig rec 20000 (i_hasAnswered_cfg (.l0 v0 v1 v2 v3))).run = i_hasAnswered_body (fun h => rec (i_hasAnswered_cfg h)) (.l0 v0 v1 v2 v3) := (Tr.k_some _).trans ((i_hasAnswered_l0_t rec v0 v1 v2 v3).trans (by first | rfl | (simp only [br_ite]; rfl)))
theorem i_hasAnswered_l1_t (rec : Cfg → Option i_hasAnswered_R) (v0 : List Int) (v1 : List PastD) (v2 : Int) (v3 : Int) (v4 : Bool) : Tr.k (ev i_hasAnswered_env i_hasAnswered_anns i_hasAnswered_sig rec 20000 (i_hasAnswered_cfg (.l1 v0 v1 v2 v3 v4))) some = (br (v4) (some (false, ())) ((rec (i_hasAnswered_cfg (.l0 (v0) (v1) (v2) (IntKind.i64.wrap (v3 + 1))))).bind some) : Option i_hasAnswered_R) := by kernel_rfl
theorem i_hasAnswered_l1 (rec : Cfg → Option i_hasAnswered_sig.R.D) (v0 : List Int) (v1 : List PastD) (v2 : Int) (v3 : Int) (v4 : Bool) : (ev i_hasAnswered_env i_hasAnswered_anns i_hasAnswered_sig rec 20000 (i_hasAnswered_cfg (.l1 v0 v1 v2 v3 v4))).run = i_hasAnswered_body (fun h => rec (i_hasAnswered_cfg h)) (.l1 v0 v1 v2 v3 v4) := (Tr.k_some _).trans ((i_hasAnswered_l1_t rec v0 v1 v2 v3 v4).trans (by first | rfl | (simp only [br_ite]; rfl)))
theorem i_hasAnswered_begin_t (rec : Cfg → Option i_hasAnswered_R) (x0 : (List PastD)) (x1 : (List Int)) : Tr.k (ev i_hasAnswered_env i_hasAnswered_anns i_hasAnswered_sig rec 20000 (entry i_hasAnswered_sig 43 Try.f43 (bodyOf Try.f43) (x0, x1, ()))) some = ((rec (i_hasAnswered_cfg (.l0 (x1) (x0) ((↑x0.length : Int)) (0)))).bind some : Option i_hasAnswered_R) := by kernel_rfl
theorem i_hasAnswered_begin (rec : Cfg → Option i_hasAnswered_sig.R.D) (x0 : (List PastD)) (x1 : (List Int)) : (ev i_hasAnswered_env i_hasAnswered_anns i_hasAnswered_sig rec 20000 (entry i_hasAnswered_sig 43 Try.f43 (bodyOf Try.f43) (x0, x1, ()))).run = i_hasAnswered_start (fun h => rec (i_hasAnswered_cfg h)) x0 x1 := (Tr.k_some _).trans ((i_hasAnswered_begin_t rec x0 x1).trans (by first | rfl | (simp only [br_ite]; rfl)))
theorem i_hasAnswered_tab_ok : i_hasAnswered_tab.ok Try.prog = true := by decide +kernel
theorem i_hasAnswered_env_ok : (i_hasAnswered_env).Ok Try.prog where
  mixed := by decide +kernel
  tab := i_hasAnswered_tab_ok
  fns := by
    intro p hp
    simp only [i_hasAnswered_env, List.mem_cons, List.not_mem_nil, or_false] at hp
    subst hp
    · exact ⟨Try.func43, by decide +kernel⟩
  sigs := by
    intro p hp
    simp only [i_hasAnswered_env, List.mem_cons, List.not_mem_nil, or_false] at hp
    subst hp
    · exact ⟨slices_Contains_int_meets, _, Try.func63, by decide +kernel⟩
  exts := by
    intro p hp
    simp only [i_hasAnswered_env, List.mem_cons, List.not_mem_nil, or_false] at hp
theorem i_hasAnswered_run (k : Nat) (h : i_hasAnswered_H) : Om i_hasAnswered_env i_hasAnswered_anns i_hasAnswered_sig 20000 k (i_hasAnswered_cfg h) = i_hasAnswered_go k h :=
  Om_go (sg := i_hasAnswered_sig) (cfg := i_hasAnswered_cfg) (body := i_hasAnswered_body) (go := i_hasAnswered_go) (fun _ => rfl) (fun _ _ => rfl) (fun rec h => by
  cases h with
  | l0 v0 v1 v2 v3 => exact i_hasAnswered_l0 rec v0 v1 v2 v3
  | l1 v0 v1 v2 v3 v4 => exact i_hasAnswered_l1 rec v0 v1 v2 v3 v4) k h
theorem i_hasAnswered_meets : Meets Try.prog 43 i_hasAnswered_sig := by
  refine meets (anns := i_hasAnswered_anns) (N := 20000) i_hasAnswered_env_ok Try.func43 (body := bodyOf Try.f43) (by rfl) ?_
  rintro ⟨x0, x1, ⟨⟩⟩ r hr
  refine ⟨x0.length + x1.length + 10000000, ?_⟩
  show (ev i_hasAnswered_env i_hasAnswered_anns i_hasAnswered_sig (Om i_hasAnswered_env i_hasAnswered_anns i_hasAnswered_sig 20000 (x0.length + x1.length + 10000000)) 20000 (entry i_hasAnswered_sig 43 Try.f43 (bodyOf Try.f43) (x0, x1, ()))).run = some r
  rw [i_hasAnswered_begin]
  have e : (fun h => Om i_hasAnswered_env i_hasAnswered_anns i_hasAnswered_sig 20000 (x0.length + x1.length + 10000000) (i_hasAnswered_cfg h)) = i_hasAnswered_go (x0.length + x1.length + 10000000) := funext fun h => i_hasAnswered_run _ h
  rw [e]
  exact hr
end Go.Proofs.Ytmggpiijahiaiaa.Ev
namespace Go.Proofs.Ytmggpiijahiaiaa.Ev
open Go
set_option linter.unusedVariables false
set_option linter.unusedSimpArgs false
set_option maxRecDepth 100000
def s_l01Has_tab : TTab := [⟨3, (.int .i64), 0⟩, ⟨4, .bool, 0⟩, ⟨29, (.slice (.int .i64)), 8⟩]
abbrev s_l01Has_ps : List Par := [.lent (.slice (.int .i64)), .lent (.int .i64)]
abbrev s_l01Has_outs : Outs := .one (.pure .bool)
abbrev s_l01Has_R : Type := (Bool × Unit)
abbrev s_l01Has_T : Ty := .pair (Outs.ty s_l01Has_outs) (mutsTy s_l01Has_ps)
noncomputable def s_l01Has_env : Env := { tab := s_l01Has_tab, fns := [(76, Try.f76)], sigs := [] }
def s_l01Has_anns : List Ann := [⟨76, 2, [0, 1, 5], []⟩]
inductive s_l01Has_H where
  | l0 (v0 : List Int) (v1 : Int) (v2 : Int)
noncomputable def s_l01Has_cfg : s_l01Has_H → Cfg
  | .l0 v0 v1 v2 => { fr := { fn := 76, fb := 0, ss := sl 18 [(0, (.pv true (.slice (.int .i64)) v0)), (1, (.pv false (.int .i64) v1)), (5, (.pv false (.int .i64) v2))], todo := todoAt (bodyOf Try.f76) [false, true, false, true] [] }, cs := [], ob := ofList [] }
def s_l01Has_body (rec : s_l01Has_H → Option s_l01Has_R) : s_l01Has_H → Option s_l01Has_R
  | .l0 v0 v1 v2 =>
    if (decide (v2 < (↑v0.length : Int))) = true then
      if (decide (0 ≤ v2)) = true then
        if (decide (v2 < (↑v0.length : Int))) = true then
          if (v0.getD v2.toNat 0 == v1) = true then
            some (true, ())
          else
            (rec (.l0 (v0) (v1) (IntKind.i64.wrap (v2 + 1)))).bind some
        else
          none
      else
        none
    else
      some (false, ())
def s_l01Has_start (rec : s_l01Has_H → Option s_l01Has_R) (x0 : (List Int)) (x1 : Int) : Option s_l01Has_R :=
  (rec (.l0 (x0) (x1) (0))).bind some
def s_l01Has_go : Nat → s_l01Has_H → Option s_l01Has_R
  | 0, _ => none
  | k + 1, h => s_l01Has_body (s_l01Has_go k) h
def s_l01Has_k (k : Nat) (x0 : (List Int)) (x1 : Int) : Option s_l01Has_R := s_l01Has_start (s_l01Has_go k) x0 x1
def s_l01Has_fn (x0 : (List Int)) (x1 : Int) : Option s_l01Has_R := s_l01Has_k (x0.length + 10000000) x0 x1
noncomputable def s_l01Has_sig : Sig := { ps := s_l01Has_ps, outs := s_l01Has_outs, fn := fun x => s_l01Has_fn (x.1) (x.2.1) }
theorem s_l01Has_l0_t (rec : Cfg → Option s_l01Has_R) (v0 : List Int) (v1 : Int) (v2 : Int) : Tr.k (ev s_l01Has_env s_l01Has_anns s_l01Has_sig rec 20000 (s_l01Has_cfg (.l0 v0 v1 v2))) some = (br (decide (v2 < (↑v0.length : Int))) (br (decide (0 ≤ v2)) (br (decide (v2 < (↑v0.length : Int))) (br (v0.getD v2.toNat 0 == v1) (some (true, ())) ((rec (s_l01Has_cfg (.l0 (v0) (v1) (IntKind.i64.wrap (v2 + 1))))).bind some)) (none)) (none)) (some (false, ())) : Option s_l01Has_R) := by kernel_rfl
theorem s_l01Has_l0 (rec : Cfg → Option s_l01Has_sig.R.D) (v0 : List Int) (v1 : Int) (v2 : Int) : (ev s_l01Has_env s_l01Has_anns s_l01Has_sig rec 20000 (s_l01Has_cfg (.l0 v0 v1 v2))).run = s_l01Has_body (fun h => rec (s_l01Has_cfg h)) (.l0 v0 v1 v2) := (Tr.k_some _).trans ((s_l01Has_l0_t rec v0 v1 v2).trans (by first | rfl | (simp only [br_ite]; rfl)))
theorem s_l01Has_begin_t (rec : Cfg → Option s_l01Has_R) (x0 : (List Int)) (x1 : Int) : Tr.k (ev s_l01Has_env s_l01Has_anns s_l01Has_sig rec 20000 (entry s_l01Has_sig 76 Try.f76 (bodyOf Try.f76) (x0, x1, ()))) some = ((rec (s_l01Has_cfg (.l0 (x0) (x1) (0)))).bind some : Option s_l01Has_R) := by kernel_rfl
theorem s_l01Has_begin (rec : Cfg → Option s_l01Has_sig.R.D) (x0 : (List Int)) (x1 : Int) : (ev s_l01Has_env s_l01Has_anns s_l01Has_sig rec 20000 (entry s_l01Has_sig 76 Try.f76 (bodyOf Try.f76) (x0, x1, ()))).run = s_l01Has_start (fun h => rec (s_l01Has_cfg h)) x0 x1 := (Tr.k_some _).trans ((s_l01Has_begin_t rec x0 x1).trans (by first | rfl | (simp only [br_ite]; rfl)))
theorem s_l01Has_tab_ok : s_l01Has_tab.ok Try.prog = true := by decide +kernel
theorem s_l01Has_env_ok : (s_l01Has_env).Ok Try.prog where
  mixed := by decide +kernel
  tab := s_l01Has_tab_ok
  fns := by
    intro p hp
    simp only [s_l01Has_env, List.mem_cons, List.not_mem_nil, or_false] at hp
    subst hp
    · exact ⟨Try.func76, by decide +kernel⟩
  sigs := by
    intro p hp
    simp only [s_l01Has_env, List.mem_cons, List.not_mem_nil, or_false] at hp
  exts := by
    intro p hp
    simp only [s_l01Has_env, List.mem_cons, List.not_mem_nil, or_false] at hp
theorem s_l01Has_run (k : Nat) (h : s_l01Has_H) : Om s_l01Has_env s_l01Has_anns s_l01Has_sig 20000 k (s_l01Has_cfg h) = s_l01Has_go k h :=
  Om_go (sg := s_l01Has_sig) (cfg := s_l01Has_cfg) (body := s_l01Has_body) (go := s_l01Has_go) (fun _ => rfl) (fun _ _ => rfl) (fun rec h => by
  cases h with
  | l0 v0 v1 v2 => exact s_l01Has_l0 rec v0 v1 v2) k h
theorem s_l01Has_meets : Meets Try.prog 76 s_l01Has_sig := by
  refine meets (anns := s_l01Has_anns) (N := 20000) s_l01Has_env_ok Try.func76 (body := bodyOf Try.f76) (by rfl) ?_
  rintro ⟨x0, x1, ⟨⟩⟩ r hr
  refine ⟨x0.length + 10000000, ?_⟩
  show (ev s_l01Has_env s_l01Has_anns s_l01Has_sig (Om s_l01Has_env s_l01Has_anns s_l01Has_sig 20000 (x0.length + 10000000)) 20000 (entry s_l01Has_sig 76 Try.f76 (bodyOf Try.f76) (x0, x1, ()))).run = some r
  rw [s_l01Has_begin]
  have e : (fun h => Om s_l01Has_env s_l01Has_anns s_l01Has_sig 20000 (x0.length + 10000000) (s_l01Has_cfg h)) = s_l01Has_go (x0.length + 10000000) := funext fun h => s_l01Has_run _ h
  rw [e]
  exact hr
end Go.Proofs.Ytmggpiijahiaiaa.Ev
namespace Go.Proofs.Ytmggpiijahiaiaa.Ev
open Go
set_option linter.unusedVariables false
set_option linter.unusedSimpArgs false
set_option maxRecDepth 100000
def s_l17All_tab : TTab := [⟨3, (.int .i64), 0⟩, ⟨4, .bool, 0⟩, ⟨25, (.slice tPast), 64⟩, ⟨29, (.slice (.int .i64)), 8⟩, ⟨44, tPast, 0⟩]
abbrev s_l17All_ps : List Par := [.lent (.slice tPast), .lent (.slice (.int .i64))]
abbrev s_l17All_outs : Outs := .one (.pure .bool)
abbrev s_l17All_R : Type := (Bool × Unit)
abbrev s_l17All_T : Ty := .pair (Outs.ty s_l17All_outs) (mutsTy s_l17All_ps)
noncomputable def s_l17All_env : Env := { tab := s_l17All_tab, fns := [(57, Try.f57)], sigs := [(76, s_l01Has_sig)] }
def s_l17All_anns : List Ann := [⟨57, 2, [0, 1, 5], []⟩, ⟨57, 100023, [0, 1, 5, 23], []⟩]
inductive s_l17All_H where
  | l0 (v0 : List PastD) (v1 : List Int) (v2 : Int)
  | l1 (v0 : List PastD) (v1 : List Int) (v2 : Int) (v3 : Bool)
noncomputable def s_l17All_cfg : s_l17All_H → Cfg
  | .l0 v0 v1 v2 => { fr := { fn := 57, fb := 0, ss := sl 24 [(0, (.pv true (.slice tPast) v0)), (1, (.pv true (.slice (.int .i64)) v1)), (5, (.pv false (.int .i64) v2))], todo := todoAt (bodyOf Try.f57) [false, true, false, true] [] }, cs := [], ob := ofList [] }
  | .l1 v0 v1 v2 v3 => { fr := { fn := 57, fb := 0, ss := sl 24 [(0, (.pv true (.slice tPast) v0)), (1, (.pv true (.slice (.int .i64)) v1)), (5, (.pv false (.int .i64) v2)), (23, (.pv false .bool v3))], todo := cutAt (bodyOf Try.f57) [false, true, false, true, true, false, true, true, false] [] }, cs := [], ob := ofList [] }
def s_l17All_body (rec : s_l17All_H → Option s_l17All_R) : s_l17All_H → Option s_l17All_R
  | .l0 v0 v1 v2 =>
    if (decide (v2 < (↑v0.length : Int))) = true then
      if (decide (0 ≤ v2)) = true then
        if (decide (v2 < (↑v0.length : Int))) = true then
          if ((v0.getD v2.toNat ((0, 0, 0, 0, ()), 0, 0, 0, 0, ())).snd.snd.fst != -1) = true then
            (s_l01Has_fn v1 v2).bind fun y0 =>
              (rec (.l1 (v0) (v1) (v2) (!y0.fst))).bind some
          else
            (rec (.l1 (v0) (v1) (v2) (Bool.false))).bind some
        else
          none
      else
        none
    else
      some (true, ())
  | .l1 v0 v1 v2 v3 =>
    if (v3) = true then
      some (false, ())
    else
      (rec (.l0 (v0) (v1) (IntKind.i64.wrap (v2 + 1)))).bind some
def s_l17All_start (rec : s_l17All_H → Option s_l17All_R) (x0 : (List PastD)) (x1 : (List Int)) : Option s_l17All_R :=
  (rec (.l0 (x0) (x1) (0))).bind some
def s_l17All_go : Nat → s_l17All_H → Option s_l17All_R
  | 0, _ => none
  | k + 1, h => s_l17All_body (s_l17All_go k) h
def s_l17All_k (k : Nat) (x0 : (List PastD)) (x1 : (List Int)) : Option s_l17All_R := s_l17All_start (s_l17All_go k) x0 x1
def s_l17All_fn (x0 : (List PastD)) (x1 : (List Int)) : Option s_l17All_R := s_l17All_k (x0.length + x1.length + 10000000) x0 x1
noncomputable def s_l17All_sig : Sig := { ps := s_l17All_ps, outs := s_l17All_outs, fn := fun x => s_l17All_fn (x.1) (x.2.1) }
theorem s_l17All_l0_t (rec : Cfg → Option s_l17All_R) (v0 : List PastD) (v1 : List Int) (v2 : Int) : Tr.k (ev s_l17All_env s_l17All_anns s_l17All_sig rec 20000 (s_l17All_cfg (.l0 v0 v1 v2))) some = (br (decide (v2 < (↑v0.length : Int))) (br (decide (0 ≤ v2)) (br (decide (v2 < (↑v0.length : Int))) (br ((v0.getD v2.toNat ((0, 0, 0, 0, ()), 0, 0, 0, 0, ())).snd.snd.fst != -1) ((s_l01Has_fn v1 v2).bind fun y0 => (rec (s_l17All_cfg (.l1 (v0) (v1) (v2) (!y0.fst)))).bind some) ((rec (s_l17All_cfg (.l1 (v0) (v1) (v2) (Bool.false)))).bind some)) (none)) (none)) (some (true, ())) : Option s_l17All_R) := by kernel_rfl
theorem s_l17All_l0 (rec : Cfg → Option s_l17All_sig.R.D) (v0 : List PastD) (v1 : List Int) (v2 : Int) : (ev s_l17All_env s_l17All_anns s_l17All_sig rec 20000 (s_l17All_cfg (.l0 v0 v1 v2))).run = s_l17All_body (fun h => rec (s_l17All_cfg h)) (.l0 v0 v1 v2) := (Tr.k_some _).trans ((s_l17All_l0_t rec v0 v1 v2).trans (by first | rfl | (simp only [br_ite]; rfl)))
theorem s_l17All_l1_t (rec : Cfg → Option s_l17All_R) (v0 : List PastD) (v1 : List Int) (v2 : Int) (v3 : Bool) : Tr.k (ev s_l17All_env s_l17All_anns s_l17All_sig rec 20000 (s_l17All_cfg (.l1 v0 v1 v2 v3))) some = (br (v3) (some (false, ())) ((rec (s_l17All_cfg (.l0 (v0) (v1) (IntKind.i64.wrap (v2 + 1))))).bind some) : Option s_l17All_R) := by kernel_rfl
theorem s_l17All_l1 (rec : Cfg → Option s_l17All_sig.R.D) (v0 : List PastD) (v1 : List Int) (v2 : Int) (v3 : Bool) : (ev s_l17All_env s_l17All_anns s_l17All_sig rec 20000 (s_l17All_cfg (.l1 v0 v1 v2 v3))).run = s_l17All_body (fun h => rec (s_l17All_cfg h)) (.l1 v0 v1 v2 v3) := (Tr.k_some _).trans ((s_l17All_l1_t rec v0 v1 v2 v3).trans (by first | rfl | (simp only [br_ite]; rfl)))
theorem s_l17All_begin_t (rec : Cfg → Option s_l17All_R) (x0 : (List PastD)) (x1 : (List Int)) : Tr.k (ev s_l17All_env s_l17All_anns s_l17All_sig rec 20000 (entry s_l17All_sig 57 Try.f57 (bodyOf Try.f57) (x0, x1, ()))) some = ((rec (s_l17All_cfg (.l0 (x0) (x1) (0)))).bind some : Option s_l17All_R) := by kernel_rfl
theorem s_l17All_begin (rec : Cfg → Option s_l17All_sig.R.D) (x0 : (List PastD)) (x1 : (List Int)) : (ev s_l17All_env s_l17All_anns s_l17All_sig rec 20000 (entry s_l17All_sig 57 Try.f57 (bodyOf Try.f57) (x0, x1, ()))).run = s_l17All_start (fun h => rec (s_l17All_cfg h)) x0 x1 := (Tr.k_some _).trans ((s_l17All_begin_t rec x0 x1).trans (by first | rfl | (simp only [br_ite]; rfl)))
theorem s_l17All_tab_ok : s_l17All_tab.ok Try.prog = true := by decide +kernel
theorem s_l17All_env_ok : (s_l17All_env).Ok Try.prog where
  mixed := by decide +kernel
  tab := s_l17All_tab_ok
  fns := by
    intro p hp
    simp only [s_l17All_env, List.mem_cons, List.not_mem_nil, or_false] at hp
    subst hp
    · exact ⟨Try.func57, by decide +kernel⟩
  sigs := by
    intro p hp
    simp only [s_l17All_env, List.mem_cons, List.not_mem_nil, or_false] at hp
    subst hp
    · exact ⟨s_l01Has_meets, _, Try.func76, by decide +kernel⟩
  exts := by
    intro p hp
    simp only [s_l17All_env, List.mem_cons, List.not_mem_nil, or_false] at hp
theorem s_l17All_run (k : Nat) (h : s_l17All_H) : Om s_l17All_env s_l17All_anns s_l17All_sig 20000 k (s_l17All_cfg h) = s_l17All_go k h :=
  Om_go (sg := s_l17All_sig) (cfg := s_l17All_cfg) (body := s_l17All_body) (go := s_l17All_go) (fun _ => rfl) (fun _ _ => rfl) (fun rec h => by
  cases h with
  | l0 v0 v1 v2 => exact s_l17All_l0 rec v0 v1 v2
  | l1 v0 v1 v2 v3 => exact s_l17All_l1 rec v0 v1 v2 v3) k h
theorem s_l17All_meets : Meets Try.prog 57 s_l17All_sig := by
  refine meets (anns := s_l17All_anns) (N := 20000) s_l17All_env_ok Try.func57 (body := bodyOf Try.f57) (by rfl) ?_
  rintro ⟨x0, x1, ⟨⟩⟩ r hr
  refine ⟨x0.length + x1.length + 10000000, ?_⟩
  show (ev s_l17All_env s_l17All_anns s_l17All_sig (Om s_l17All_env s_l17All_anns s_l17All_sig 20000 (x0.length + x1.length + 10000000)) 20000 (entry s_l17All_sig 57 Try.f57 (bodyOf Try.f57) (x0, x1, ()))).run = some r
  rw [s_l17All_begin]
  have e : (fun h => Om s_l17All_env s_l17All_anns s_l17All_sig 20000 (x0.length + x1.length + 10000000) (s_l17All_cfg h)) = s_l17All_go (x0.length + x1.length + 10000000) := funext fun h => s_l17All_run _ h
  rw [e]
  exact hr
end Go.Proofs.Ytmggpiijahiaiaa.Ev
namespace Go.Proofs.Ytmggpiijahiaiaa.Ev
open Go
set_option linter.unusedVariables false
set_option linter.unusedSimpArgs false
set_option maxRecDepth 100000
def s_l01Copy_tab : TTab := [⟨3, (.int .i64), 0⟩, ⟨4, .bool, 0⟩, ⟨29, (.slice (.int .i64)), 8⟩]
abbrev s_l01Copy_ps : List Par := [.lent (.slice (.int .i64))]
abbrev s_l01Copy_outs : Outs := .one (.own (.int .i64))
abbrev s_l01Copy_R : Type := ((List Int) × Unit)
abbrev s_l01Copy_T : Ty := .pair (Outs.ty s_l01Copy_outs) (mutsTy s_l01Copy_ps)
noncomputable def s_l01Copy_env : Env := { tab := s_l01Copy_tab, fns := [(58, Try.f58)], sigs := [] }
def s_l01Copy_anns : List Ann := [⟨58, 3, [0, 3, 4], []⟩]
inductive s_l01Copy_H where
  | l0 (v0 : List Int) (v1 : Int) (v2 : List Int)
noncomputable def s_l01Copy_cfg : s_l01Copy_H → Cfg
  | .l0 v0 v1 v2 => { fr := { fn := 58, fb := 0, ss := sl 20 [(0, (.pv true (.slice (.int .i64)) v0)), (3, (.row 0 0)), (4, (.pv false (.int .i64) v1))], todo := todoAt (bodyOf Try.f58) [false, false, true, false, true] [] }, cs := [], ob := ofList [.row 0 false (.int .i64) v2] }
def s_l01Copy_body (rec : s_l01Copy_H → Option s_l01Copy_R) : s_l01Copy_H → Option s_l01Copy_R
  | .l0 v0 v1 v2 =>
    if (decide (v1 < (↑v0.length : Int))) = true then
      if (decide (0 ≤ v1)) = true then
        if (decide (v1 < (↑v0.length : Int))) = true then
          if (decide ((v2.length + ((List.replicate 1 0).set 0 (v0.getD v1.toNat 0)).length) * 8 ≤ 140737488355328)) = true then
            if (decide (v2.length + ((List.replicate 1 0).set 0 (v0.getD v1.toNat 0)).length ≤ 9223372036854775807)) = true then
              (rec (.l0 (v0) (IntKind.i64.wrap (v1 + 1)) (v2 ++ (List.replicate 1 0).set 0 (v0.getD v1.toNat 0)))).bind some
            else
              none
          else
            none
        else
          none
      else
        none
    else
      some (v2, ())
def s_l01Copy_start (rec : s_l01Copy_H → Option s_l01Copy_R) (x0 : (List Int)) : Option s_l01Copy_R :=
  (rec (.l0 (x0) (0) (List.replicate 0 0))).bind some
def s_l01Copy_go : Nat → s_l01Copy_H → Option s_l01Copy_R
  | 0, _ => none
  | k + 1, h => s_l01Copy_body (s_l01Copy_go k) h
def s_l01Copy_k (k : Nat) (x0 : (List Int)) : Option s_l01Copy_R := s_l01Copy_start (s_l01Copy_go k) x0
def s_l01Copy_fn (x0 : (List Int)) : Option s_l01Copy_R := s_l01Copy_k (x0.length + 10000000) x0
noncomputable def s_l01Copy_sig : Sig := { ps := s_l01Copy_ps, outs := s_l01Copy_outs, fn := fun x => s_l01Copy_fn (x.1) }
theorem s_l01Copy_l0_t (rec : Cfg → Option s_l01Copy_R) (v0 : List Int) (v1 : Int) (v2 : List Int) : Tr.k (ev s_l01Copy_env s_l01Copy_anns s_l01Copy_sig rec 20000 (s_l01Copy_cfg (.l0 v0 v1 v2))) some = (br (decide (v1 < (↑v0.length : Int))) (br (decide (0 ≤ v1)) (br (decide (v1 < (↑v0.length : Int))) (br (decide ((v2.length + ((List.replicate 1 0).set 0 (v0.getD v1.toNat 0)).length) * 8 ≤ 140737488355328)) (br (decide (v2.length + ((List.replicate 1 0).set 0 (v0.getD v1.toNat 0)).length ≤ 9223372036854775807)) ((rec (s_l01Copy_cfg (.l0 (v0) (IntKind.i64.wrap (v1 + 1)) (v2 ++ (List.replicate 1 0).set 0 (v0.getD v1.toNat 0))))).bind some) (none)) (none)) (none)) (none)) (some (v2, ())) : Option s_l01Copy_R) := by kernel_rfl
theorem s_l01Copy_l0 (rec : Cfg → Option s_l01Copy_sig.R.D) (v0 : List Int) (v1 : Int) (v2 : List Int) : (ev s_l01Copy_env s_l01Copy_anns s_l01Copy_sig rec 20000 (s_l01Copy_cfg (.l0 v0 v1 v2))).run = s_l01Copy_body (fun h => rec (s_l01Copy_cfg h)) (.l0 v0 v1 v2) := (Tr.k_some _).trans ((s_l01Copy_l0_t rec v0 v1 v2).trans (by first | rfl | (simp only [br_ite]; rfl)))
theorem s_l01Copy_begin_t (rec : Cfg → Option s_l01Copy_R) (x0 : (List Int)) : Tr.k (ev s_l01Copy_env s_l01Copy_anns s_l01Copy_sig rec 20000 (entry s_l01Copy_sig 58 Try.f58 (bodyOf Try.f58) (x0, ()))) some = ((rec (s_l01Copy_cfg (.l0 (x0) (0) (List.replicate 0 0)))).bind some : Option s_l01Copy_R) := by kernel_rfl
theorem s_l01Copy_begin (rec : Cfg → Option s_l01Copy_sig.R.D) (x0 : (List Int)) : (ev s_l01Copy_env s_l01Copy_anns s_l01Copy_sig rec 20000 (entry s_l01Copy_sig 58 Try.f58 (bodyOf Try.f58) (x0, ()))).run = s_l01Copy_start (fun h => rec (s_l01Copy_cfg h)) x0 := (Tr.k_some _).trans ((s_l01Copy_begin_t rec x0).trans (by first | rfl | (simp only [br_ite]; rfl)))
theorem s_l01Copy_tab_ok : s_l01Copy_tab.ok Try.prog = true := by decide +kernel
theorem s_l01Copy_env_ok : (s_l01Copy_env).Ok Try.prog where
  mixed := by decide +kernel
  tab := s_l01Copy_tab_ok
  fns := by
    intro p hp
    simp only [s_l01Copy_env, List.mem_cons, List.not_mem_nil, or_false] at hp
    subst hp
    · exact ⟨Try.func58, by decide +kernel⟩
  sigs := by
    intro p hp
    simp only [s_l01Copy_env, List.mem_cons, List.not_mem_nil, or_false] at hp
  exts := by
    intro p hp
    simp only [s_l01Copy_env, List.mem_cons, List.not_mem_nil, or_false] at hp
theorem s_l01Copy_run (k : Nat) (h : s_l01Copy_H) : Om s_l01Copy_env s_l01Copy_anns s_l01Copy_sig 20000 k (s_l01Copy_cfg h) = s_l01Copy_go k h :=
  Om_go (sg := s_l01Copy_sig) (cfg := s_l01Copy_cfg) (body := s_l01Copy_body) (go := s_l01Copy_go) (fun _ => rfl) (fun _ _ => rfl) (fun rec h => by
  cases h with
  | l0 v0 v1 v2 => exact s_l01Copy_l0 rec v0 v1 v2) k h
theorem s_l01Copy_meets : Meets Try.prog 58 s_l01Copy_sig := by
  refine meets (anns := s_l01Copy_anns) (N := 20000) s_l01Copy_env_ok Try.func58 (body := bodyOf Try.f58) (by rfl) ?_
  rintro ⟨x0, ⟨⟩⟩ r hr
  refine ⟨x0.length + 10000000, ?_⟩
  show (ev s_l01Copy_env s_l01Copy_anns s_l01Copy_sig (Om s_l01Copy_env s_l01Copy_anns s_l01Copy_sig 20000 (x0.length + 10000000)) 20000 (entry s_l01Copy_sig 58 Try.f58 (bodyOf Try.f58) (x0, ()))).run = some r
  rw [s_l01Copy_begin]
  have e : (fun h => Om s_l01Copy_env s_l01Copy_anns s_l01Copy_sig 20000 (x0.length + 10000000) (s_l01Copy_cfg h)) = s_l01Copy_go (x0.length + 10000000) := funext fun h => s_l01Copy_run _ h
  rw [e]
  exact hr
end Go.Proofs.Ytmggpiijahiaiaa.Ev
namespace Go.Proofs.Ytmggpiijahiaiaa.Ev
open Go
set_option linter.unusedVariables false
set_option linter.unusedSimpArgs false
set_option maxRecDepth 100000
def i_ahead_tab : TTab := [⟨3, (.int .i64), 0⟩, ⟨4, .bool, 0⟩, ⟨44, tPast, 0⟩]
abbrev i_ahead_ps : List Par := [.lent tPast, .lent tPast]
abbrev i_ahead_outs : Outs := .one (.pure .bool)
abbrev i_ahead_R : Type := (Bool × Unit)
abbrev i_ahead_T : Ty := .pair (Outs.ty i_ahead_outs) (mutsTy i_ahead_ps)
noncomputable def i_ahead_env : Env := { tab := i_ahead_tab, fns := [(44, Try.f44)], sigs := [] }
def i_ahead_anns : List Ann := []
inductive i_ahead_H where
  | none
noncomputable def i_ahead_cfg : i_ahead_H → Cfg
  | .none => { fr := { fn := 0, fb := 0, ss := [], todo := [] }, cs := [], ob := fun _ => none }
def i_ahead_body (rec : i_ahead_H → Option i_ahead_R) : i_ahead_H → Option i_ahead_R
  | .none => none
def i_ahead_start (rec : i_ahead_H → Option i_ahead_R) (x0 : PastD) (x1 : PastD) : Option i_ahead_R :=
  if (x0.snd.snd.fst != -1) = true then
    some (decide (x0.snd.snd.fst < x1.snd.fst), ())
  else
    some (false, ())
def i_ahead_go : Nat → i_ahead_H → Option i_ahead_R
  | 0, _ => none
  | k + 1, h => i_ahead_body (i_ahead_go k) h
def i_ahead_k (k : Nat) (x0 : PastD) (x1 : PastD) : Option i_ahead_R := i_ahead_start (i_ahead_go k) x0 x1
def i_ahead_fn (x0 : PastD) (x1 : PastD) : Option i_ahead_R := i_ahead_k (1) x0 x1
noncomputable def i_ahead_sig : Sig := { ps := i_ahead_ps, outs := i_ahead_outs, fn := fun x => i_ahead_fn (x.1) (x.2.1) }
theorem i_ahead_begin_t (rec : Cfg → Option i_ahead_R) (x0 : PastD) (x1 : PastD) : Tr.k (ev i_ahead_env i_ahead_anns i_ahead_sig rec 20000 (entry i_ahead_sig 44 Try.f44 (bodyOf Try.f44) (x0, x1, ()))) some = (br (x0.snd.snd.fst != -1) (some (decide (x0.snd.snd.fst < x1.snd.fst), ())) (some (false, ())) : Option i_ahead_R) := by kernel_rfl
theorem i_ahead_begin (rec : Cfg → Option i_ahead_sig.R.D) (x0 : PastD) (x1 : PastD) : (ev i_ahead_env i_ahead_anns i_ahead_sig rec 20000 (entry i_ahead_sig 44 Try.f44 (bodyOf Try.f44) (x0, x1, ()))).run = i_ahead_start (fun h => rec (i_ahead_cfg h)) x0 x1 := (Tr.k_some _).trans ((i_ahead_begin_t rec x0 x1).trans (by first | rfl | (simp only [br_ite]; rfl)))
theorem i_ahead_tab_ok : i_ahead_tab.ok Try.prog = true := by decide +kernel
theorem i_ahead_env_ok : (i_ahead_env).Ok Try.prog where
  mixed := by decide +kernel
  tab := i_ahead_tab_ok
  fns := by
    intro p hp
    simp only [i_ahead_env, List.mem_cons, List.not_mem_nil, or_false] at hp
    subst hp
    · exact ⟨Try.func44, by decide +kernel⟩
  sigs := by
    intro p hp
    simp only [i_ahead_env, List.mem_cons, List.not_mem_nil, or_false] at hp
  exts := by
    intro p hp
    simp only [i_ahead_env, List.mem_cons, List.not_mem_nil, or_false] at hp
theorem i_ahead_meets : Meets Try.prog 44 i_ahead_sig := by
  refine meets (anns := i_ahead_anns) (N := 20000) i_ahead_env_ok Try.func44 (body := bodyOf Try.f44) (by rfl) ?_
  rintro ⟨x0, x1, ⟨⟩⟩ r hr
  refine ⟨1, ?_⟩
  show (ev i_ahead_env i_ahead_anns i_ahead_sig (Om i_ahead_env i_ahead_anns i_ahead_sig 20000 (1)) 20000 (entry i_ahead_sig 44 Try.f44 (bodyOf Try.f44) (x0, x1, ()))).run = some r
  rw [i_ahead_begin]
  exact hr
end Go.Proofs.Ytmggpiijahiaiaa.Ev
namespace Go.Proofs.Ytmggpiijahiaiaa.Ev
open Go
set_option linter.unusedVariables false
set_option linter.unusedSimpArgs false
set_option maxRecDepth 100000
def s_Ahead_tab : TTab := [⟨3, (.int .i64), 0⟩, ⟨4, .bool, 0⟩, ⟨44, tPast, 0⟩]
abbrev s_Ahead_ps : List Par := [.lent tPast, .lent tPast]
abbrev s_Ahead_outs : Outs := .one (.pure .bool)
abbrev s_Ahead_R : Type := (Bool × Unit)
abbrev s_Ahead_T : Ty := .pair (Outs.ty s_Ahead_outs) (mutsTy s_Ahead_ps)
noncomputable def s_Ahead_env : Env := { tab := s_Ahead_tab, fns := [(77, Try.f77)], sigs := [] }
def s_Ahead_anns : List Ann := []
inductive s_Ahead_H where
  | none
noncomputable def s_Ahead_cfg : s_Ahead_H → Cfg
  | .none => { fr := { fn := 0, fb := 0, ss := [], todo := [] }, cs := [], ob := fun _ => none }
def s_Ahead_body (rec : s_Ahead_H → Option s_Ahead_R) : s_Ahead_H → Option s_Ahead_R
  | .none => none
def s_Ahead_start (rec : s_Ahead_H → Option s_Ahead_R) (x0 : PastD) (x1 : PastD) : Option s_Ahead_R :=
  if (x0.snd.snd.fst != -1) = true then
    some (decide (x0.snd.snd.fst < x1.snd.fst), ())
  else
    some (false, ())
def s_Ahead_go : Nat → s_Ahead_H → Option s_Ahead_R
  | 0, _ => none
  | k + 1, h => s_Ahead_body (s_Ahead_go k) h
def s_Ahead_k (k : Nat) (x0 : PastD) (x1 : PastD) : Option s_Ahead_R := s_Ahead_start (s_Ahead_go k) x0 x1
def s_Ahead_fn (x0 : PastD) (x1 : PastD) : Option s_Ahead_R := s_Ahead_k (1) x0 x1
noncomputable def s_Ahead_sig : Sig := { ps := s_Ahead_ps, outs := s_Ahead_outs, fn := fun x => s_Ahead_fn (x.1) (x.2.1) }
theorem s_Ahead_begin_t (rec : Cfg → Option s_Ahead_R) (x0 : PastD) (x1 : PastD) : Tr.k (ev s_Ahead_env s_Ahead_anns s_Ahead_sig rec 20000 (entry s_Ahead_sig 77 Try.f77 (bodyOf Try.f77) (x0, x1, ()))) some = (br (x0.snd.snd.fst != -1) (some (decide (x0.snd.snd.fst < x1.snd.fst), ())) (some (false, ())) : Option s_Ahead_R) := by kernel_rfl
theorem s_Ahead_begin (rec : Cfg → Option s_Ahead_sig.R.D) (x0 : PastD) (x1 : PastD) : (ev s_Ahead_env s_Ahead_anns s_Ahead_sig rec 20000 (entry s_Ahead_sig 77 Try.f77 (bodyOf Try.f77) (x0, x1, ()))).run = s_Ahead_start (fun h => rec (s_Ahead_cfg h)) x0 x1 := (Tr.k_some _).trans ((s_Ahead_begin_t rec x0 x1).trans (by first | rfl | (simp only [br_ite]; rfl)))
theorem s_Ahead_tab_ok : s_Ahead_tab.ok Try.prog = true := by decide +kernel
theorem s_Ahead_env_ok : (s_Ahead_env).Ok Try.prog where
  mixed := by decide +kernel
  tab := s_Ahead_tab_ok
  fns := by
    intro p hp
    simp only [s_Ahead_env, List.mem_cons, List.not_mem_nil, or_false] at hp
    subst hp
    · exact ⟨Try.func77, by decide +kernel⟩
  sigs := by
    intro p hp
    simp only [s_Ahead_env, List.mem_cons, List.not_mem_nil, or_false] at hp
  exts := by
    intro p hp
    simp only [s_Ahead_env, List.mem_cons, List.not_mem_nil, or_false] at hp
theorem s_Ahead_meets : Meets Try.prog 77 s_Ahead_sig := by
  refine meets (anns := s_Ahead_anns) (N := 20000) s_Ahead_env_ok Try.func77 (body := bodyOf Try.f77) (by rfl) ?_
  rintro ⟨x0, x1, ⟨⟩⟩ r hr
  refine ⟨1, ?_⟩
  show (ev s_Ahead_env s_Ahead_anns s_Ahead_sig (Om s_Ahead_env s_Ahead_anns s_Ahead_sig 20000 (1)) 20000 (entry s_Ahead_sig 77 Try.f77 (bodyOf Try.f77) (x0, x1, ()))).run = some r
  rw [s_Ahead_begin]
  exact hr
end Go.Proofs.Ytmggpiijahiaiaa.Ev
/- The plain law of the histories: which lists are histories, who is among whom, what is ahead. -/
namespace Go.Proofs.Ytmggpiijahiaiaa.Ev
open Go Go.IntWalk
set_option linter.unusedVariables false
set_option linter.unusedSimpArgs false

/-- A call of a history asv it should be. -/
def okP (p : PastD) : Bool := decide (0 ≤ p.1.1 ∧ p.1.1 ≤ 5 ∧ 0 ≤ p.2.1 ∧ p.2.1 ≤ 1000000) &&
  (if p.2.2.1 = -1 then decide (p.2.2.2.1 = 0 ∧ p.2.2.2.2.1 = 0) else decide (p.2.1 < p.2.2.1 ∧ p.2.2.1 ≤ 1000000))
def okL (l : List PastD) : Bool := l.all okP && decide (l.length ≤ 7)
theorem isPast_go {l : List PastD} (hl : l.length ≤ 1048576) : ∀ (n k i : Nat), 3 * n < k → i + n = l.length → i_isPast_go k (.l0 l l l.length i) = some ((l.drop i).all okP && decide (l.length ≤ 7), ()) := by
  intro n
  induction n with
  | zero =>
    intro k i hk hi
    obtain ⟨k, rfl⟩ : ∃ k', k = k' + 1 := ⟨k - 1, by omega⟩
    have c : ¬ ((i : Int) < (l.length : Int)) := by omega
    simp only [i_isPast_go, i_isPast_body, c, decide_false, Bool.false_eq_true, if_false]
    rw [List.drop_of_length_le (by omega)]
    simp only [List.all_nil, Bool.true_and]
    congr 3
    simp
    omega
  | succ n ih =>
    intro k i hk hi
    obtain ⟨k, rfl⟩ : ∃ k', k = k' + 3 := ⟨k - 3, by omega⟩
    have c : (i : Int) < (l.length : Int) := by omega
    have c0 : (0 : Int) ≤ (i : Int) := by omega
    have e := ih k (i + 1) (by omega) (by omega)
    obtain ⟨⟨⟨p1, p2, p3, p4, _⟩, p5, p6, p7, p8, _⟩, hp⟩ : ∃ p, l.getD i ((0, 0, 0, 0, ()), 0, 0, 0, 0, ()) = p := ⟨_, rfl⟩
    rw [dropG (l := l) (i := i) (by omega) ((0, 0, 0, 0, ()), 0, 0, 0, 0, ()), List.all_cons]
    simp only [i_isPast_go, i_isPast_body, c, c0, decide_true, if_true, Option.bind_some, Int.toNat_natCast, wrapS (i := i) (n := l.length) (by omega) (by omega), bindSome, e, hp]
    simp only [okP, decide_eq_true_eq, bne_iff_ne, ne_eq, beq_iff_eq]
    by_cases h1 : p1 < 0
    · simp [h1]; omega
    by_cases h2 : p1 > 5
    · simp [h1, h2]; omega
    by_cases h3 : p5 < 0
    · simp [h1, h2, h3]; omega
    by_cases h4 : p5 > 1000000
    · simp [h1, h2, h3, h4]; omega
    have g : (0 ≤ p1 ∧ p1 ≤ 5 ∧ 0 ≤ p5 ∧ p5 ≤ 1000000) = True := by simp; omega
    simp only [h1, h2, h3, h4, g, if_false, decide_false, Bool.false_eq_true, decide_true, Bool.true_and]
    by_cases h5 : p6 = -1
    · by_cases h6 : p7 = 0
      · by_cases h7 : p8 = 0
        · simp [h5, h6, h7]
        · simp [h5, h6, h7]
      · simp [h5, h6]
    · by_cases h6 : p6 ≤ p5
      · simp [h5, h6]; omega
      · by_cases h7 : p6 > 1000000
        · simp [h5, h6, h7]; omega
        · have g2 : (p5 < p6 ∧ p6 ≤ 1000000) = True := by simp; omega
          simp [h5, h6, h7, g2]
theorem isPast_ok {l : List PastD} (hl : l.length ≤ 1048576) : i_isPast_fn l = some (okL l, ()) := by
  unfold i_isPast_fn i_isPast_k i_isPast_start
  rw [bindSome, show (0 : Int) = ((0 : Nat) : Int) from rfl, isPast_go hl l.length _ 0 (by omega) (by omega)]
  rfl
theorem in_ok (x a b : Int) : s_l01In_fn x a b = some (decide (a ≤ x ∧ x ≤ b), ()) := by
  unfold s_l01In_fn s_l01In_k s_l01In_start
  by_cases h : a ≤ x <;> simp [h]
theorem sPastOk_go {l : List PastD} (hl : l.length ≤ 1048576) : ∀ (n k i : Nat), 3 * n < k → i + n = l.length → s_PastOk_go k (.l0 l i) = some ((l.drop i).all okP && decide (l.length ≤ 7), ()) := by
  intro n
  induction n with
  | zero =>
    intro k i hk hi
    obtain ⟨k, rfl⟩ : ∃ k', k = k' + 1 := ⟨k - 1, by omega⟩
    have c : ¬ ((i : Int) < (l.length : Int)) := by omega
    simp only [s_PastOk_go, s_PastOk_body, c, decide_false, Bool.false_eq_true, if_false]
    rw [List.drop_of_length_le (by omega)]
    simp only [List.all_nil, Bool.true_and]
    congr 3
    simp
    omega
  | succ n ih =>
    intro k i hk hi
    obtain ⟨k, rfl⟩ : ∃ k', k = k' + 3 := ⟨k - 3, by omega⟩
    have c : (i : Int) < (l.length : Int) := by omega
    have c0 : (0 : Int) ≤ (i : Int) := by omega
    have e := ih k (i + 1) (by omega) (by omega)
    obtain ⟨⟨⟨p1, p2, p3, p4, _⟩, p5, p6, p7, p8, _⟩, hp⟩ : ∃ p, l.getD i ((0, 0, 0, 0, ()), 0, 0, 0, 0, ()) = p := ⟨_, rfl⟩
    rw [dropG (l := l) (i := i) (by omega) ((0, 0, 0, 0, ()), 0, 0, 0, 0, ()), List.all_cons]
    simp only [s_PastOk_go, s_PastOk_body, c, c0, decide_true, if_true, Option.bind_some, Int.toNat_natCast, wrapS (i := i) (n := l.length) (by omega) (by omega), bindSome, e, in_ok, hp]
    simp only [okP, decide_eq_true_eq, bne_iff_ne, ne_eq, beq_iff_eq, Bool.not_eq_true', decide_eq_false_iff_not]
    by_cases h1 : 0 ≤ p1 ∧ p1 ≤ 5
    · by_cases h2 : 0 ≤ p5 ∧ p5 ≤ 1000000
      · have g : (0 ≤ p1 ∧ p1 ≤ 5 ∧ 0 ≤ p5 ∧ p5 ≤ 1000000) = True := by simp; omega
        have w : IntKind.i64.wrap (p5 + 1) = p5 + 1 := i64_in _ (by omega)
        simp only [h1, h2, g, and_self, not_true, if_false, decide_true, Bool.true_and, w, not_false_iff, Bool.not_true, Bool.false_eq_true]
        by_cases h5 : p6 = -1
        · by_cases h6 : p7 = 0
          · by_cases h7 : p8 = 0
            · simp [h5, h6, h7]
            · simp [h5, h6, h7]
          · simp [h5, h6]
        · by_cases h6 : p5 + 1 ≤ p6 ∧ p6 ≤ 1000000
          · have g2 : (p5 < p6 ∧ p6 ≤ 1000000) = True := by simp; omega
            have g3 : p5 < p6 := by omega
            simp [h5, h6, g3]
          · have g2 : (p5 < p6 ∧ p6 ≤ 1000000) = False := by simp; omega
            simp [h5, h6, g2]
      · have g : (0 ≤ p1 ∧ p1 ≤ 5 ∧ 0 ≤ p5 ∧ p5 ≤ 1000000) = False := by simp; omega
        simp [h1, h2, g]
    · have g : (0 ≤ p1 ∧ p1 ≤ 5 ∧ 0 ≤ p5 ∧ p5 ≤ 1000000) = False := by simp; omega
      simp [h1, g]
theorem sPastOk_ok {l : List PastD} (hl : l.length ≤ 1048576) : s_PastOk_fn l = some (okL l, ()) := by
  unfold s_PastOk_fn s_PastOk_k s_PastOk_start
  rw [bindSome, show (0 : Int) = ((0 : Nat) : Int) from rfl, sPastOk_go hl l.length _ 0 (by omega) (by omega)]
  rfl

theorem index_go {v : List Int} {x : Int} (hl : v.length ≤ 1048576) : ∀ (n k i : Nat), n < k → i + n = v.length → ∃ r : Int, slices_Index_int_go k (.l0 v x v.length i) = some (r, ()) ∧ (0 ≤ r ↔ x ∈ v.drop i) := by
  intro n
  induction n with
  | zero =>
    intro k i hk hi
    obtain ⟨k, rfl⟩ : ∃ k', k = k' + 1 := ⟨k - 1, by omega⟩
    have c : ¬ ((i : Int) < (v.length : Int)) := by omega
    refine ⟨-1, by simp only [slices_Index_int_go, slices_Index_int_body, c, decide_false, Bool.false_eq_true, if_false], ?_⟩
    rw [List.drop_of_length_le (by omega)]
    simp
  | succ n ih =>
    intro k i hk hi
    obtain ⟨k, rfl⟩ : ∃ k', k = k' + 1 := ⟨k - 1, by omega⟩
    have c : (i : Int) < (v.length : Int) := by omega
    have c0 : (0 : Int) ≤ (i : Int) := by omega
    obtain ⟨r, e, hr⟩ := ih k (i + 1) (by omega) (by omega)
    obtain ⟨y, hy⟩ : ∃ y, v.getD i 0 = y := ⟨_, rfl⟩
    rw [dropG (l := v) (i := i) (by omega) 0, hy]
    simp only [slices_Index_int_go, slices_Index_int_body, c, c0, decide_true, if_true, Int.toNat_natCast, wrapS (i := i) (n := v.length) (by omega) (by omega), bindSome, e, beq_iff_eq, hy]
    by_cases h : x = y
    · refine ⟨(i : Int), by rw [if_pos h], ?_⟩
      simp [h]
    · refine ⟨r, by rw [if_neg h], ?_⟩
      rw [hr, List.mem_cons]
      simp [h]
theorem contains_ok {v : List Int} {x : Int} (hl : v.length ≤ 1048576) : slices_Contains_int_fn v x = some (decide (x ∈ v), ()) := by
  obtain ⟨r, e, hr⟩ := index_go (x := x) hl v.length (v.length + 10000000) 0 (by omega) (by omega)
  unfold slices_Contains_int_fn slices_Contains_int_k slices_Contains_int_start slices_Index_int_fn slices_Index_int_k slices_Index_int_start
  rw [bindSome, show (0 : Int) = ((0 : Nat) : Int) from rfl, e]
  simp only [Option.bind_some, List.drop_zero] at hr ⊢
  simp only [ge_iff_le, show (((0 : Nat) : Int)) = 0 from rfl, hr]
theorem has_go {v : List Int} {x : Int} (hl : v.length ≤ 1048576) : ∀ (n k i : Nat), n < k → i + n = v.length → s_l01Has_go k (.l0 v x i) = some (decide (x ∈ v.drop i), ()) := by
  intro n
  induction n with
  | zero =>
    intro k i hk hi
    obtain ⟨k, rfl⟩ : ∃ k', k = k' + 1 := ⟨k - 1, by omega⟩
    have c : ¬ ((i : Int) < (v.length : Int)) := by omega
    simp only [s_l01Has_go, s_l01Has_body, c, decide_false, Bool.false_eq_true, if_false]
    rw [List.drop_of_length_le (by omega)]
    simp
  | succ n ih =>
    intro k i hk hi
    obtain ⟨k, rfl⟩ : ∃ k', k = k' + 1 := ⟨k - 1, by omega⟩
    have c : (i : Int) < (v.length : Int) := by omega
    have c0 : (0 : Int) ≤ (i : Int) := by omega
    have e := ih k (i + 1) (by omega) (by omega)
    obtain ⟨y, hy⟩ : ∃ y, v.getD i 0 = y := ⟨_, rfl⟩
    rw [dropG (l := v) (i := i) (by omega) 0, hy]
    simp only [s_l01Has_go, s_l01Has_body, c, c0, decide_true, if_true, Int.toNat_natCast, wrapS (i := i) (n := v.length) (by omega) (by omega), bindSome, e, beq_iff_eq, hy]
    by_cases h : y = x
    · rw [if_pos h]; simp [h]
    · rw [if_neg h]
      simp only [List.mem_cons, Ne.symm h, false_or]
theorem has_ok {v : List Int} {x : Int} (hl : v.length ≤ 1048576) : s_l01Has_fn v x = some (decide (x ∈ v), ()) := by
  unfold s_l01Has_fn s_l01Has_k s_l01Has_start
  rw [bindSome, show (0 : Int) = ((0 : Nat) : Int) from rfl, has_go hl v.length _ 0 (by omega) (by omega)]
  rfl
theorem copyI_go {v : List Int} (hl : v.length ≤ 1048576) : ∀ (n k i : Nat), n < k → i + n = v.length → s_l01Copy_go k (.l0 v i (v.take i)) = some (v, ()) := by
  intro n
  induction n with
  | zero =>
    intro k i hk hi
    obtain ⟨k, rfl⟩ : ∃ k', k = k' + 1 := ⟨k - 1, by omega⟩
    have c : ¬ ((i : Int) < (v.length : Int)) := by omega
    simp only [s_l01Copy_go, s_l01Copy_body, c, decide_false, Bool.false_eq_true, if_false]
    rw [List.take_of_length_le (by omega)]
  | succ n ih =>
    intro k i hk hi
    obtain ⟨k, rfl⟩ : ∃ k', k = k' + 1 := ⟨k - 1, by omega⟩
    have c : (i : Int) < (v.length : Int) := by omega
    have c0 : (0 : Int) ≤ (i : Int) := by omega
    have e := ih k (i + 1) (by omega) (by omega)
    rw [takeG (by omega) 0] at e
    have b1 : ((v.take i).length + 1) * 8 ≤ 140737488355328 := by simp; omega
    have b2 : (v.take i).length + 1 ≤ 9223372036854775807 := by simp; omega
    simp only [s_l01Copy_go, s_l01Copy_body, c, c0, decide_true, if_true, Int.toNat_natCast, wrapS (i := i) (n := v.length) (by omega) (by omega), bindSome, one_set, List.length_singleton, b1, b2, e]
theorem copyI_ok {v : List Int} (hl : v.length ≤ 1048576) : s_l01Copy_fn v = some (v, ()) := by
  unfold s_l01Copy_fn s_l01Copy_k s_l01Copy_start
  rw [bindSome, show (0 : Int) = ((0 : Nat) : Int) from rfl]
  exact copyI_go hl v.length _ 0 (by omega) (by omega)
/-- All calls that were answered are in the order. -/
def answered (order : List Int) : Int → List PastD → Bool
  | _, [] => true
  | i, p :: r => (decide (p.2.2.1 = -1) || decide (i ∈ order)) && answered order (i + 1) r
theorem hasA_go {l : List PastD} {o : List Int} (hl : l.length ≤ 1048576) (ho : o.length ≤ 1048576) : ∀ (n k i : Nat), 2 * n < k → i + n = l.length → i_hasAnswered_go k (.l0 o l l.length i) = some (answered o i (l.drop i), ()) := by
  intro n
  induction n with
  | zero =>
    intro k i hk hi
    obtain ⟨k, rfl⟩ : ∃ k', k = k' + 1 := ⟨k - 1, by omega⟩
    have c : ¬ ((i : Int) < (l.length : Int)) := by omega
    simp only [i_hasAnswered_go, i_hasAnswered_body, c, decide_false, Bool.false_eq_true, if_false]
    rw [List.drop_of_length_le (by omega)]
    rfl
  | succ n ih =>
    intro k i hk hi
    obtain ⟨k, rfl⟩ : ∃ k', k = k' + 2 := ⟨k - 2, by omega⟩
    have c : (i : Int) < (l.length : Int) := by omega
    have c0 : (0 : Int) ≤ (i : Int) := by omega
    have e := ih k (i + 1) (by omega) (by omega)
    obtain ⟨p, hp⟩ : ∃ p, l.getD i ((0, 0, 0, 0, ()), 0, 0, 0, 0, ()) = p := ⟨_, rfl⟩
    rw [dropG (l := l) (i := i) (by omega) ((0, 0, 0, 0, ()), 0, 0, 0, 0, ()), hp]
    simp only [i_hasAnswered_go, i_hasAnswered_body, c, c0, decide_true, if_true, Int.toNat_natCast, wrapS (i := i) (n := l.length) (by omega) (by omega), bindSome, e, contains_ok ho, Option.bind_some, answered, bne_iff_ne, ne_eq, hp]
    by_cases h : p.2.2.1 = -1
    · simp [h]
    · by_cases h2 : (i : Int) ∈ o
      · simp [h, h2]
      · simp [h, h2]
theorem hasA_ok {l : List PastD} {o : List Int} (hl : l.length ≤ 1048576) (ho : o.length ≤ 1048576) : i_hasAnswered_fn l o = some (answered o 0 l, ()) := by
  unfold i_hasAnswered_fn i_hasAnswered_k i_hasAnswered_start
  rw [bindSome, show (0 : Int) = ((0 : Nat) : Int) from rfl, hasA_go hl ho l.length _ 0 (by omega) (by omega)]
  rfl
theorem sAll_go {l : List PastD} {o : List Int} (hl : l.length ≤ 1048576) (ho : o.length ≤ 1048576) : ∀ (n k i : Nat), 2 * n < k → i + n = l.length → s_l17All_go k (.l0 l o i) = some (answered o i (l.drop i), ()) := by
  intro n
  induction n with
  | zero =>
    intro k i hk hi
    obtain ⟨k, rfl⟩ : ∃ k', k = k' + 1 := ⟨k - 1, by omega⟩
    have c : ¬ ((i : Int) < (l.length : Int)) := by omega
    simp only [s_l17All_go, s_l17All_body, c, decide_false, Bool.false_eq_true, if_false]
    rw [List.drop_of_length_le (by omega)]
    rfl
  | succ n ih =>
    intro k i hk hi
    obtain ⟨k, rfl⟩ : ∃ k', k = k' + 2 := ⟨k - 2, by omega⟩
    have c : (i : Int) < (l.length : Int) := by omega
    have c0 : (0 : Int) ≤ (i : Int) := by omega
    have e := ih k (i + 1) (by omega) (by omega)
    obtain ⟨p, hp⟩ : ∃ p, l.getD i ((0, 0, 0, 0, ()), 0, 0, 0, 0, ()) = p := ⟨_, rfl⟩
    rw [dropG (l := l) (i := i) (by omega) ((0, 0, 0, 0, ()), 0, 0, 0, 0, ()), hp]
    simp only [s_l17All_go, s_l17All_body, c, c0, decide_true, if_true, Int.toNat_natCast, wrapS (i := i) (n := l.length) (by omega) (by omega), bindSome, e, has_ok ho, Option.bind_some, answered, bne_iff_ne, ne_eq, hp]
    by_cases h : p.2.2.1 = -1
    · simp [h]
    · by_cases h2 : (i : Int) ∈ o
      · simp [h, h2]
      · simp [h, h2]
theorem sAll_ok {l : List PastD} {o : List Int} (hl : l.length ≤ 1048576) (ho : o.length ≤ 1048576) : s_l17All_fn l o = some (answered o 0 l, ()) := by
  unfold s_l17All_fn s_l17All_k s_l17All_start
  rw [bindSome, show (0 : Int) = ((0 : Nat) : Int) from rfl, sAll_go hl ho l.length _ 0 (by omega) (by omega)]
  rfl
def aheadB (a b : PastD) : Bool := decide (a.2.2.1 ≠ -1 ∧ a.2.2.1 < b.2.1)
theorem ahead_ok (a b : PastD) : i_ahead_fn a b = some (aheadB a b, ()) := by
  unfold i_ahead_fn i_ahead_k i_ahead_start aheadB
  by_cases h : a.2.2.1 = -1 <;> simp [h]
theorem sAhead_ok (a b : PastD) : s_Ahead_fn a b = some (aheadB a b, ()) := by
  unfold s_Ahead_fn s_Ahead_k s_Ahead_start aheadB
  by_cases h : a.2.2.1 = -1 <;> simp [h]
end Go.Proofs.Ytmggpiijahiaiaa.Ev
namespace Go.Proofs.Ytmggpiijahiaiaa.Ev
open Go
set_option linter.unusedVariables false
set_option linter.unusedSimpArgs false
set_option maxRecDepth 100000
def i_follows_tab : TTab := [⟨3, (.int .i64), 0⟩, ⟨4, .bool, 0⟩, ⟨25, (.slice tPast), 64⟩, ⟨29, (.slice (.int .i64)), 8⟩, ⟨40, (.int .u64), 0⟩, ⟨42, tLedgerCall, 0⟩, ⟨44, tPast, 0⟩, ⟨49, tBook, 0⟩]
abbrev i_follows_ps : List Par := [.lent (.slice tPast), .lent (.slice (.int .i64)), .lent (.int .i64), .leak tBook]
abbrev i_follows_outs : Outs := .many [(.pure tBook), (.pure .bool)]
abbrev i_follows_R : Type := ((((List (Int × (Int × (Int × (Int × (Int × Unit)))))) × Unit) × (Bool × Unit)) × Unit)
abbrev i_follows_T : Ty := .pair (Outs.ty i_follows_outs) (mutsTy i_follows_ps)
noncomputable def i_follows_env : Env := { tab := i_follows_tab, fns := [(42, Try.f42)], sigs := [(44, i_ahead_sig), (47, i_doLedger_sig)] }
def i_follows_anns : List Ann := [⟨42, 3, [0, 2, 7, 8, 10, 20, 21, 22], []⟩, ⟨42, 100036, [0, 2, 7, 8, 10, 20, 21, 22, 36], []⟩]
inductive i_follows_H where
  | l0 (v0 : List PastD) (v1 : Int) (v2 : List Int) (v3 : Int) (v4 : Int) (v5 : BookD) (v6 : PastD)
  | l1 (v0 : List PastD) (v1 : Int) (v2 : List Int) (v3 : Int) (v4 : Int) (v5 : Bool) (v6 : BookD) (v7 : PastD)
noncomputable def i_follows_cfg : i_follows_H → Cfg
  | .l0 v0 v1 v2 v3 v4 v5 v6 => { fr := { fn := 42, fb := 0, ss := sl 63 [(0, (.pv true (.slice tPast) v0)), (2, (.pv false (.int .i64) v1)), (7, (.bptr 0 [])), (8, (.bptr 1 [])), (10, (.bptr 2 [])), (20, (.pv true (.slice (.int .i64)) v2)), (21, (.pv false (.int .i64) v3)), (22, (.pv false (.int .i64) v4))], todo := todoAt (bodyOf Try.f42) [false, false, true, false, true] [] }, cs := [], ob := ofList [.box tBook (.pv false tBook v5), .box tBook (.pair .nilv .unit), .box tPast (.pv false tPast v6)] }
  | .l1 v0 v1 v2 v3 v4 v5 v6 v7 => { fr := { fn := 42, fb := 0, ss := sl 63 [(0, (.pv true (.slice tPast) v0)), (2, (.pv false (.int .i64) v1)), (7, (.bptr 0 [])), (8, (.bptr 1 [])), (10, (.bptr 2 [])), (20, (.pv true (.slice (.int .i64)) v2)), (21, (.pv false (.int .i64) v3)), (22, (.pv false (.int .i64) v4)), (36, (.pv false .bool v5))], todo := cutAt (bodyOf Try.f42) [false, false, true, false, true, true, false, false, true, true, false, false] [] }, cs := [], ob := ofList [.box tBook (.pv false tBook v6), .box tBook (.pair .nilv .unit), .box tPast (.pv false tPast v7)] }
def i_follows_body (rec : i_follows_H → Option i_follows_R) : i_follows_H → Option i_follows_R
  | .l0 v0 v1 v2 v3 v4 v5 v6 =>
    if (decide (v4 < v3)) = true then
      if (decide (0 ≤ v4)) = true then
        if (decide (v4 < (↑v2.length : Int))) = true then
          if (v2.getD v4.toNat 0 == v1) = true then
            (rec (.l1 (v0) (v1) (v2) (v3) (v4) (Bool.true) (v5) (v6))).bind some
          else
            if (decide (0 ≤ v2.getD v4.toNat 0)) = true then
              if (decide (v2.getD v4.toNat 0 < (↑v0.length : Int))) = true then
                (i_ahead_fn v6 (v0.getD (v2.getD v4.toNat 0).toNat ((0, 0, 0, 0, ()), 0, 0, 0, 0, ()))).bind fun y0 =>
                  (rec (.l1 (v0) (v1) (v2) (v3) (v4) (y0.fst) (v5) (v6))).bind some
              else
                none
            else
              none
        else
          none
      else
        none
    else
      (i_doLedger_fn v5 v6.fst).bind fun y1 =>
        if (v6.snd.snd.fst == -1) = true then
          some (((y1.fst.fst.fst, ()), true, ()), ())
        else
          if (y1.fst.snd.fst == v6.snd.snd.snd.fst) = true then
            some (((y1.fst.fst.fst, ()), y1.fst.snd.snd.fst == v6.snd.snd.snd.snd.fst, ()), ())
          else
            some (((y1.fst.fst.fst, ()), false, ()), ())
  | .l1 v0 v1 v2 v3 v4 v5 v6 v7 =>
    if (v5) = true then
      some ((v6, false, ()), ())
    else
      (rec (.l0 (v0) (v1) (v2) (v3) (IntKind.i64.wrap (v4 + 1)) (v6) (v7))).bind some
def i_follows_start (rec : i_follows_H → Option i_follows_R) (x0 : (List PastD)) (x1 : (List Int)) (x2 : Int) (x3 : BookD) : Option i_follows_R :=
  if (decide (0 ≤ x2)) = true then
    if (decide (x2 < (↑x0.length : Int))) = true then
      (rec (.l0 (x0) (x2) (x1) ((↑x1.length : Int)) (0) (x3) (x0.getD x2.toNat ((0, 0, 0, 0, ()), 0, 0, 0, 0, ())))).bind some
    else
      none
  else
    none
def i_follows_go : Nat → i_follows_H → Option i_follows_R
  | 0, _ => none
  | k + 1, h => i_follows_body (i_follows_go k) h
def i_follows_k (k : Nat) (x0 : (List PastD)) (x1 : (List Int)) (x2 : Int) (x3 : BookD) : Option i_follows_R := i_follows_start (i_follows_go k) x0 x1 x2 x3
def i_follows_fn (x0 : (List PastD)) (x1 : (List Int)) (x2 : Int) (x3 : BookD) : Option i_follows_R := i_follows_k (x0.length + x1.length + 10000000) x0 x1 x2 x3
noncomputable def i_follows_sig : Sig := { ps := i_follows_ps, outs := i_follows_outs, fn := fun x => i_follows_fn (x.1) (x.2.1) (x.2.2.1) (x.2.2.2.1) }
theorem i_follows_l0_t (rec : Cfg → Option i_follows_R) (v0 : List PastD) (v1 : Int) (v2 : List Int) (v3 : Int) (v4 : Int) (v5 : BookD) (v6 : PastD) : Tr.k (ev i_follows_env i_follows_anns i_follows_sig rec 20000 (i_follows_cfg (.l0 v0 v1 v2 v3 v4 v5 v6))) some = (br (decide (v4 < v3)) (br (decide (0 ≤ v4)) (br (decide (v4 < (↑v2.length : Int))) (br (v2.getD v4.toNat 0 == v1) ((rec (i_follows_cfg (.l1 (v0) (v1) (v2) (v3) (v4) (Bool.true) (v5) (v6)))).bind some) (br (decide (0 ≤ v2.getD v4.toNat 0)) (br (decide (v2.getD v4.toNat 0 < (↑v0.length : Int))) ((i_ahead_fn v6 (v0.getD (v2.getD v4.toNat 0).toNat ((0, 0, 0, 0, ()), 0, 0, 0, 0, ()))).bind fun y0 => (rec (i_follows_cfg (.l1 (v0) (v1) (v2) (v3) (v4) (y0.fst) (v5) (v6)))).bind some) (none)) (none))) (none)) (none)) ((i_doLedger_fn v5 v6.fst).bind fun y1 => br (v6.snd.snd.fst == -1) (some (((y1.fst.fst.fst, ()), true, ()), ())) (br (y1.fst.snd.fst == v6.snd.snd.snd.fst) (some (((y1.fst.fst.fst, ()), y1.fst.snd.snd.fst == v6.snd.snd.snd.snd.fst, ()), ())) (some (((y1.fst.fst.fst, ()), false, ()), ())))) : Option i_follows_R) := by kernel_rfl
theorem i_follows_l0 (rec : Cfg → Option i_follows_sig.R.D) (v0 : List PastD) (v1 : Int) (v2 : List Int) (v3 : Int) (v4 : Int) (v5 : BookD) (v6 : PastD) : (ev i_follows_env i_follows_anns i_follows_sig rec 20000 (i_follows_cfg (.l0 v0 v1 v2 v3 v4 v5 v6))).run = i_follows_body (fun h => rec (i_follows_cfg h)) (.l0 v0 v1 v2 v3 v4 v5 v6) := (Tr.k_some _).trans ((i_follows_l0_t rec v0 v1 v2 v3 v4 v5 v6).trans (by first | rfl | (simp only [br_ite]; rfl)))
theorem i_follows_l1_t (rec : Cfg → Option i_follows_R) (v0 : List PastD) (v1 : Int) (v2 : List Int) (v3 : Int) (v4 : Int) (v5 : Bool) (v6 : BookD) (v7 : PastD) : Tr.k (ev i_follows_env i_follows_anns i_follows_sig rec 20000 (i_follows_cfg (.l1 v0 v1 v2 v3 v4 v5 v6 v7))) some = (br (v5) (some ((v6, false, ()), ())) ((rec (i_follows_cfg (.l0 (v0) (v1) (v2) (v3) (IntKind.i64.wrap (v4 + 1)) (v6) (v7)))).bind some) : Option i_follows_R) := by kernel_rfl
theorem i_follows_l1 (rec : Cfg → Option i_follows_sig.R.D) (v0 : List PastD) (v1 : Int) (v2 : List Int) (v3 : Int) (v4 : Int) (v5 : Bool) (v6 : BookD) (v7 : PastD) : (ev i_follows_env i_follows_anns i_follows_sig rec 20000 (i_follows_cfg (.l1 v0 v1 v2 v3 v4 v5 v6 v7))).run = i_follows_body (fun h => rec (i_follows_cfg h)) (.l1 v0 v1 v2 v3 v4 v5 v6 v7) := (Tr.k_some _).trans ((i_follows_l1_t rec v0 v1 v2 v3 v4 v5 v6 v7).trans (by first | rfl | (simp only [br_ite]; rfl)))
theorem i_follows_begin_t (rec : Cfg → Option i_follows_R) (x0 : (List PastD)) (x1 : (List Int)) (x2 : Int) (x3 : BookD) : Tr.k (ev i_follows_env i_follows_anns i_follows_sig rec 20000 (entry i_follows_sig 42 Try.f42 (bodyOf Try.f42) (x0, x1, x2, x3, ()))) some = (br (decide (0 ≤ x2)) (br (decide (x2 < (↑x0.length : Int))) ((rec (i_follows_cfg (.l0 (x0) (x2) (x1) ((↑x1.length : Int)) (0) (x3) (x0.getD x2.toNat ((0, 0, 0, 0, ()), 0, 0, 0, 0, ()))))).bind some) (none)) (none) : Option i_follows_R) := by kernel_rfl
theorem i_follows_begin (rec : Cfg → Option i_follows_sig.R.D) (x0 : (List PastD)) (x1 : (List Int)) (x2 : Int) (x3 : BookD) : (ev i_follows_env i_follows_anns i_follows_sig rec 20000 (entry i_follows_sig 42 Try.f42 (bodyOf Try.f42) (x0, x1, x2, x3, ()))).run = i_follows_start (fun h => rec (i_follows_cfg h)) x0 x1 x2 x3 := (Tr.k_some _).trans ((i_follows_begin_t rec x0 x1 x2 x3).trans (by first | rfl | (simp only [br_ite]; rfl)))
theorem i_follows_tab_ok : i_follows_tab.ok Try.prog = true := by decide +kernel
theorem i_follows_env_ok : (i_follows_env).Ok Try.prog where
  mixed := by decide +kernel
  tab := i_follows_tab_ok
  fns := by
    intro p hp
    simp only [i_follows_env, List.mem_cons, List.not_mem_nil, or_false] at hp
    subst hp
    · exact ⟨Try.func42, by decide +kernel⟩
  sigs := by
    intro p hp
    simp only [i_follows_env, List.mem_cons, List.not_mem_nil, or_false] at hp
    rcases hp with rfl | rfl
    · exact ⟨i_ahead_meets, _, Try.func44, by decide +kernel⟩
    · exact ⟨i_doLedger_meets, _, Try.func47, by decide +kernel⟩
  exts := by
    intro p hp
    simp only [i_follows_env, List.mem_cons, List.not_mem_nil, or_false] at hp
theorem i_follows_run (k : Nat) (h : i_follows_H) : Om i_follows_env i_follows_anns i_follows_sig 20000 k (i_follows_cfg h) = i_follows_go k h :=
  Om_go (sg := i_follows_sig) (cfg := i_follows_cfg) (body := i_follows_body) (go := i_follows_go) (fun _ => rfl) (fun _ _ => rfl) (fun rec h => by
  cases h with
  | l0 v0 v1 v2 v3 v4 v5 v6 => exact i_follows_l0 rec v0 v1 v2 v3 v4 v5 v6
  | l1 v0 v1 v2 v3 v4 v5 v6 v7 => exact i_follows_l1 rec v0 v1 v2 v3 v4 v5 v6 v7) k h
theorem i_follows_meets : Meets Try.prog 42 i_follows_sig := by
  refine meets (anns := i_follows_anns) (N := 20000) i_follows_env_ok Try.func42 (body := bodyOf Try.f42) (by rfl) ?_
  rintro ⟨x0, x1, x2, x3, ⟨⟩⟩ r hr
  refine ⟨x0.length + x1.length + 10000000, ?_⟩
  show (ev i_follows_env i_follows_anns i_follows_sig (Om i_follows_env i_follows_anns i_follows_sig 20000 (x0.length + x1.length + 10000000)) 20000 (entry i_follows_sig 42 Try.f42 (bodyOf Try.f42) (x0, x1, x2, x3, ()))).run = some r
  rw [i_follows_begin]
  have e : (fun h => Om i_follows_env i_follows_anns i_follows_sig 20000 (x0.length + x1.length + 10000000) (i_follows_cfg h)) = i_follows_go (x0.length + x1.length + 10000000) := funext fun h => i_follows_run _ h
  rw [e]
  exact hr
end Go.Proofs.Ytmggpiijahiaiaa.Ev
namespace Go.Proofs.Ytmggpiijahiaiaa.Ev
open Go
set_option linter.unusedVariables false
set_option linter.unusedSimpArgs false
set_option maxRecDepth 100000
def s_l17Fits_tab : TTab := [⟨3, (.int .i64), 0⟩, ⟨4, .bool, 0⟩, ⟨25, (.slice tPast), 64⟩, ⟨29, (.slice (.int .i64)), 8⟩, ⟨40, (.int .u64), 0⟩, ⟨42, tLedgerCall, 0⟩, ⟨44, tPast, 0⟩, ⟨49, tBook, 0⟩]
abbrev s_l17Fits_ps : List Par := [.lent (.slice tPast), .lent (.slice (.int .i64)), .leak tBook, .lent (.int .i64)]
abbrev s_l17Fits_outs : Outs := .many [(.pure tBook), (.pure .bool)]
abbrev s_l17Fits_R : Type := ((((List (Int × (Int × (Int × (Int × (Int × Unit)))))) × Unit) × (Bool × Unit)) × Unit)
abbrev s_l17Fits_T : Ty := .pair (Outs.ty s_l17Fits_outs) (mutsTy s_l17Fits_ps)
noncomputable def s_l17Fits_env : Env := { tab := s_l17Fits_tab, fns := [(59, Try.f59)], sigs := [(66, s_DoLedger_sig), (77, s_Ahead_sig)] }
def s_l17Fits_anns : List Ann := [⟨59, 2, [0, 1, 3, 6, 8, 10], []⟩, ⟨59, 100039, [0, 1, 3, 6, 8, 10, 39], []⟩, ⟨59, 100075, [6, 8, 11, 75], []⟩]
inductive s_l17Fits_H where
  | l0 (v0 : List PastD) (v1 : List Int) (v2 : Int) (v3 : Int) (v4 : BookD)
  | l1 (v0 : List PastD) (v1 : List Int) (v2 : Int) (v3 : Int) (v4 : Bool) (v5 : BookD)
  | l2 (v0 : Bool) (v1 : BookD) (v2 : List AccountD)
noncomputable def s_l17Fits_cfg : s_l17Fits_H → Cfg
  | .l0 v0 v1 v2 v3 v4 => { fr := { fn := 59, fb := 0, ss := sl 78 [(0, (.pv true (.slice tPast) v0)), (1, (.pv true (.slice (.int .i64)) v1)), (3, (.pv false (.int .i64) v2)), (6, (.bptr 0 [])), (8, (.bptr 1 [])), (10, (.pv false (.int .i64) v3))], todo := todoAt (bodyOf Try.f59) [false, true, false, true] [] }, cs := [], ob := ofList [.box tBook (.pv false tBook v4), .box tBook (.pair .nilv .unit)] }
  | .l1 v0 v1 v2 v3 v4 v5 => { fr := { fn := 59, fb := 0, ss := sl 78 [(0, (.pv true (.slice tPast) v0)), (1, (.pv true (.slice (.int .i64)) v1)), (3, (.pv false (.int .i64) v2)), (6, (.bptr 0 [])), (8, (.bptr 1 [])), (10, (.pv false (.int .i64) v3)), (39, (.pv false .bool v4))], todo := cutAt (bodyOf Try.f59) [false, true, false, true, true, false, true, true, false] [] }, cs := [], ob := ofList [.box tBook (.pv false tBook v5), .box tBook (.pair .nilv .unit)] }
  | .l2 v0 v1 v2 => { fr := { fn := 59, fb := 0, ss := sl 78 [(6, (.bptr 0 [])), (8, (.bptr 1 [])), (11, (.bptr 2 [])), (75, (.pv false .bool v0))], todo := cutAt (bodyOf Try.f59) [false, false, false, true, false] [] }, cs := [], ob := ofList [.box tBook (.pv false tBook v1), .box tBook (.pair .nilv .unit), .box tBook (.pair (.row 3 0) .unit), .row 0 false tAccount v2] }
def s_l17Fits_body (rec : s_l17Fits_H → Option s_l17Fits_R) : s_l17Fits_H → Option s_l17Fits_R
  | .l0 v0 v1 v2 v3 v4 =>
    if (decide (v3 < (↑v1.length : Int))) = true then
      if (decide (0 ≤ v3)) = true then
        if (decide (v3 < (↑v1.length : Int))) = true then
          if (v1.getD v3.toNat 0 == v2) = true then
            (rec (.l1 (v0) (v1) (v2) (v3) (Bool.true) (v4))).bind some
          else
            if (decide (0 ≤ v2)) = true then
              if (decide (v2 < (↑v0.length : Int))) = true then
                if (decide (0 ≤ v3)) = true then
                  if (decide (v3 < (↑v1.length : Int))) = true then
                    if (decide (0 ≤ v1.getD v3.toNat 0)) = true then
                      if (decide (v1.getD v3.toNat 0 < (↑v0.length : Int))) = true then
                        (s_Ahead_fn (v0.getD v2.toNat ((0, 0, 0, 0, ()), 0, 0, 0, 0, ())) (v0.getD (v1.getD v3.toNat 0).toNat ((0, 0, 0, 0, ()), 0, 0, 0, 0, ()))).bind fun y0 =>
                          (rec (.l1 (v0) (v1) (v2) (v3) (y0.fst) (v4))).bind some
                      else
                        none
                    else
                      none
                  else
                    none
                else
                  none
              else
                none
            else
              none
        else
          none
      else
        none
    else
      if (decide (0 ≤ v2)) = true then
        if (decide (v2 < (↑v0.length : Int))) = true then
          (s_DoLedger_fn v4 (v0.getD v2.toNat ((0, 0, 0, 0, ()), 0, 0, 0, 0, ())).fst).bind fun y1 =>
            if (decide (0 ≤ v2)) = true then
              if (decide (v2 < (↑v0.length : Int))) = true then
                if ((v0.getD v2.toNat ((0, 0, 0, 0, ()), 0, 0, 0, 0, ())).snd.snd.fst != -1) = true then
                  if (decide (0 ≤ v2)) = true then
                    if (decide (v2 < (↑v0.length : Int))) = true then
                      if (y1.fst.snd.fst != (v0.getD v2.toNat ((0, 0, 0, 0, ()), 0, 0, 0, 0, ())).snd.snd.snd.fst) = true then
                        (rec (.l2 (Bool.true) (v4) (y1.fst.fst.fst))).bind some
                      else
                        if (decide (0 ≤ v2)) = true then
                          if (decide (v2 < (↑v0.length : Int))) = true then
                            (rec (.l2 (y1.fst.snd.snd.fst != (v0.getD v2.toNat ((0, 0, 0, 0, ()), 0, 0, 0, 0, ())).snd.snd.snd.snd.fst) (v4) (y1.fst.fst.fst))).bind some
                          else
                            none
                        else
                          none
                    else
                      none
                  else
                    none
                else
                  (rec (.l2 (Bool.false) (v4) (y1.fst.fst.fst))).bind some
              else
                none
            else
              none
        else
          none
      else
        none
  | .l1 v0 v1 v2 v3 v4 v5 =>
    if (v4) = true then
      some ((v5, false, ()), ())
    else
      (rec (.l0 (v0) (v1) (v2) (IntKind.i64.wrap (v3 + 1)) (v5))).bind some
  | .l2 v0 v1 v2 =>
    if (v0) = true then
      some ((v1, false, ()), ())
    else
      some (((v2, ()), true, ()), ())
def s_l17Fits_start (rec : s_l17Fits_H → Option s_l17Fits_R) (x0 : (List PastD)) (x1 : (List Int)) (x2 : BookD) (x3 : Int) : Option s_l17Fits_R :=
  (rec (.l0 (x0) (x1) (x3) (0) (x2))).bind some
def s_l17Fits_go : Nat → s_l17Fits_H → Option s_l17Fits_R
  | 0, _ => none
  | k + 1, h => s_l17Fits_body (s_l17Fits_go k) h
def s_l17Fits_k (k : Nat) (x0 : (List PastD)) (x1 : (List Int)) (x2 : BookD) (x3 : Int) : Option s_l17Fits_R := s_l17Fits_start (s_l17Fits_go k) x0 x1 x2 x3
def s_l17Fits_fn (x0 : (List PastD)) (x1 : (List Int)) (x2 : BookD) (x3 : Int) : Option s_l17Fits_R := s_l17Fits_k (x0.length + x1.length + 10000000) x0 x1 x2 x3
noncomputable def s_l17Fits_sig : Sig := { ps := s_l17Fits_ps, outs := s_l17Fits_outs, fn := fun x => s_l17Fits_fn (x.1) (x.2.1) (x.2.2.1) (x.2.2.2.1) }
theorem s_l17Fits_l0_t (rec : Cfg → Option s_l17Fits_R) (v0 : List PastD) (v1 : List Int) (v2 : Int) (v3 : Int) (v4 : BookD) : Tr.k (ev s_l17Fits_env s_l17Fits_anns s_l17Fits_sig rec 20000 (s_l17Fits_cfg (.l0 v0 v1 v2 v3 v4))) some = (br (decide (v3 < (↑v1.length : Int))) (br (decide (0 ≤ v3)) (br (decide (v3 < (↑v1.length : Int))) (br (v1.getD v3.toNat 0 == v2) ((rec (s_l17Fits_cfg (.l1 (v0) (v1) (v2) (v3) (Bool.true) (v4)))).bind some) (br (decide (0 ≤ v2)) (br (decide (v2 < (↑v0.length : Int))) (br (decide (0 ≤ v3)) (br (decide (v3 < (↑v1.length : Int))) (br (decide (0 ≤ v1.getD v3.toNat 0)) (br (decide (v1.getD v3.toNat 0 < (↑v0.length : Int))) ((s_Ahead_fn (v0.getD v2.toNat ((0, 0, 0, 0, ()), 0, 0, 0, 0, ())) (v0.getD (v1.getD v3.toNat 0).toNat ((0, 0, 0, 0, ()), 0, 0, 0, 0, ()))).bind fun y0 => (rec (s_l17Fits_cfg (.l1 (v0) (v1) (v2) (v3) (y0.fst) (v4)))).bind some) (none)) (none)) (none)) (none)) (none)) (none))) (none)) (none)) (br (decide (0 ≤ v2)) (br (decide (v2 < (↑v0.length : Int))) ((s_DoLedger_fn v4 (v0.getD v2.toNat ((0, 0, 0, 0, ()), 0, 0, 0, 0, ())).fst).bind fun y1 => br (decide (0 ≤ v2)) (br (decide (v2 < (↑v0.length : Int))) (br ((v0.getD v2.toNat ((0, 0, 0, 0, ()), 0, 0, 0, 0, ())).snd.snd.fst != -1) (br (decide (0 ≤ v2)) (br (decide (v2 < (↑v0.length : Int))) (br (y1.fst.snd.fst != (v0.getD v2.toNat ((0, 0, 0, 0, ()), 0, 0, 0, 0, ())).snd.snd.snd.fst) ((rec (s_l17Fits_cfg (.l2 (Bool.true) (v4) (y1.fst.fst.fst)))).bind some) (br (decide (0 ≤ v2)) (br (decide (v2 < (↑v0.length : Int))) ((rec (s_l17Fits_cfg (.l2 (y1.fst.snd.snd.fst != (v0.getD v2.toNat ((0, 0, 0, 0, ()), 0, 0, 0, 0, ())).snd.snd.snd.snd.fst) (v4) (y1.fst.fst.fst)))).bind some) (none)) (none))) (none)) (none)) ((rec (s_l17Fits_cfg (.l2 (Bool.false) (v4) (y1.fst.fst.fst)))).bind some)) (none)) (none)) (none)) (none)) : Option s_l17Fits_R) := by kernel_rfl
theorem s_l17Fits_l0 (rec : Cfg → Option s_l17Fits_sig.R.D) (v0 : List PastD) (v1 : List Int) (v2 : Int) (v3 : Int) (v4 : BookD) : (ev s_l17Fits_env s_l17Fits_anns s_l17Fits_sig rec 20000 (s_l17Fits_cfg (.l0 v0 v1 v2 v3 v4))).run = s_l17Fits_body (fun h => rec (s_l17Fits_cfg h)) (.l0 v0 v1 v2 v3 v4) := (Tr.k_some _).trans ((s_l17Fits_l0_t rec v0 v1 v2 v3 v4).trans (by first | rfl | (simp only [br_ite]; rfl)))
theorem s_l17Fits_l1_t (rec : Cfg → Option s_l17Fits_R) (v0 : List PastD) (v1 : List Int) (v2 : Int) (v3 : Int) (v4 : Bool) (v5 : BookD) : Tr.k (ev s_l17Fits_env s_l17Fits_anns s_l17Fits_sig rec 20000 (s_l17Fits_cfg (.l1 v0 v1 v2 v3 v4 v5))) some = (br (v4) (some ((v5, false, ()), ())) ((rec (s_l17Fits_cfg (.l0 (v0) (v1) (v2) (IntKind.i64.wrap (v3 + 1)) (v5)))).bind some) : Option s_l17Fits_R) := by kernel_rfl
theorem s_l17Fits_l1 (rec : Cfg → Option s_l17Fits_sig.R.D) (v0 : List PastD) (v1 : List Int) (v2 : Int) (v3 : Int) (v4 : Bool) (v5 : BookD) : (ev s_l17Fits_env s_l17Fits_anns s_l17Fits_sig rec 20000 (s_l17Fits_cfg (.l1 v0 v1 v2 v3 v4 v5))).run = s_l17Fits_body (fun h => rec (s_l17Fits_cfg h)) (.l1 v0 v1 v2 v3 v4 v5) := (Tr.k_some _).trans ((s_l17Fits_l1_t rec v0 v1 v2 v3 v4 v5).trans (by first | rfl | (simp only [br_ite]; rfl)))
theorem s_l17Fits_l2_t (rec : Cfg → Option s_l17Fits_R) (v0 : Bool) (v1 : BookD) (v2 : List AccountD) : Tr.k (ev s_l17Fits_env s_l17Fits_anns s_l17Fits_sig rec 20000 (s_l17Fits_cfg (.l2 v0 v1 v2))) some = (br (v0) (some ((v1, false, ()), ())) (some (((v2, ()), true, ()), ())) : Option s_l17Fits_R) := by kernel_rfl
theorem s_l17Fits_l2 (rec : Cfg → Option s_l17Fits_sig.R.D) (v0 : Bool) (v1 : BookD) (v2 : List AccountD) : (ev s_l17Fits_env s_l17Fits_anns s_l17Fits_sig rec 20000 (s_l17Fits_cfg (.l2 v0 v1 v2))).run = s_l17Fits_body (fun h => rec (s_l17Fits_cfg h)) (.l2 v0 v1 v2) := (Tr.k_some _).trans ((s_l17Fits_l2_t rec v0 v1 v2).trans (by first | rfl | (simp only [br_ite]; rfl)))
theorem s_l17Fits_begin_t (rec : Cfg → Option s_l17Fits_R) (x0 : (List PastD)) (x1 : (List Int)) (x2 : BookD) (x3 : Int) : Tr.k (ev s_l17Fits_env s_l17Fits_anns s_l17Fits_sig rec 20000 (entry s_l17Fits_sig 59 Try.f59 (bodyOf Try.f59) (x0, x1, x2, x3, ()))) some = ((rec (s_l17Fits_cfg (.l0 (x0) (x1) (x3) (0) (x2)))).bind some : Option s_l17Fits_R) := by kernel_rfl
theorem s_l17Fits_begin (rec : Cfg → Option s_l17Fits_sig.R.D) (x0 : (List PastD)) (x1 : (List Int)) (x2 : BookD) (x3 : Int) : (ev s_l17Fits_env s_l17Fits_anns s_l17Fits_sig rec 20000 (entry s_l17Fits_sig 59 Try.f59 (bodyOf Try.f59) (x0, x1, x2, x3, ()))).run = s_l17Fits_start (fun h => rec (s_l17Fits_cfg h)) x0 x1 x2 x3 := (Tr.k_some _).trans ((s_l17Fits_begin_t rec x0 x1 x2 x3).trans (by first | rfl | (simp only [br_ite]; rfl)))
theorem s_l17Fits_tab_ok : s_l17Fits_tab.ok Try.prog = true := by decide +kernel
theorem s_l17Fits_env_ok : (s_l17Fits_env).Ok Try.prog where
  mixed := by decide +kernel
  tab := s_l17Fits_tab_ok
  fns := by
    intro p hp
    simp only [s_l17Fits_env, List.mem_cons, List.not_mem_nil, or_false] at hp
    subst hp
    · exact ⟨Try.func59, by decide +kernel⟩
  sigs := by
    intro p hp
    simp only [s_l17Fits_env, List.mem_cons, List.not_mem_nil, or_false] at hp
    rcases hp with rfl | rfl
    · exact ⟨s_DoLedger_meets, _, Try.func66, by decide +kernel⟩
    · exact ⟨s_Ahead_meets, _, Try.func77, by decide +kernel⟩
  exts := by
    intro p hp
    simp only [s_l17Fits_env, List.mem_cons, List.not_mem_nil, or_false] at hp
theorem s_l17Fits_run (k : Nat) (h : s_l17Fits_H) : Om s_l17Fits_env s_l17Fits_anns s_l17Fits_sig 20000 k (s_l17Fits_cfg h) = s_l17Fits_go k h :=
  Om_go (sg := s_l17Fits_sig) (cfg := s_l17Fits_cfg) (body := s_l17Fits_body) (go := s_l17Fits_go) (fun _ => rfl) (fun _ _ => rfl) (fun rec h => by
  cases h with
  | l0 v0 v1 v2 v3 v4 => exact s_l17Fits_l0 rec v0 v1 v2 v3 v4
  | l1 v0 v1 v2 v3 v4 v5 => exact s_l17Fits_l1 rec v0 v1 v2 v3 v4 v5
  | l2 v0 v1 v2 => exact s_l17Fits_l2 rec v0 v1 v2) k h
theorem s_l17Fits_meets : Meets Try.prog 59 s_l17Fits_sig := by
  refine meets (anns := s_l17Fits_anns) (N := 20000) s_l17Fits_env_ok Try.func59 (body := bodyOf Try.f59) (by rfl) ?_
  rintro ⟨x0, x1, x2, x3, ⟨⟩⟩ r hr
  refine ⟨x0.length + x1.length + 10000000, ?_⟩
  show (ev s_l17Fits_env s_l17Fits_anns s_l17Fits_sig (Om s_l17Fits_env s_l17Fits_anns s_l17Fits_sig 20000 (x0.length + x1.length + 10000000)) 20000 (entry s_l17Fits_sig 59 Try.f59 (bodyOf Try.f59) (x0, x1, x2, x3, ()))).run = some r
  rw [s_l17Fits_begin]
  have e : (fun h => Om s_l17Fits_env s_l17Fits_anns s_l17Fits_sig 20000 (x0.length + x1.length + 10000000) (s_l17Fits_cfg h)) = s_l17Fits_go (x0.length + x1.length + 10000000) := funext fun h => s_l17Fits_run _ h
  rw [e]
  exact hr
end Go.Proofs.Ytmggpiijahiaiaa.Ev
/- The plain law of histories: which call may follow. -/
namespace Go.Proofs.Ytmggpiijahiaiaa.Ev
open Go Go.IntWalk
set_option linter.unusedVariables false
set_option linter.unusedSimpArgs false
def zP : PastD := ((0, 0, 0, 0, ()), 0, 0, 0, 0, ())
def pastR (p : PastD) : Prop := callR p.1
def histR (l : List PastD) : Prop := ∀ p ∈ l, pastR p
theorem histR_at {l : List PastD} (h : histR l) {i : Nat} (hi : i < l.length) : pastR (l.getD i zP) := by
  rw [List.getD_eq_getElem?_getD, List.getElem?_eq_getElem hi]
  exact h _ (List.getElem_mem hi)
/-- The order's numbers are numbers of the list. -/
def inL (l : List PastD) (o : List Int) : Prop := ∀ x ∈ o, 0 ≤ x ∧ x < (l.length : Int)
/-- May not k come next: it is there, or it was over ahead of one of the order. -/
def stops (l : List PastD) (k : Int) : List Int → Bool
  | [] => false
  | x :: r => decide (x = k) || aheadB (l.getD k.toNat zP) (l.getD x.toNat zP) || stops l k r
theorem iFollows_go {l : List PastD} {o : List Int} {b : BookD} {r : i_follows_R} (hl : l.length ≤ 1048576) (ho : o.length ≤ 1048576) (hi : inL l o) {k : Nat} (hk : k < l.length)
    (hend : ∀ m, i_follows_go (m + 3) (.l0 l k o o.length o.length b (l.getD k zP)) = some r) :
    ∀ (n f i : Nat), 2 * n + 3 ≤ f → i + n = o.length → i_follows_go f (.l0 l k o o.length i b (l.getD k zP)) = some (if stops l k (o.drop i) = true then ((b, false, ()), ()) else r) := by
  intro n
  induction n with
  | zero =>
    intro f i hf hn
    obtain rfl : i = o.length := by omega
    obtain ⟨f, rfl⟩ : ∃ f', f = f' + 3 := ⟨f - 3, by omega⟩
    rw [hend, List.drop_length]
    rfl
  | succ n ih =>
    intro f i hf hn
    obtain ⟨f, rfl⟩ : ∃ f', f = f' + 2 := ⟨f - 2, by omega⟩
    have hio : i < o.length := by omega
    obtain ⟨x, hx⟩ : ∃ x, o.getD i 0 = x := ⟨_, rfl⟩
    have hxm := hi x (by rw [← hx, List.getD_eq_getElem?_getD, List.getElem?_eq_getElem hio]; exact List.getElem_mem hio)
    have hw := wrapS hio (by omega)
    rw [dropG hio 0, hx]
    have step : ∀ v : Bool, i_follows_go (f + 1) (.l1 l k o o.length i v b (l.getD k zP)) = some (if (v || stops l k (o.drop (i + 1))) = true then ((b, false, ()), ()) else r) := by
      intro v
      rw [i_follows_go]
      simp only [i_follows_body, bindSome]
      cases v with
      | true => simp
      | false =>
        simp only [Bool.false_eq_true, if_false, hw, Bool.false_or]
        exact ih f (i + 1) (by omega) (by omega)
    rw [show f + 2 = (f + 1) + 1 from rfl, i_follows_go]
    have c1 : decide ((i : Int) < (o.length : Int)) = true := by simpa using hio
    have c2 : decide ((0 : Int) ≤ (i : Int)) = true := by simp
    have c3 : decide ((0 : Int) ≤ x) = true := by simpa using hxm.1
    have c4 : decide (x < (l.length : Int)) = true := by simpa using hxm.2
    simp only [i_follows_body, c1, c2, if_true, Int.toNat_natCast, hx, beqI, c3, c4, ahead_ok, Option.bind_some, bindSome, stops]
    by_cases h : x = (k : Int)
    · simp only [h, decide_true, if_true]
      rw [step]
      simp
    · simp only [h, decide_false, Bool.false_eq_true, if_false]
      rw [step]
      simp only [Bool.false_or]
      rfl
theorem sFits_go {l : List PastD} {o : List Int} {b : BookD} {r : s_l17Fits_R} (hl : l.length ≤ 1048576) (ho : o.length ≤ 1048576) (hi : inL l o) {k : Nat} (hk : k < l.length)
    (hend : ∀ m, s_l17Fits_go (m + 3) (.l0 l o k o.length b) = some r) :
    ∀ (n f i : Nat), 2 * n + 3 ≤ f → i + n = o.length → s_l17Fits_go f (.l0 l o k i b) = some (if stops l k (o.drop i) = true then ((b, false, ()), ()) else r) := by
  intro n
  induction n with
  | zero =>
    intro f i hf hn
    obtain rfl : i = o.length := by omega
    obtain ⟨f, rfl⟩ : ∃ f', f = f' + 3 := ⟨f - 3, by omega⟩
    rw [hend, List.drop_length]
    rfl
  | succ n ih =>
    intro f i hf hn
    obtain ⟨f, rfl⟩ : ∃ f', f = f' + 2 := ⟨f - 2, by omega⟩
    have hio : i < o.length := by omega
    obtain ⟨x, hx⟩ : ∃ x, o.getD i 0 = x := ⟨_, rfl⟩
    have hxm := hi x (by rw [← hx, List.getD_eq_getElem?_getD, List.getElem?_eq_getElem hio]; exact List.getElem_mem hio)
    have hw := wrapS hio (by omega)
    rw [dropG hio 0, hx]
    have step : ∀ v : Bool, s_l17Fits_go (f + 1) (.l1 l o k i v b) = some (if (v || stops l k (o.drop (i + 1))) = true then ((b, false, ()), ()) else r) := by
      intro v
      rw [s_l17Fits_go]
      simp only [s_l17Fits_body, bindSome]
      cases v with
      | true => simp
      | false =>
        simp only [Bool.false_eq_true, if_false, hw, Bool.false_or]
        exact ih f (i + 1) (by omega) (by omega)
    rw [show f + 2 = (f + 1) + 1 from rfl, s_l17Fits_go]
    have c1 : decide ((i : Int) < (o.length : Int)) = true := by simpa using hio
    have c2 : decide ((0 : Int) ≤ (i : Int)) = true := by simp
    have c3 : decide ((0 : Int) ≤ x) = true := by simpa using hxm.1
    have c4 : decide (x < (l.length : Int)) = true := by simpa using hxm.2
    have c5 : decide ((0 : Int) ≤ (k : Int)) = true := by simp
    have c6 : decide ((k : Int) < (l.length : Int)) = true := by simpa using hk
    simp only [s_l17Fits_body, c1, c2, c5, c6, if_true, Int.toNat_natCast, hx, beqI, c3, c4, sAhead_ok, Option.bind_some, bindSome, stops]
    by_cases h : x = (k : Int)
    · simp only [h, decide_true, if_true]
      rw [step]
      simp
    · simp only [h, decide_false, Bool.false_eq_true, if_false]
      rw [step]
      simp only [Bool.false_or]
      rfl
/-- Does the answer fit? -/
def fitsB (p : PastD) (code val : Int) : Bool := decide (p.2.2.1 = -1 ∨ (code = p.2.2.2.1 ∧ val = p.2.2.2.2.1))
def nextB (b : List AccountD) (p : PastD) : List AccountD := (coreM b p.1).1
def nextOk (b : List AccountD) (p : PastD) : Bool := fitsB p (coreM b p.1).2 (tailV (coreM b p.1).1 (coreM b p.1).2 p.1.2.1)
theorem iFollows_ok {l : List PastD} {o : List Int} {b : List AccountD} (hl : l.length ≤ 1048576) (hh : histR l) (ho : o.length ≤ 1048576) (hi : inL l o) (hb : b.length ≤ 40) (hr : bookR b) {k : Nat} (hk : k < l.length) :
    i_follows_fn l o k (b, ()) = some ((((if stops l k o = true then b else nextB b (l.getD k zP)), ()), !stops l k o && nextOk b (l.getD k zP), ()), ()) := by
  unfold i_follows_fn i_follows_k i_follows_start
  have c5 : decide ((0 : Int) ≤ (k : Int)) = true := by simp
  have c6 : decide ((k : Int) < (l.length : Int)) = true := by simpa using hk
  simp only [c5, c6, if_true, Int.toNat_natCast, bindSome]
  obtain ⟨p, hp⟩ : ∃ p, l.getD k zP = p := ⟨_, rfl⟩
  have hpR : pastR p := hp ▸ histR_at hh hk
  have hend : ∀ m, i_follows_go (m + 3) (.l0 l k o o.length o.length (b, ()) (l.getD k zP)) = some (((nextB b p, ()), nextOk b p, ()), ()) := by
    intro m
    rw [i_follows_go]
    simp only [i_follows_body, hp, Int.lt_irrefl, decide_false, Bool.false_eq_true, if_false, iLedger_ok hb hr hpR, Option.bind_some, beqI]
    unfold nextOk fitsB nextB
    by_cases h1 : p.2.2.1 = -1
    · simp [h1]
    · by_cases h2 : (coreM b p.1).2 = p.2.2.2.1
      · simp [h1, h2]
      · simp [h1, h2]
  have := iFollows_go (b := (b, ())) hl ho hi hk hend o.length (l.length + o.length + 10000000) 0 (by omega) (by omega)
  rw [show ((0, 0, 0, 0, ()), 0, 0, 0, 0, ()) = zP from rfl]
  rw [show ((0 : Nat) : Int) = 0 from rfl] at this
  rw [this, List.drop_zero, hp]
  cases stops l k o <;> simp
theorem sFits_ok {l : List PastD} {o : List Int} {b : List AccountD} (hl : l.length ≤ 1048576) (hh : histR l) (ho : o.length ≤ 1048576) (hi : inL l o) (hb : b.length ≤ 40) (hr : bookR b) {k : Nat} (hk : k < l.length) :
    s_l17Fits_fn l o (b, ()) k = some ((((if (!stops l k o && nextOk b (l.getD k zP)) = true then nextB b (l.getD k zP) else b), ()), !stops l k o && nextOk b (l.getD k zP), ()), ()) := by
  unfold s_l17Fits_fn s_l17Fits_k s_l17Fits_start
  have c5 : decide ((0 : Int) ≤ (k : Int)) = true := by simp
  have c6 : decide ((k : Int) < (l.length : Int)) = true := by simpa using hk
  simp only [bindSome]
  obtain ⟨p, hp⟩ : ∃ p, l.getD k zP = p := ⟨_, rfl⟩
  have hpR : pastR p := hp ▸ histR_at hh hk
  have hl2 : ∀ m (v : Bool) x, s_l17Fits_go (m + 1) (.l2 v (b, ()) x) = some (((if v = true then b else x, ()), !v, ()), ()) := by
    intro m v x
    rw [s_l17Fits_go]
    simp only [s_l17Fits_body]
    cases v <;> simp
  have hend : ∀ m, s_l17Fits_go (m + 3) (.l0 l o k o.length (b, ())) = some (((if nextOk b p = true then nextB b p else b, ()), nextOk b p, ()), ()) := by
    intro m
    rw [s_l17Fits_go]
    have hp' : l.getD k ((0, 0, 0, 0, ()), 0, 0, 0, 0, ()) = p := hp
    simp only [s_l17Fits_body, Int.toNat_natCast, hp', Int.lt_irrefl, decide_false, Bool.false_eq_true, if_false, c5, c6, if_true, sLedger_ok hb hr hpR, Option.bind_some, bindSome]
    unfold nextOk fitsB nextB
    by_cases h1 : p.2.2.1 = -1
    · simp only [h1]
      rw [show m + 2 = (m + 1) + 1 from rfl]
      simp only [hl2]
      simp
    · by_cases h2 : (coreM b p.1).2 = p.2.2.2.1
      · simp only [h2, bne_self_eq_false, Bool.false_eq_true, if_false, show (p.2.2.1 != -1) = true by simpa using h1, if_true]
        rw [show m + 2 = (m + 1) + 1 from rfl, hl2]
        by_cases h3 : tailV (coreM b p.1).1 p.2.2.2.1 p.1.2.1 = p.2.2.2.2.1
        · simp [h3]
        · simp [h1, h3]
      · simp only [show ((coreM b p.1).2 != p.2.2.2.1) = true by simpa using h2, show (p.2.2.1 != -1) = true by simpa using h1, if_true]
        rw [show m + 2 = (m + 1) + 1 from rfl, hl2]
        simp [h1, h2]
  have := sFits_go (b := (b, ())) hl ho hi hk hend o.length (l.length + o.length + 10000000) 0 (by omega) (by omega)
  rw [show ((0 : Nat) : Int) = 0 from rfl] at this
  rw [this, List.drop_zero, hp]
  cases stops l k o <;> simp
end Go.Proofs.Ytmggpiijahiaiaa.Ev
namespace Go.Proofs.Ytmggpiijahiaiaa.Ev
open Go
set_option linter.unusedVariables false
set_option linter.unusedSimpArgs false
set_option maxRecDepth 100000
def i_search_tab : TTab := [⟨3, (.int .i64), 0⟩, ⟨4, .bool, 0⟩, ⟨25, (.slice tPast), 64⟩, ⟨29, (.slice (.int .i64)), 8⟩, ⟨49, tBook, 0⟩]
abbrev i_search_ps : List Par := [.lent (.slice tPast), .own (.int .i64), .leak tBook]
abbrev i_search_outs : Outs := .many [(.own (.int .i64)), (.pure .bool)]
abbrev i_search_R : Type := (((List Int) × (Bool × Unit)) × Unit)
abbrev i_search_T : Ty := .pair (Outs.ty i_search_outs) (mutsTy i_search_ps)
noncomputable def i_search_env (fr : (parsTy i_search_ps).D → Option i_search_R) : Env := { tab := i_search_tab, fns := [(54, Try.f54)], sigs := [(42, i_follows_sig), (43, i_hasAnswered_sig), (54, { ps := i_search_ps, outs := i_search_outs, fn := fr })] }
def i_search_anns : List Ann := [⟨54, 4, [0, 1, 5, 18, 19], []⟩]
inductive i_search_H where
  | l0 (v0 : List PastD) (v1 : Int) (v2 : Int) (v3 : List Int) (v4 : BookD)
noncomputable def i_search_cfg : i_search_H → Cfg
  | .l0 v0 v1 v2 v3 v4 => { fr := { fn := 54, fb := 0, ss := sl 47 [(0, (.pv true (.slice tPast) v0)), (1, (.row 0 0)), (5, (.bptr 1 [])), (18, (.pv false (.int .i64) v1)), (19, (.pv false (.int .i64) v2))], todo := todoAt (bodyOf Try.f54) [false, false, true, false, true] [] }, cs := [], ob := ofList [.row 0 false (.int .i64) v3, .box tBook (.pv false tBook v4)] }
def i_search_body (fr : (parsTy i_search_ps).D → Option i_search_R) (rec : i_search_H → Option i_search_R) : i_search_H → Option i_search_R
  | .l0 v0 v1 v2 v3 v4 =>
    if (decide (v2 < v1)) = true then
      (i_follows_fn v0 v3 v2 v4).bind fun y1 =>
        if (!y1.fst.snd.fst) = true then
          (rec (.l0 (v0) (v1) (IntKind.i64.wrap (v2 + 1)) (v3) (v4))).bind some
        else
          if (decide (((List.replicate 0 0).length + v3.length) * 8 ≤ 140737488355328)) = true then
            if (decide ((List.replicate 0 0).length + v3.length ≤ 9223372036854775807)) = true then
              if (decide (((List.replicate 0 0 ++ v3).length + ((List.replicate 1 0).set 0 v2).length) * 8 ≤ 140737488355328)) = true then
                if (decide ((List.replicate 0 0 ++ v3).length + ((List.replicate 1 0).set 0 v2).length ≤ 9223372036854775807)) = true then
                  (fr (v0, List.replicate 0 0 ++ v3 ++ (List.replicate 1 0).set 0 v2, y1.fst.fst, ())).bind fun y2 =>
                    if (y2.fst.snd.fst) = true then
                      some ((y2.fst.fst, true, ()), ())
                    else
                      (rec (.l0 (v0) (v1) (IntKind.i64.wrap (v2 + 1)) (v3) (v4))).bind some
                else
                  none
              else
                none
            else
              none
          else
            none
    else
      some (([], false, ()), ())
def i_search_start (fr : (parsTy i_search_ps).D → Option i_search_R) (rec : i_search_H → Option i_search_R) (x0 : (List PastD)) (x1 : (List Int)) (x2 : BookD) : Option i_search_R :=
  (i_hasAnswered_fn x0 x1).bind fun y0 =>
    if (y0.fst) = true then
      some ((x1, true, ()), ())
    else
      (rec (.l0 (x0) ((↑x0.length : Int)) (0) (x1) (x2))).bind some
def i_search_go (fr : (parsTy i_search_ps).D → Option i_search_R) : Nat → i_search_H → Option i_search_R
  | 0, _ => none
  | k + 1, h => i_search_body fr (i_search_go fr k) h
def i_search_k (fr : (parsTy i_search_ps).D → Option i_search_R) (k : Nat) (x0 : (List PastD)) (x1 : (List Int)) (x2 : BookD) : Option i_search_R := i_search_start fr (i_search_go fr k) x0 x1 x2
def i_search_fn : Nat → (List PastD) → (List Int) → BookD → Option i_search_R
  | 0, _, _, _ => none
  | d + 1, x0, x1, x2 => i_search_k (fun x => i_search_fn d (x.1) (x.2.1) (x.2.2.1)) (x0.length + x1.length + 10000000) x0 x1 x2
noncomputable def i_search_sigr : Nat → Sig := fun d => { ps := i_search_ps, outs := i_search_outs, fn := fun x => i_search_fn d (x.1) (x.2.1) (x.2.2.1) }
noncomputable def i_search_sig : Sig := i_search_sigr 100
noncomputable abbrev i_search_sigf (fr : (parsTy i_search_ps).D → Option i_search_R) : Sig := { ps := i_search_ps, outs := i_search_outs, fn := fr }
theorem i_search_l0_t (fr f1 : (parsTy i_search_ps).D → Option i_search_R) (rec : Cfg → Option i_search_R) (v0 : List PastD) (v1 : Int) (v2 : Int) (v3 : List Int) (v4 : BookD) : Tr.k (ev (i_search_env fr) i_search_anns (i_search_sigf f1) rec 20000 (i_search_cfg (.l0 v0 v1 v2 v3 v4))) some = (br (decide (v2 < v1)) ((i_follows_fn v0 v3 v2 v4).bind fun y1 => br (!y1.fst.snd.fst) ((rec (i_search_cfg (.l0 (v0) (v1) (IntKind.i64.wrap (v2 + 1)) (v3) (v4)))).bind some) (br (decide (((List.replicate 0 0).length + v3.length) * 8 ≤ 140737488355328)) (br (decide ((List.replicate 0 0).length + v3.length ≤ 9223372036854775807)) (br (decide (((List.replicate 0 0 ++ v3).length + ((List.replicate 1 0).set 0 v2).length) * 8 ≤ 140737488355328)) (br (decide ((List.replicate 0 0 ++ v3).length + ((List.replicate 1 0).set 0 v2).length ≤ 9223372036854775807)) ((fr (v0, List.replicate 0 0 ++ v3 ++ (List.replicate 1 0).set 0 v2, y1.fst.fst, ())).bind fun y2 => br (y2.fst.snd.fst) (some ((y2.fst.fst, true, ()), ())) ((rec (i_search_cfg (.l0 (v0) (v1) (IntKind.i64.wrap (v2 + 1)) (v3) (v4)))).bind some)) (none)) (none)) (none)) (none))) (some (([], false, ()), ())) : Option i_search_R) := by kernel_rfl
theorem i_search_l0 (fr f1 : (parsTy i_search_ps).D → Option i_search_R) (rec : Cfg → Option (i_search_sigf f1).R.D) (v0 : List PastD) (v1 : Int) (v2 : Int) (v3 : List Int) (v4 : BookD) : (ev (i_search_env fr) i_search_anns (i_search_sigf f1) rec 20000 (i_search_cfg (.l0 v0 v1 v2 v3 v4))).run = i_search_body fr (fun h => rec (i_search_cfg h)) (.l0 v0 v1 v2 v3 v4) := (Tr.k_some _).trans ((i_search_l0_t fr f1 rec v0 v1 v2 v3 v4).trans (by first | rfl | (simp only [br_ite]; rfl)))
theorem i_search_begin_t (fr f1 : (parsTy i_search_ps).D → Option i_search_R) (rec : Cfg → Option i_search_R) (x0 : (List PastD)) (x1 : (List Int)) (x2 : BookD) : Tr.k (ev (i_search_env fr) i_search_anns (i_search_sigf f1) rec 20000 (entry (i_search_sigf f1) 54 Try.f54 (bodyOf Try.f54) (x0, x1, x2, ()))) some = ((i_hasAnswered_fn x0 x1).bind fun y0 => br (y0.fst) (some ((x1, true, ()), ())) ((rec (i_search_cfg (.l0 (x0) ((↑x0.length : Int)) (0) (x1) (x2)))).bind some) : Option i_search_R) := by kernel_rfl
theorem i_search_begin (fr f1 : (parsTy i_search_ps).D → Option i_search_R) (rec : Cfg → Option (i_search_sigf f1).R.D) (x0 : (List PastD)) (x1 : (List Int)) (x2 : BookD) : (ev (i_search_env fr) i_search_anns (i_search_sigf f1) rec 20000 (entry (i_search_sigf f1) 54 Try.f54 (bodyOf Try.f54) (x0, x1, x2, ()))).run = i_search_start fr (fun h => rec (i_search_cfg h)) x0 x1 x2 := (Tr.k_some _).trans ((i_search_begin_t fr f1 rec x0 x1 x2).trans (by first | rfl | (simp only [br_ite]; rfl)))
theorem i_search_tab_ok : i_search_tab.ok Try.prog = true := by decide +kernel
theorem i_search_env_ok (fr : (parsTy i_search_ps).D → Option i_search_R) (hm : Meets Try.prog 54 (i_search_sigf fr)) : (i_search_env fr).Ok Try.prog where
  mixed := by decide +kernel
  tab := i_search_tab_ok
  fns := by
    intro p hp
    simp only [i_search_env, List.mem_cons, List.not_mem_nil, or_false] at hp
    subst hp
    · exact ⟨Try.func54, by decide +kernel⟩
  sigs := by
    intro p hp
    simp only [i_search_env, List.mem_cons, List.not_mem_nil, or_false] at hp
    rcases hp with rfl | rfl | rfl
    · exact ⟨i_follows_meets, _, Try.func42, by decide +kernel⟩
    · exact ⟨i_hasAnswered_meets, _, Try.func43, by decide +kernel⟩
    · exact ⟨hm, _, Try.func54, by decide +kernel⟩
  exts := by
    intro p hp
    simp only [i_search_env, List.mem_cons, List.not_mem_nil, or_false] at hp
theorem i_search_run (fr f1 : (parsTy i_search_ps).D → Option i_search_R) (k : Nat) (h : i_search_H) : Om (i_search_env fr) i_search_anns (i_search_sigf f1) 20000 k (i_search_cfg h) = i_search_go fr k h :=
  Om_go (sg := (i_search_sigf f1)) (cfg := i_search_cfg) (body := i_search_body fr) (go := i_search_go fr) (fun _ => rfl) (fun _ _ => rfl) (fun rec h => by
  cases h with
  | l0 v0 v1 v2 v3 v4 => exact i_search_l0 fr f1 rec v0 v1 v2 v3 v4) k h
theorem i_search_meets1 (fr f1 : (parsTy i_search_ps).D → Option i_search_R) (hm : Meets Try.prog 54 (i_search_sigf fr)) (h : ∀ (x0 : (List PastD)) (x1 : (List Int)) (x2 : BookD), f1 (x0, x1, x2, ()) = i_search_k fr (x0.length + x1.length + 10000000) x0 x1 x2) : Meets Try.prog 54 (i_search_sigf f1) := by
  refine meets (anns := i_search_anns) (N := 20000) (i_search_env_ok fr hm) Try.func54 (body := bodyOf Try.f54) (by rfl) ?_
  rintro ⟨x0, x1, x2, ⟨⟩⟩ r hr
  refine ⟨x0.length + x1.length + 10000000, ?_⟩
  have hr' : i_search_k fr (x0.length + x1.length + 10000000) x0 x1 x2 = some r := by rw [← h]; exact hr
  show (ev (i_search_env fr) i_search_anns (i_search_sigf f1) (Om (i_search_env fr) i_search_anns (i_search_sigf f1) 20000 (x0.length + x1.length + 10000000)) 20000 (entry (i_search_sigf f1) 54 Try.f54 (bodyOf Try.f54) (x0, x1, x2, ()))).run = some r
  rw [i_search_begin]
  have e : (fun h => Om (i_search_env fr) i_search_anns (i_search_sigf f1) 20000 (x0.length + x1.length + 10000000) (i_search_cfg h)) = i_search_go fr (x0.length + x1.length + 10000000) := funext fun h => i_search_run fr f1 _ h
  rw [e]
  exact hr'
theorem i_search_meetsr : ∀ d, Meets Try.prog 54 (i_search_sigr d) := by
  intro d
  induction d with
  | zero =>
    intro w I J xs vs bs ls _ _ _ _ _ r hr
    exact absurd hr (by simp [i_search_sigr, i_search_fn])
  | succ d ih => exact i_search_meets1 (fun x => i_search_fn d (x.1) (x.2.1) (x.2.2.1)) (fun x => i_search_fn (d + 1) (x.1) (x.2.1) (x.2.2.1)) ih (fun x0 x1 x2 => rfl)
theorem i_search_meets : Meets Try.prog 54 i_search_sig := i_search_meetsr _
end Go.Proofs.Ytmggpiijahiaiaa.Ev
namespace Go.Proofs.Ytmggpiijahiaiaa.Ev
open Go
set_option linter.unusedVariables false
set_option linter.unusedSimpArgs false
set_option maxRecDepth 100000
def s_l17Search_tab : TTab := [⟨3, (.int .i64), 0⟩, ⟨4, .bool, 0⟩, ⟨25, (.slice tPast), 64⟩, ⟨29, (.slice (.int .i64)), 8⟩, ⟨49, tBook, 0⟩]
abbrev s_l17Search_ps : List Par := [.lent (.slice tPast), .lent (.slice (.int .i64)), .leak tBook]
abbrev s_l17Search_outs : Outs := .many [(.own (.int .i64)), (.pure tBook), (.pure .bool)]
abbrev s_l17Search_R : Type := (((List Int) × (((List (Int × (Int × (Int × (Int × (Int × Unit)))))) × Unit) × (Bool × Unit))) × Unit)
abbrev s_l17Search_T : Ty := .pair (Outs.ty s_l17Search_outs) (mutsTy s_l17Search_ps)
noncomputable def s_l17Search_env (fr : (parsTy s_l17Search_ps).D → Option s_l17Search_R) : Env := { tab := s_l17Search_tab, fns := [(39, Try.f39)], sigs := [(39, { ps := s_l17Search_ps, outs := s_l17Search_outs, fn := fr }), (57, s_l17All_sig), (58, s_l01Copy_sig), (59, s_l17Fits_sig)] }
def s_l17Search_anns : List Ann := [⟨39, 4, [0, 1, 5, 7, 9], []⟩]
inductive s_l17Search_H where
  | l0 (v0 : List PastD) (v1 : List Int) (v2 : Int) (v3 : BookD)
noncomputable def s_l17Search_cfg : s_l17Search_H → Cfg
  | .l0 v0 v1 v2 v3 => { fr := { fn := 39, fb := 0, ss := sl 53 [(0, (.pv true (.slice tPast) v0)), (1, (.pv true (.slice (.int .i64)) v1)), (5, (.bptr 0 [])), (7, (.bptr 1 [])), (9, (.pv false (.int .i64) v2))], todo := todoAt (bodyOf Try.f39) [false, false, true, false, true] [] }, cs := [], ob := ofList [.box tBook (.pv false tBook v3), .box tBook (.pair .nilv .unit)] }
def s_l17Search_body (fr : (parsTy s_l17Search_ps).D → Option s_l17Search_R) (rec : s_l17Search_H → Option s_l17Search_R) : s_l17Search_H → Option s_l17Search_R
  | .l0 v0 v1 v2 v3 =>
    if (decide (v2 < (↑v0.length : Int))) = true then
      (s_l17Fits_fn v0 v1 v3 v2).bind fun y2 =>
        if (!y2.fst.snd.fst) = true then
          (rec (.l0 (v0) (v1) (IntKind.i64.wrap (v2 + 1)) (v3))).bind some
        else
          (s_l01Copy_fn v1).bind fun y3 =>
            if (decide ((List.length y3.fst + ((List.replicate 1 0).set 0 v2).length) * 8 ≤ 140737488355328)) = true then
              if (decide (List.length y3.fst + ((List.replicate 1 0).set 0 v2).length ≤ 9223372036854775807)) = true then
                (fr (v0, y3.fst ++ (List.replicate 1 0).set 0 v2, y2.fst.fst, ())).bind fun y4 =>
                  if (y4.fst.snd.snd.fst) = true then
                    some ((y4.fst.fst, y4.fst.snd.fst, true, ()), ())
                  else
                    (rec (.l0 (v0) (v1) (IntKind.i64.wrap (v2 + 1)) (v3))).bind some
              else
                none
            else
              none
    else
      some (([], ([], ()), false, ()), ())
def s_l17Search_start (fr : (parsTy s_l17Search_ps).D → Option s_l17Search_R) (rec : s_l17Search_H → Option s_l17Search_R) (x0 : (List PastD)) (x1 : (List Int)) (x2 : BookD) : Option s_l17Search_R :=
  (s_l17All_fn x0 x1).bind fun y0 =>
    if (y0.fst) = true then
      (s_l01Copy_fn x1).bind fun y1 =>
        some ((y1.fst, x2, true, ()), ())
    else
      (rec (.l0 (x0) (x1) (0) (x2))).bind some
def s_l17Search_go (fr : (parsTy s_l17Search_ps).D → Option s_l17Search_R) : Nat → s_l17Search_H → Option s_l17Search_R
  | 0, _ => none
  | k + 1, h => s_l17Search_body fr (s_l17Search_go fr k) h
def s_l17Search_k (fr : (parsTy s_l17Search_ps).D → Option s_l17Search_R) (k : Nat) (x0 : (List PastD)) (x1 : (List Int)) (x2 : BookD) : Option s_l17Search_R := s_l17Search_start fr (s_l17Search_go fr k) x0 x1 x2
def s_l17Search_fn : Nat → (List PastD) → (List Int) → BookD → Option s_l17Search_R
  | 0, _, _, _ => none
  | d + 1, x0, x1, x2 => s_l17Search_k (fun x => s_l17Search_fn d (x.1) (x.2.1) (x.2.2.1)) (x0.length + x1.length + 10000000) x0 x1 x2
noncomputable def s_l17Search_sigr : Nat → Sig := fun d => { ps := s_l17Search_ps, outs := s_l17Search_outs, fn := fun x => s_l17Search_fn d (x.1) (x.2.1) (x.2.2.1) }
noncomputable def s_l17Search_sig : Sig := s_l17Search_sigr 100
noncomputable abbrev s_l17Search_sigf (fr : (parsTy s_l17Search_ps).D → Option s_l17Search_R) : Sig := { ps := s_l17Search_ps, outs := s_l17Search_outs, fn := fr }
theorem s_l17Search_l0_t (fr f1 : (parsTy s_l17Search_ps).D → Option s_l17Search_R) (rec : Cfg → Option s_l17Search_R) (v0 : List PastD) (v1 : List Int) (v2 : Int) (v3 : BookD) : Tr.k (ev (s_l17Search_env fr) s_l17Search_anns (s_l17Search_sigf f1) rec 20000 (s_l17Search_cfg (.l0 v0 v1 v2 v3))) some = (br (decide (v2 < (↑v0.length : Int))) ((s_l17Fits_fn v0 v1 v3 v2).bind fun y2 => br (!y2.fst.snd.fst) ((rec (s_l17Search_cfg (.l0 (v0) (v1) (IntKind.i64.wrap (v2 + 1)) (v3)))).bind some) ((s_l01Copy_fn v1).bind fun y3 => br (decide ((List.length y3.fst + ((List.replicate 1 0).set 0 v2).length) * 8 ≤ 140737488355328)) (br (decide (List.length y3.fst + ((List.replicate 1 0).set 0 v2).length ≤ 9223372036854775807)) ((fr (v0, y3.fst ++ (List.replicate 1 0).set 0 v2, y2.fst.fst, ())).bind fun y4 => br (y4.fst.snd.snd.fst) (some ((y4.fst.fst, y4.fst.snd.fst, true, ()), ())) ((rec (s_l17Search_cfg (.l0 (v0) (v1) (IntKind.i64.wrap (v2 + 1)) (v3)))).bind some)) (none)) (none))) (some (([], ([], ()), false, ()), ())) : Option s_l17Search_R) := by kernel_rfl
theorem s_l17Search_l0 (fr f1 : (parsTy s_l17Search_ps).D → Option s_l17Search_R) (rec : Cfg → Option (s_l17Search_sigf f1).R.D) (v0 : List PastD) (v1 : List Int) (v2 : Int) (v3 : BookD) : (ev (s_l17Search_env fr) s_l17Search_anns (s_l17Search_sigf f1) rec 20000 (s_l17Search_cfg (.l0 v0 v1 v2 v3))).run = s_l17Search_body fr (fun h => rec (s_l17Search_cfg h)) (.l0 v0 v1 v2 v3) := (Tr.k_some _).trans ((s_l17Search_l0_t fr f1 rec v0 v1 v2 v3).trans (by first | rfl | (simp only [br_ite]; rfl)))
theorem s_l17Search_begin_t (fr f1 : (parsTy s_l17Search_ps).D → Option s_l17Search_R) (rec : Cfg → Option s_l17Search_R) (x0 : (List PastD)) (x1 : (List Int)) (x2 : BookD) : Tr.k (ev (s_l17Search_env fr) s_l17Search_anns (s_l17Search_sigf f1) rec 20000 (entry (s_l17Search_sigf f1) 39 Try.f39 (bodyOf Try.f39) (x0, x1, x2, ()))) some = ((s_l17All_fn x0 x1).bind fun y0 => br (y0.fst) ((s_l01Copy_fn x1).bind fun y1 => some ((y1.fst, x2, true, ()), ())) ((rec (s_l17Search_cfg (.l0 (x0) (x1) (0) (x2)))).bind some) : Option s_l17Search_R) := by kernel_rfl
theorem s_l17Search_begin (fr f1 : (parsTy s_l17Search_ps).D → Option s_l17Search_R) (rec : Cfg → Option (s_l17Search_sigf f1).R.D) (x0 : (List PastD)) (x1 : (List Int)) (x2 : BookD) : (ev (s_l17Search_env fr) s_l17Search_anns (s_l17Search_sigf f1) rec 20000 (entry (s_l17Search_sigf f1) 39 Try.f39 (bodyOf Try.f39) (x0, x1, x2, ()))).run = s_l17Search_start fr (fun h => rec (s_l17Search_cfg h)) x0 x1 x2 := (Tr.k_some _).trans ((s_l17Search_begin_t fr f1 rec x0 x1 x2).trans (by first | rfl | (simp only [br_ite]; rfl)))
theorem s_l17Search_tab_ok : s_l17Search_tab.ok Try.prog = true := by decide +kernel
theorem s_l17Search_env_ok (fr : (parsTy s_l17Search_ps).D → Option s_l17Search_R) (hm : Meets Try.prog 39 (s_l17Search_sigf fr)) : (s_l17Search_env fr).Ok Try.prog where
  mixed := by decide +kernel
  tab := s_l17Search_tab_ok
  fns := by
    intro p hp
    simp only [s_l17Search_env, List.mem_cons, List.not_mem_nil, or_false] at hp
    subst hp
    · exact ⟨Try.func39, by decide +kernel⟩
  sigs := by
    intro p hp
    simp only [s_l17Search_env, List.mem_cons, List.not_mem_nil, or_false] at hp
    rcases hp with rfl | rfl | rfl | rfl
    · exact ⟨hm, _, Try.func39, by decide +kernel⟩
    · exact ⟨s_l17All_meets, _, Try.func57, by decide +kernel⟩
    · exact ⟨s_l01Copy_meets, _, Try.func58, by decide +kernel⟩
    · exact ⟨s_l17Fits_meets, _, Try.func59, by decide +kernel⟩
  exts := by
    intro p hp
    simp only [s_l17Search_env, List.mem_cons, List.not_mem_nil, or_false] at hp
theorem s_l17Search_run (fr f1 : (parsTy s_l17Search_ps).D → Option s_l17Search_R) (k : Nat) (h : s_l17Search_H) : Om (s_l17Search_env fr) s_l17Search_anns (s_l17Search_sigf f1) 20000 k (s_l17Search_cfg h) = s_l17Search_go fr k h :=
  Om_go (sg := (s_l17Search_sigf f1)) (cfg := s_l17Search_cfg) (body := s_l17Search_body fr) (go := s_l17Search_go fr) (fun _ => rfl) (fun _ _ => rfl) (fun rec h => by
  cases h with
  | l0 v0 v1 v2 v3 => exact s_l17Search_l0 fr f1 rec v0 v1 v2 v3) k h
theorem s_l17Search_meets1 (fr f1 : (parsTy s_l17Search_ps).D → Option s_l17Search_R) (hm : Meets Try.prog 39 (s_l17Search_sigf fr)) (h : ∀ (x0 : (List PastD)) (x1 : (List Int)) (x2 : BookD), f1 (x0, x1, x2, ()) = s_l17Search_k fr (x0.length + x1.length + 10000000) x0 x1 x2) : Meets Try.prog 39 (s_l17Search_sigf f1) := by
  refine meets (anns := s_l17Search_anns) (N := 20000) (s_l17Search_env_ok fr hm) Try.func39 (body := bodyOf Try.f39) (by rfl) ?_
  rintro ⟨x0, x1, x2, ⟨⟩⟩ r hr
  refine ⟨x0.length + x1.length + 10000000, ?_⟩
  have hr' : s_l17Search_k fr (x0.length + x1.length + 10000000) x0 x1 x2 = some r := by rw [← h]; exact hr
  show (ev (s_l17Search_env fr) s_l17Search_anns (s_l17Search_sigf f1) (Om (s_l17Search_env fr) s_l17Search_anns (s_l17Search_sigf f1) 20000 (x0.length + x1.length + 10000000)) 20000 (entry (s_l17Search_sigf f1) 39 Try.f39 (bodyOf Try.f39) (x0, x1, x2, ()))).run = some r
  rw [s_l17Search_begin]
  have e : (fun h => Om (s_l17Search_env fr) s_l17Search_anns (s_l17Search_sigf f1) 20000 (x0.length + x1.length + 10000000) (s_l17Search_cfg h)) = s_l17Search_go fr (x0.length + x1.length + 10000000) := funext fun h => s_l17Search_run fr f1 _ h
  rw [e]
  exact hr'
theorem s_l17Search_meetsr : ∀ d, Meets Try.prog 39 (s_l17Search_sigr d) := by
  intro d
  induction d with
  | zero =>
    intro w I J xs vs bs ls _ _ _ _ _ r hr
    exact absurd hr (by simp [s_l17Search_sigr, s_l17Search_fn])
  | succ d ih => exact s_l17Search_meets1 (fun x => s_l17Search_fn d (x.1) (x.2.1) (x.2.2.1)) (fun x => s_l17Search_fn (d + 1) (x.1) (x.2.1) (x.2.2.1)) ih (fun x0 x1 x2 => rfl)
theorem s_l17Search_meets : Meets Try.prog 39 s_l17Search_sig := s_l17Search_meetsr _
end Go.Proofs.Ytmggpiijahiaiaa.Ev
/- The plain law of histories: the search, both ways alike. -/
namespace Go.Proofs.Ytmggpiijahiaiaa.Ev
open Go Go.IntWalk
set_option linter.unusedVariables false
set_option linter.unusedSimpArgs false
def tryFrom {α : Type} (F : Nat → Option α) : Nat → Nat → Option α
  | 0, _ => none
  | n + 1, i => match F i with
    | some r => some r
    | none => tryFrom F n (i + 1)
def searchM (l : List PastD) : Nat → List Int → List AccountD → Option (List Int × List AccountD)
  | 0, _, _ => none
  | d + 1, o, b => if answered o 0 l = true then some (o, b) else
    tryFrom (fun k => if (!stops l k o && nextOk b (l.getD k zP)) = true then searchM l d (o ++ [(k : Int)]) (nextB b (l.getD k zP)) else none) l.length 0
def resI : Option (List Int × List AccountD) → i_search_R
  | some r => ((r.1, true, ()), ())
  | none => (([], false, ()), ())
def resS : Option (List Int × List AccountD) → s_l17Search_R
  | some r => ((r.1, (r.2, ()), true, ()), ())
  | none => (([], ([], ()), false, ()), ())
theorem next_good {b : List AccountD} (hb : b.length ≤ 40) (hr : bookR b) {p : PastD} (hp : pastR p) : (nextB b p).length ≤ 40 ∧ bookR (nextB b p) := by
  unfold nextB
  by_cases h : okBook b = true
  · have := core_good h hr hp
    exact ⟨this.1, this.2.1⟩
  · rw [core_bad h]
    exact ⟨hb, hr⟩
theorem stops_not {l : List PastD} {k : Int} : ∀ {o : List Int}, stops l k o = false → k ∉ o := by
  intro o
  induction o with
  | nil => intro _; simp
  | cons x r ih =>
    intro h
    simp only [stops, Bool.or_eq_false_iff, decide_eq_false_iff_not] at h
    intro hm
    rcases List.mem_cons.1 hm with e | e
    · exact h.1.1 e.symm
    · exact ih h.2 e
theorem pigeon : ∀ (n : Nat) (o : List Int), o.Nodup → (∀ x ∈ o, 0 ≤ x ∧ x < (n : Int)) → o.length ≤ n := by
  intro n
  induction n with
  | zero =>
    intro o _ h
    cases o with
    | nil => simp
    | cons x r => have := h x (by simp); omega
  | succ n ih =>
    intro o hn h
    by_cases hm : (n : Int) ∈ o
    · have h1 := ih (o.erase n) (hn.erase _) (fun x hx => by
        have h2 := (List.Nodup.mem_erase_iff hn).1 hx
        have h3 := h x h2.2
        have := h2.1
        omega)
      rw [List.length_erase_of_mem hm] at h1
      omega
    · have := ih o hn (fun x hx => by
        have h3 := h x hx
        have : x ≠ n := fun e => hm (e ▸ hx)
        omega)
      omega
theorem nodup_snoc {o : List Int} (h : o.Nodup) {k : Int} (hk : k ∉ o) : (o ++ [k]).Nodup := by
  rw [List.nodup_append]
  exact ⟨h, by simp, fun a ha b hb => by simp only [List.mem_singleton] at hb; subst hb; exact fun e => hk (e ▸ ha)⟩
theorem inL_snoc {l : List PastD} {o : List Int} (h : inL l o) {k : Nat} (hk : k < l.length) : inL l (o ++ [(k : Int)]) := by
  intro x hx
  rcases List.mem_append.1 hx with e | e
  · exact h x e
  · simp only [List.mem_singleton] at e
    omega
theorem iSearch_go {l : List PastD} {o : List Int} {b : List AccountD} {fr : (parsTy i_search_ps).D → Option i_search_R} {S : List Int → List AccountD → Option (List Int × List AccountD)} (hl : l.length ≤ 1048576) (hh : histR l) (ho : o.length ≤ 1048576) (hi : inL l o) (hb : b.length ≤ 40) (hr : bookR b)
    (hfr : ∀ k : Nat, k < l.length → stops l k o = false → fr (l, o ++ [(k : Int)], (nextB b (l.getD k zP), ()), ()) = some (resI (S (o ++ [(k : Int)]) (nextB b (l.getD k zP))))) :
    ∀ (n f i : Nat), n < f → i + n = l.length → i_search_go fr f (.l0 l l.length i o (b, ())) = some (resI (tryFrom (fun k => if (!stops l k o && nextOk b (l.getD k zP)) = true then S (o ++ [(k : Int)]) (nextB b (l.getD k zP)) else none) n i)) := by
  intro n
  induction n with
  | zero =>
    intro f i hf hn
    obtain rfl : i = l.length := by omega
    obtain ⟨f, rfl⟩ : ∃ f', f = f' + 1 := ⟨f - 1, by omega⟩
    rw [i_search_go]
    simp only [i_search_body, Int.lt_irrefl, decide_false, Bool.false_eq_true, if_false]
    rfl
  | succ n ih =>
    intro f i hf hn
    obtain ⟨f, rfl⟩ : ∃ f', f = f' + 1 := ⟨f - 1, by omega⟩
    have hil : i < l.length := by omega
    have c1 : decide ((i : Int) < (l.length : Int)) = true := by simpa using hil
    have hw := wrapS hil (by omega)
    have rest := ih f (i + 1) (by omega) (by omega)
    rw [i_search_go]

    have e2 : List.replicate 0 (0 : Int) ++ o = o := rfl
    have d1 : decide ((0 + o.length) * 8 ≤ 140737488355328) = true := by simp; omega
    have d2 : decide (0 + o.length ≤ 9223372036854775807) = true := by simp; omega
    have d3 : decide ((o.length + 1) * 8 ≤ 140737488355328) = true := by simp; omega
    have d4 : decide (o.length + 1 ≤ 9223372036854775807) = true := by simp; omega
    simp only [i_search_body, c1, if_true, iFollows_ok hl hh ho hi hb hr hil, Option.bind_some, bindSome, hw, rest, List.length_replicate, e2, one_set, List.length_singleton, d1, d2, d3, d4, tryFrom]
    by_cases h1 : (!stops l i o && nextOk b (l.getD i zP)) = true
    · have h2 : stops l i o = false := by
        rw [Bool.and_eq_true] at h1
        simpa using h1.1
      have h3 : nextOk b (l.getD i zP) = true := by
        rw [Bool.and_eq_true] at h1
        exact h1.2
      simp only [h2, h3, Bool.not_false, Bool.and_self, Bool.not_true, Bool.false_eq_true, if_false, if_true, hfr i hil h2, Option.bind_some]
      cases S (o ++ [(i : Int)]) (nextB b (l.getD i zP)) with
      | none => simp [resI]
      | some r => simp [resI]
    · have h1' : (!stops l i o && nextOk b (l.getD i zP)) = false := by simpa using h1
      simp only [h1', Bool.not_false, if_true, Bool.false_eq_true, if_false]
theorem iSearch_ok {l : List PastD} (hl : l.length ≤ 1048576) (hh : histR l) : ∀ (d : Nat) (o : List Int) (b : List AccountD), o.Nodup → inL l o → l.length < d + o.length → b.length ≤ 40 → bookR b → i_search_fn d l o (b, ()) = some (resI (searchM l d o b)) := by
  intro d
  induction d with
  | zero =>
    intro o b hn hi hd _ _
    have := pigeon _ o hn hi
    omega
  | succ d ih =>
    intro o b hn hi hd hb hr
    have ho : o.length ≤ 1048576 := by have := pigeon _ o hn hi; omega
    show i_search_start (fun x => i_search_fn d (x.1) (x.2.1) (x.2.2.1)) (i_search_go (fun x => i_search_fn d (x.1) (x.2.1) (x.2.2.1)) (l.length + o.length + 10000000)) l o (b, ()) = _
    unfold i_search_start
    simp only [hasA_ok hl ho, Option.bind_some, bindSome, searchM]
    by_cases h : answered o 0 l = true
    · simp only [h, if_true]; rfl
    · simp only [h, if_false, Bool.false_eq_true]
      exact iSearch_go (S := searchM l d) hl hh ho hi hb hr (fun k hk hs => by
        have g := next_good hb hr (histR_at hh hk)
        exact ih _ _ (nodup_snoc hn (stops_not hs)) (inL_snoc hi hk) (by simp; omega) g.1 g.2) l.length _ 0 (by omega) (by omega)
theorem sSearch_go {l : List PastD} {o : List Int} {b : List AccountD} {fr : (parsTy s_l17Search_ps).D → Option s_l17Search_R} {S : List Int → List AccountD → Option (List Int × List AccountD)} (hl : l.length ≤ 1048576) (hh : histR l) (ho : o.length ≤ 1048576) (hi : inL l o) (hb : b.length ≤ 40) (hr : bookR b)
    (hfr : ∀ k : Nat, k < l.length → stops l k o = false → fr (l, o ++ [(k : Int)], (nextB b (l.getD k zP), ()), ()) = some (resS (S (o ++ [(k : Int)]) (nextB b (l.getD k zP))))) :
    ∀ (n f i : Nat), n < f → i + n = l.length → s_l17Search_go fr f (.l0 l o i (b, ())) = some (resS (tryFrom (fun k => if (!stops l k o && nextOk b (l.getD k zP)) = true then S (o ++ [(k : Int)]) (nextB b (l.getD k zP)) else none) n i)) := by
  intro n
  induction n with
  | zero =>
    intro f i hf hn
    obtain rfl : i = l.length := by omega
    obtain ⟨f, rfl⟩ : ∃ f', f = f' + 1 := ⟨f - 1, by omega⟩
    rw [s_l17Search_go]
    simp only [s_l17Search_body, Int.lt_irrefl, decide_false, Bool.false_eq_true, if_false]
    rfl
  | succ n ih =>
    intro f i hf hn
    obtain ⟨f, rfl⟩ : ∃ f', f = f' + 1 := ⟨f - 1, by omega⟩
    have hil : i < l.length := by omega
    have c1 : (i : Int) < (l.length : Int) := by omega
    have hw := wrapS hil (by omega)
    have rest := ih f (i + 1) (by omega) (by omega)
    rw [s_l17Search_go]
    have d3 : (o.length + 1) * 8 ≤ 140737488355328 := by omega
    have d4 : o.length + 1 ≤ 9223372036854775807 := by omega
    simp only [s_l17Search_body, decide_eq_true_eq, c1, if_true, sFits_ok hl hh ho hi hb hr hil, Option.bind_some, bindSome, hw, rest, copyI_ok ho, one_set, List.length_singleton, d3, d4, tryFrom]
    by_cases h1 : (!stops l i o && nextOk b (l.getD i zP)) = true
    · have h2 : stops l i o = false := by
        rw [Bool.and_eq_true] at h1
        simpa using h1.1
      have h3 : nextOk b (l.getD i zP) = true := by
        rw [Bool.and_eq_true] at h1
        exact h1.2
      simp only [h2, h3, Bool.not_false, Bool.and_self, Bool.not_true, Bool.false_eq_true, if_false, if_true, hfr i hil h2, Option.bind_some]
      cases S (o ++ [(i : Int)]) (nextB b (l.getD i zP)) with
      | none => simp [resS]
      | some r => simp [resS]
    · have h1' : (!stops l i o && nextOk b (l.getD i zP)) = false := by simpa using h1
      simp only [h1', Bool.not_false, if_true, Bool.false_eq_true, if_false]
theorem sSearch_ok {l : List PastD} (hl : l.length ≤ 1048576) (hh : histR l) : ∀ (d : Nat) (o : List Int) (b : List AccountD), o.Nodup → inL l o → l.length < d + o.length → b.length ≤ 40 → bookR b → s_l17Search_fn d l o (b, ()) = some (resS (searchM l d o b)) := by
  intro d
  induction d with
  | zero =>
    intro o b hn hi hd _ _
    have := pigeon _ o hn hi
    omega
  | succ d ih =>
    intro o b hn hi hd hb hr
    have ho : o.length ≤ 1048576 := by have := pigeon _ o hn hi; omega
    show s_l17Search_start (fun x => s_l17Search_fn d (x.1) (x.2.1) (x.2.2.1)) (s_l17Search_go (fun x => s_l17Search_fn d (x.1) (x.2.1) (x.2.2.1)) (l.length + o.length + 10000000)) l o (b, ()) = _
    unfold s_l17Search_start
    simp only [sAll_ok hl ho, Option.bind_some, bindSome, searchM]
    by_cases h : answered o 0 l = true
    · simp only [h, if_true, copyI_ok ho, Option.bind_some]; rfl
    · simp only [h, if_false, Bool.false_eq_true]
      exact sSearch_go (S := searchM l d) hl hh ho hi hb hr (fun k hk hs => by
        have g := next_good hb hr (histR_at hh hk)
        exact ih _ _ (nodup_snoc hn (stops_not hs)) (inL_snoc hi hk) (by simp; omega) g.1 g.2) l.length _ 0 (by omega) (by omega)
end Go.Proofs.Ytmggpiijahiaiaa.Ev
namespace Go.Proofs.Ytmggpiijahiaiaa.Ev
open Go
set_option linter.unusedVariables false
set_option linter.unusedSimpArgs false
set_option maxRecDepth 100000
def s_Witness_tab : TTab := [⟨4, .bool, 0⟩, ⟨25, (.slice tPast), 64⟩, ⟨29, (.slice (.int .i64)), 8⟩, ⟨49, tBook, 0⟩]
abbrev s_Witness_ps : List Par := [.lent (.slice tPast)]
abbrev s_Witness_outs : Outs := .many [(.own (.int .i64)), (.pure .bool)]
abbrev s_Witness_R : Type := (((List Int) × (Bool × Unit)) × Unit)
abbrev s_Witness_T : Ty := .pair (Outs.ty s_Witness_outs) (mutsTy s_Witness_ps)
noncomputable def s_Witness_env : Env := { tab := s_Witness_tab, fns := [(13, Try.f13)], sigs := [(38, s_PastOk_sig), (39, s_l17Search_sig)] }
def s_Witness_anns : List Ann := []
inductive s_Witness_H where
  | none
noncomputable def s_Witness_cfg : s_Witness_H → Cfg
  | .none => { fr := { fn := 0, fb := 0, ss := [], todo := [] }, cs := [], ob := fun _ => none }
def s_Witness_body (rec : s_Witness_H → Option s_Witness_R) : s_Witness_H → Option s_Witness_R
  | .none => none
def s_Witness_start (rec : s_Witness_H → Option s_Witness_R) (x0 : (List PastD)) : Option s_Witness_R :=
  (s_PastOk_fn x0).bind fun y0 =>
    if (!y0.fst) = true then
      some (([], false, ()), ())
    else
      (s_l17Search_fn 100 x0 (List.replicate 0 0) ([], ())).bind fun y1 =>
        some ((y1.fst.fst, y1.fst.snd.snd.fst, ()), ())
def s_Witness_go : Nat → s_Witness_H → Option s_Witness_R
  | 0, _ => none
  | k + 1, h => s_Witness_body (s_Witness_go k) h
def s_Witness_k (k : Nat) (x0 : (List PastD)) : Option s_Witness_R := s_Witness_start (s_Witness_go k) x0
def s_Witness_fn (x0 : (List PastD)) : Option s_Witness_R := s_Witness_k (1) x0
noncomputable def s_Witness_sig : Sig := { ps := s_Witness_ps, outs := s_Witness_outs, fn := fun x => s_Witness_fn (x.1) }
theorem s_Witness_begin_t (rec : Cfg → Option s_Witness_R) (x0 : (List PastD)) : Tr.k (ev s_Witness_env s_Witness_anns s_Witness_sig rec 20000 (entry s_Witness_sig 13 Try.f13 (bodyOf Try.f13) (x0, ()))) some = ((s_PastOk_fn x0).bind fun y0 => br (!y0.fst) (some (([], false, ()), ())) ((s_l17Search_fn 100 x0 (List.replicate 0 0) ([], ())).bind fun y1 => some ((y1.fst.fst, y1.fst.snd.snd.fst, ()), ())) : Option s_Witness_R) := by kernel_rfl
theorem s_Witness_begin (rec : Cfg → Option s_Witness_sig.R.D) (x0 : (List PastD)) : (ev s_Witness_env s_Witness_anns s_Witness_sig rec 20000 (entry s_Witness_sig 13 Try.f13 (bodyOf Try.f13) (x0, ()))).run = s_Witness_start (fun h => rec (s_Witness_cfg h)) x0 := (Tr.k_some _).trans ((s_Witness_begin_t rec x0).trans (by first | rfl | (simp only [br_ite]; rfl)))
theorem s_Witness_tab_ok : s_Witness_tab.ok Try.prog = true := by decide +kernel
theorem s_Witness_env_ok : (s_Witness_env).Ok Try.prog where
  mixed := by decide +kernel
  tab := s_Witness_tab_ok
  fns := by
    intro p hp
    simp only [s_Witness_env, List.mem_cons, List.not_mem_nil, or_false] at hp
    subst hp
    · exact ⟨Try.func13, by decide +kernel⟩
  sigs := by
    intro p hp
    simp only [s_Witness_env, List.mem_cons, List.not_mem_nil, or_false] at hp
    rcases hp with rfl | rfl
    · exact ⟨s_PastOk_meets, _, Try.func38, by decide +kernel⟩
    · exact ⟨s_l17Search_meets, _, Try.func39, by decide +kernel⟩
  exts := by
    intro p hp
    simp only [s_Witness_env, List.mem_cons, List.not_mem_nil, or_false] at hp
theorem s_Witness_meets : Meets Try.prog 13 s_Witness_sig := by
  refine meets (anns := s_Witness_anns) (N := 20000) s_Witness_env_ok Try.func13 (body := bodyOf Try.f13) (by rfl) ?_
  rintro ⟨x0, ⟨⟩⟩ r hr
  refine ⟨1, ?_⟩
  show (ev s_Witness_env s_Witness_anns s_Witness_sig (Om s_Witness_env s_Witness_anns s_Witness_sig 20000 (1)) 20000 (entry s_Witness_sig 13 Try.f13 (bodyOf Try.f13) (x0, ()))).run = some r
  rw [s_Witness_begin]
  exact hr
end Go.Proofs.Ytmggpiijahiaiaa.Ev
namespace Go.Proofs.Ytmggpiijahiaiaa.Ev
open Go
set_option linter.unusedVariables false
set_option linter.unusedSimpArgs false
set_option maxRecDepth 100000
def s_Linear_tab : TTab := [⟨4, .bool, 0⟩, ⟨25, (.slice tPast), 64⟩, ⟨29, (.slice (.int .i64)), 8⟩]
abbrev s_Linear_ps : List Par := [.lent (.slice tPast)]
abbrev s_Linear_outs : Outs := .one (.pure .bool)
abbrev s_Linear_R : Type := (Bool × Unit)
abbrev s_Linear_T : Ty := .pair (Outs.ty s_Linear_outs) (mutsTy s_Linear_ps)
noncomputable def s_Linear_env : Env := { tab := s_Linear_tab, fns := [(9, Try.f9)], sigs := [(13, s_Witness_sig)] }
def s_Linear_anns : List Ann := []
inductive s_Linear_H where
  | none
noncomputable def s_Linear_cfg : s_Linear_H → Cfg
  | .none => { fr := { fn := 0, fb := 0, ss := [], todo := [] }, cs := [], ob := fun _ => none }
def s_Linear_body (rec : s_Linear_H → Option s_Linear_R) : s_Linear_H → Option s_Linear_R
  | .none => none
def s_Linear_start (rec : s_Linear_H → Option s_Linear_R) (x0 : (List PastD)) : Option s_Linear_R :=
  (s_Witness_fn x0).bind fun y0 =>
    some (y0.fst.snd.fst, ())
def s_Linear_go : Nat → s_Linear_H → Option s_Linear_R
  | 0, _ => none
  | k + 1, h => s_Linear_body (s_Linear_go k) h
def s_Linear_k (k : Nat) (x0 : (List PastD)) : Option s_Linear_R := s_Linear_start (s_Linear_go k) x0
def s_Linear_fn (x0 : (List PastD)) : Option s_Linear_R := s_Linear_k (1) x0
noncomputable def s_Linear_sig : Sig := { ps := s_Linear_ps, outs := s_Linear_outs, fn := fun x => s_Linear_fn (x.1) }
theorem s_Linear_begin_t (rec : Cfg → Option s_Linear_R) (x0 : (List PastD)) : Tr.k (ev s_Linear_env s_Linear_anns s_Linear_sig rec 20000 (entry s_Linear_sig 9 Try.f9 (bodyOf Try.f9) (x0, ()))) some = ((s_Witness_fn x0).bind fun y0 => some (y0.fst.snd.fst, ()) : Option s_Linear_R) := by kernel_rfl
theorem s_Linear_begin (rec : Cfg → Option s_Linear_sig.R.D) (x0 : (List PastD)) : (ev s_Linear_env s_Linear_anns s_Linear_sig rec 20000 (entry s_Linear_sig 9 Try.f9 (bodyOf Try.f9) (x0, ()))).run = s_Linear_start (fun h => rec (s_Linear_cfg h)) x0 := (Tr.k_some _).trans ((s_Linear_begin_t rec x0).trans (by first | rfl | (simp only [br_ite]; rfl)))
theorem s_Linear_tab_ok : s_Linear_tab.ok Try.prog = true := by decide +kernel
theorem s_Linear_env_ok : (s_Linear_env).Ok Try.prog where
  mixed := by decide +kernel
  tab := s_Linear_tab_ok
  fns := by
    intro p hp
    simp only [s_Linear_env, List.mem_cons, List.not_mem_nil, or_false] at hp
    subst hp
    · exact ⟨Try.func9, by decide +kernel⟩
  sigs := by
    intro p hp
    simp only [s_Linear_env, List.mem_cons, List.not_mem_nil, or_false] at hp
    subst hp
    · exact ⟨s_Witness_meets, _, Try.func13, by decide +kernel⟩
  exts := by
    intro p hp
    simp only [s_Linear_env, List.mem_cons, List.not_mem_nil, or_false] at hp
theorem s_Linear_meets : Meets Try.prog 9 s_Linear_sig := by
  refine meets (anns := s_Linear_anns) (N := 20000) s_Linear_env_ok Try.func9 (body := bodyOf Try.f9) (by rfl) ?_
  rintro ⟨x0, ⟨⟩⟩ r hr
  refine ⟨1, ?_⟩
  show (ev s_Linear_env s_Linear_anns s_Linear_sig (Om s_Linear_env s_Linear_anns s_Linear_sig 20000 (1)) 20000 (entry s_Linear_sig 9 Try.f9 (bodyOf Try.f9) (x0, ()))).run = some r
  rw [s_Linear_begin]
  exact hr
end Go.Proofs.Ytmggpiijahiaiaa.Ev
namespace Go.Proofs.Ytmggpiijahiaiaa.Ev
open Go
set_option linter.unusedVariables false
set_option linter.unusedSimpArgs false
set_option maxRecDepth 100000
def i_witness_tab : TTab := [⟨4, .bool, 0⟩, ⟨25, (.slice tPast), 64⟩, ⟨29, (.slice (.int .i64)), 8⟩, ⟨49, tBook, 0⟩]
abbrev i_witness_ps : List Par := [.lent (.slice tPast)]
abbrev i_witness_outs : Outs := .many [(.own (.int .i64)), (.pure .bool)]
abbrev i_witness_R : Type := (((List Int) × (Bool × Unit)) × Unit)
abbrev i_witness_T : Ty := .pair (Outs.ty i_witness_outs) (mutsTy i_witness_ps)
noncomputable def i_witness_env : Env := { tab := i_witness_tab, fns := [(36, Try.f36)], sigs := [(41, i_isPast_sig), (54, i_search_sig)] }
def i_witness_anns : List Ann := []
inductive i_witness_H where
  | none
noncomputable def i_witness_cfg : i_witness_H → Cfg
  | .none => { fr := { fn := 0, fb := 0, ss := [], todo := [] }, cs := [], ob := fun _ => none }
def i_witness_body (rec : i_witness_H → Option i_witness_R) : i_witness_H → Option i_witness_R
  | .none => none
def i_witness_start (rec : i_witness_H → Option i_witness_R) (x0 : (List PastD)) : Option i_witness_R :=
  (i_isPast_fn x0).bind fun y0 =>
    if (!y0.fst) = true then
      some (([], false, ()), ())
    else
      (i_search_fn 100 x0 [] ([], ())).bind fun y1 =>
        some ((y1.fst.fst, y1.fst.snd.fst, ()), ())
def i_witness_go : Nat → i_witness_H → Option i_witness_R
  | 0, _ => none
  | k + 1, h => i_witness_body (i_witness_go k) h
def i_witness_k (k : Nat) (x0 : (List PastD)) : Option i_witness_R := i_witness_start (i_witness_go k) x0
def i_witness_fn (x0 : (List PastD)) : Option i_witness_R := i_witness_k (1) x0
noncomputable def i_witness_sig : Sig := { ps := i_witness_ps, outs := i_witness_outs, fn := fun x => i_witness_fn (x.1) }
theorem i_witness_begin_t (rec : Cfg → Option i_witness_R) (x0 : (List PastD)) : Tr.k (ev i_witness_env i_witness_anns i_witness_sig rec 20000 (entry i_witness_sig 36 Try.f36 (bodyOf Try.f36) (x0, ()))) some = ((i_isPast_fn x0).bind fun y0 => br (!y0.fst) (some (([], false, ()), ())) ((i_search_fn 100 x0 [] ([], ())).bind fun y1 => some ((y1.fst.fst, y1.fst.snd.fst, ()), ())) : Option i_witness_R) := by kernel_rfl
theorem i_witness_begin (rec : Cfg → Option i_witness_sig.R.D) (x0 : (List PastD)) : (ev i_witness_env i_witness_anns i_witness_sig rec 20000 (entry i_witness_sig 36 Try.f36 (bodyOf Try.f36) (x0, ()))).run = i_witness_start (fun h => rec (i_witness_cfg h)) x0 := (Tr.k_some _).trans ((i_witness_begin_t rec x0).trans (by first | rfl | (simp only [br_ite]; rfl)))
theorem i_witness_tab_ok : i_witness_tab.ok Try.prog = true := by decide +kernel
theorem i_witness_env_ok : (i_witness_env).Ok Try.prog where
  mixed := by decide +kernel
  tab := i_witness_tab_ok
  fns := by
    intro p hp
    simp only [i_witness_env, List.mem_cons, List.not_mem_nil, or_false] at hp
    subst hp
    · exact ⟨Try.func36, by decide +kernel⟩
  sigs := by
    intro p hp
    simp only [i_witness_env, List.mem_cons, List.not_mem_nil, or_false] at hp
    rcases hp with rfl | rfl
    · exact ⟨i_isPast_meets, _, Try.func41, by decide +kernel⟩
    · exact ⟨i_search_meets, _, Try.func54, by decide +kernel⟩
  exts := by
    intro p hp
    simp only [i_witness_env, List.mem_cons, List.not_mem_nil, or_false] at hp
theorem i_witness_meets : Meets Try.prog 36 i_witness_sig := by
  refine meets (anns := i_witness_anns) (N := 20000) i_witness_env_ok Try.func36 (body := bodyOf Try.f36) (by rfl) ?_
  rintro ⟨x0, ⟨⟩⟩ r hr
  refine ⟨1, ?_⟩
  show (ev i_witness_env i_witness_anns i_witness_sig (Om i_witness_env i_witness_anns i_witness_sig 20000 (1)) 20000 (entry i_witness_sig 36 Try.f36 (bodyOf Try.f36) (x0, ()))).run = some r
  rw [i_witness_begin]
  exact hr
end Go.Proofs.Ytmggpiijahiaiaa.Ev
namespace Go.Proofs.Ytmggpiijahiaiaa.Ev
open Go
set_option linter.unusedVariables false
set_option linter.unusedSimpArgs false
set_option maxRecDepth 100000
def i_Linear_tab : TTab := [⟨4, .bool, 0⟩, ⟨25, (.slice tPast), 64⟩, ⟨29, (.slice (.int .i64)), 8⟩]
abbrev i_Linear_ps : List Par := [.lent (.slice tPast)]
abbrev i_Linear_outs : Outs := .one (.pure .bool)
abbrev i_Linear_R : Type := (Bool × Unit)
abbrev i_Linear_T : Ty := .pair (Outs.ty i_Linear_outs) (mutsTy i_Linear_ps)
noncomputable def i_Linear_env : Env := { tab := i_Linear_tab, fns := [(11, Try.f11)], sigs := [(36, i_witness_sig)] }
def i_Linear_anns : List Ann := []
inductive i_Linear_H where
  | none
noncomputable def i_Linear_cfg : i_Linear_H → Cfg
  | .none => { fr := { fn := 0, fb := 0, ss := [], todo := [] }, cs := [], ob := fun _ => none }
def i_Linear_body (rec : i_Linear_H → Option i_Linear_R) : i_Linear_H → Option i_Linear_R
  | .none => none
def i_Linear_start (rec : i_Linear_H → Option i_Linear_R) (x0 : (List PastD)) : Option i_Linear_R :=
  (i_witness_fn x0).bind fun y0 =>
    some (y0.fst.snd.fst, ())
def i_Linear_go : Nat → i_Linear_H → Option i_Linear_R
  | 0, _ => none
  | k + 1, h => i_Linear_body (i_Linear_go k) h
def i_Linear_k (k : Nat) (x0 : (List PastD)) : Option i_Linear_R := i_Linear_start (i_Linear_go k) x0
def i_Linear_fn (x0 : (List PastD)) : Option i_Linear_R := i_Linear_k (1) x0
noncomputable def i_Linear_sig : Sig := { ps := i_Linear_ps, outs := i_Linear_outs, fn := fun x => i_Linear_fn (x.1) }
theorem i_Linear_begin_t (rec : Cfg → Option i_Linear_R) (x0 : (List PastD)) : Tr.k (ev i_Linear_env i_Linear_anns i_Linear_sig rec 20000 (entry i_Linear_sig 11 Try.f11 (bodyOf Try.f11) (x0, ()))) some = ((i_witness_fn x0).bind fun y0 => some (y0.fst.snd.fst, ()) : Option i_Linear_R) := by kernel_rfl
theorem i_Linear_begin (rec : Cfg → Option i_Linear_sig.R.D) (x0 : (List PastD)) : (ev i_Linear_env i_Linear_anns i_Linear_sig rec 20000 (entry i_Linear_sig 11 Try.f11 (bodyOf Try.f11) (x0, ()))).run = i_Linear_start (fun h => rec (i_Linear_cfg h)) x0 := (Tr.k_some _).trans ((i_Linear_begin_t rec x0).trans (by first | rfl | (simp only [br_ite]; rfl)))
theorem i_Linear_tab_ok : i_Linear_tab.ok Try.prog = true := by decide +kernel
theorem i_Linear_env_ok : (i_Linear_env).Ok Try.prog where
  mixed := by decide +kernel
  tab := i_Linear_tab_ok
  fns := by
    intro p hp
    simp only [i_Linear_env, List.mem_cons, List.not_mem_nil, or_false] at hp
    subst hp
    · exact ⟨Try.func11, by decide +kernel⟩
  sigs := by
    intro p hp
    simp only [i_Linear_env, List.mem_cons, List.not_mem_nil, or_false] at hp
    subst hp
    · exact ⟨i_witness_meets, _, Try.func36, by decide +kernel⟩
  exts := by
    intro p hp
    simp only [i_Linear_env, List.mem_cons, List.not_mem_nil, or_false] at hp
theorem i_Linear_meets : Meets Try.prog 11 i_Linear_sig := by
  refine meets (anns := i_Linear_anns) (N := 20000) i_Linear_env_ok Try.func11 (body := bodyOf Try.f11) (by rfl) ?_
  rintro ⟨x0, ⟨⟩⟩ r hr
  refine ⟨1, ?_⟩
  show (ev i_Linear_env i_Linear_anns i_Linear_sig (Om i_Linear_env i_Linear_anns i_Linear_sig 20000 (1)) 20000 (entry i_Linear_sig 11 Try.f11 (bodyOf Try.f11) (x0, ()))).run = some r
  rw [i_Linear_begin]
  exact hr
end Go.Proofs.Ytmggpiijahiaiaa.Ev
namespace Go.Proofs.Ytmggpiijahiaiaa.Ev
open Go
set_option linter.unusedVariables false
set_option linter.unusedSimpArgs false
set_option maxRecDepth 100000
def w_FnExactLinear_tab : TTab := [⟨3, (.int .i64), 0⟩, ⟨4, .bool, 0⟩, ⟨22, (.slice tPast), 64⟩, ⟨25, (.slice tPast), 64⟩]
abbrev w_FnExactLinear_ps : List Par := [.lent (.slice tPast)]
abbrev w_FnExactLinear_outs : Outs := .one (.pure .bool)
abbrev w_FnExactLinear_R : Type := (Bool × Unit)
abbrev w_FnExactLinear_T : Ty := .pair (Outs.ty w_FnExactLinear_outs) (mutsTy w_FnExactLinear_ps)
noncomputable def w_FnExactLinear_env : Env := { tab := w_FnExactLinear_tab, fns := [(3, Try.f3)], sigs := [(8, w_szPastS_sig), (9, s_Linear_sig), (10, w_toPastS_sig), (11, i_Linear_sig), (12, w_eqPastS_sig)] }
def w_FnExactLinear_anns : List Ann := [⟨3, 200006, [0, 4], []⟩]
inductive w_FnExactLinear_H where
  | l0 (v0 : List PastD) (v1 : Bool)
noncomputable def w_FnExactLinear_cfg : w_FnExactLinear_H → Cfg
  | .l0 v0 v1 => { fr := { fn := 3, fb := 0, ss := sl 27 [(0, (.pv true (.slice tPast) v0)), (4, (.pv false .bool v1))], todo := cutAt (bodyOf Try.f3) [false, false, false, false, false, true] [] }, cs := [], ob := ofList [] }
def w_FnExactLinear_body (rec : w_FnExactLinear_H → Option w_FnExactLinear_R) : w_FnExactLinear_H → Option w_FnExactLinear_R
  | .l0 v0 v1 =>
    (w_toPastS_fn v0).bind fun y3 =>
      (i_Linear_fn y3.fst).bind fun y4 =>
        if (!y4.fst == v1) = true then
          some (false, ())
        else
          (w_toPastS_fn v0).bind fun y5 =>
            (w_eqPastS_fn y3.fst y5.fst).bind fun y6 =>
              if (!y6.fst) = true then
                some (false, ())
              else
                some (true, ())
def w_FnExactLinear_start (rec : w_FnExactLinear_H → Option w_FnExactLinear_R) (x0 : (List PastD)) : Option w_FnExactLinear_R :=
  (w_szPastS_fn x0 1048576).bind fun y0 =>
    if (decide (y0.fst < 0)) = true then
      some (true, ())
    else
      (w_toPastS_fn x0).bind fun y1 =>
        (s_Linear_fn y1.fst).bind fun y2 =>
          (rec (.l0 (x0) (y2.fst))).bind some
def w_FnExactLinear_go : Nat → w_FnExactLinear_H → Option w_FnExactLinear_R
  | 0, _ => none
  | k + 1, h => w_FnExactLinear_body (w_FnExactLinear_go k) h
def w_FnExactLinear_k (k : Nat) (x0 : (List PastD)) : Option w_FnExactLinear_R := w_FnExactLinear_start (w_FnExactLinear_go k) x0
def w_FnExactLinear_fn (x0 : (List PastD)) : Option w_FnExactLinear_R := w_FnExactLinear_k (x0.length + 10000000) x0
noncomputable def w_FnExactLinear_sig : Sig := { ps := w_FnExactLinear_ps, outs := w_FnExactLinear_outs, fn := fun x => w_FnExactLinear_fn (x.1) }
theorem w_FnExactLinear_l0_t (rec : Cfg → Option w_FnExactLinear_R) (v0 : List PastD) (v1 : Bool) : Tr.k (ev w_FnExactLinear_env w_FnExactLinear_anns w_FnExactLinear_sig rec 20000 (w_FnExactLinear_cfg (.l0 v0 v1))) some = ((w_toPastS_fn v0).bind fun y3 => (i_Linear_fn y3.fst).bind fun y4 => br (!y4.fst == v1) (some (false, ())) ((w_toPastS_fn v0).bind fun y5 => (w_eqPastS_fn y3.fst y5.fst).bind fun y6 => br (!y6.fst) (some (false, ())) (some (true, ()))) : Option w_FnExactLinear_R) := by kernel_rfl
theorem w_FnExactLinear_l0 (rec : Cfg → Option w_FnExactLinear_sig.R.D) (v0 : List PastD) (v1 : Bool) : (ev w_FnExactLinear_env w_FnExactLinear_anns w_FnExactLinear_sig rec 20000 (w_FnExactLinear_cfg (.l0 v0 v1))).run = w_FnExactLinear_body (fun h => rec (w_FnExactLinear_cfg h)) (.l0 v0 v1) := (Tr.k_some _).trans ((w_FnExactLinear_l0_t rec v0 v1).trans (by first | rfl | (simp only [br_ite]; rfl)))
theorem w_FnExactLinear_begin_t (rec : Cfg → Option w_FnExactLinear_R) (x0 : (List PastD)) : Tr.k (ev w_FnExactLinear_env w_FnExactLinear_anns w_FnExactLinear_sig rec 20000 (entry w_FnExactLinear_sig 3 Try.f3 (bodyOf Try.f3) (x0, ()))) some = ((w_szPastS_fn x0 1048576).bind fun y0 => br (decide (y0.fst < 0)) (some (true, ())) ((w_toPastS_fn x0).bind fun y1 => (s_Linear_fn y1.fst).bind fun y2 => (rec (w_FnExactLinear_cfg (.l0 (x0) (y2.fst)))).bind some) : Option w_FnExactLinear_R) := by kernel_rfl
theorem w_FnExactLinear_begin (rec : Cfg → Option w_FnExactLinear_sig.R.D) (x0 : (List PastD)) : (ev w_FnExactLinear_env w_FnExactLinear_anns w_FnExactLinear_sig rec 20000 (entry w_FnExactLinear_sig 3 Try.f3 (bodyOf Try.f3) (x0, ()))).run = w_FnExactLinear_start (fun h => rec (w_FnExactLinear_cfg h)) x0 := (Tr.k_some _).trans ((w_FnExactLinear_begin_t rec x0).trans (by first | rfl | (simp only [br_ite]; rfl)))
theorem w_FnExactLinear_tab_ok : w_FnExactLinear_tab.ok Try.prog = true := by decide +kernel
theorem w_FnExactLinear_env_ok : (w_FnExactLinear_env).Ok Try.prog where
  mixed := by decide +kernel
  tab := w_FnExactLinear_tab_ok
  fns := by
    intro p hp
    simp only [w_FnExactLinear_env, List.mem_cons, List.not_mem_nil, or_false] at hp
    subst hp
    · exact ⟨Try.func3, by decide +kernel⟩
  sigs := by
    intro p hp
    simp only [w_FnExactLinear_env, List.mem_cons, List.not_mem_nil, or_false] at hp
    rcases hp with rfl | rfl | rfl | rfl | rfl
    · exact ⟨w_szPastS_meets, _, Try.func8, by decide +kernel⟩
    · exact ⟨s_Linear_meets, _, Try.func9, by decide +kernel⟩
    · exact ⟨w_toPastS_meets, _, Try.func10, by decide +kernel⟩
    · exact ⟨i_Linear_meets, _, Try.func11, by decide +kernel⟩
    · exact ⟨w_eqPastS_meets, _, Try.func12, by decide +kernel⟩
  exts := by
    intro p hp
    simp only [w_FnExactLinear_env, List.mem_cons, List.not_mem_nil, or_false] at hp
theorem w_FnExactLinear_run (k : Nat) (h : w_FnExactLinear_H) : Om w_FnExactLinear_env w_FnExactLinear_anns w_FnExactLinear_sig 20000 k (w_FnExactLinear_cfg h) = w_FnExactLinear_go k h :=
  Om_go (sg := w_FnExactLinear_sig) (cfg := w_FnExactLinear_cfg) (body := w_FnExactLinear_body) (go := w_FnExactLinear_go) (fun _ => rfl) (fun _ _ => rfl) (fun rec h => by
  cases h with
  | l0 v0 v1 => exact w_FnExactLinear_l0 rec v0 v1) k h
theorem w_FnExactLinear_meets : Meets Try.prog 3 w_FnExactLinear_sig := by
  refine meets (anns := w_FnExactLinear_anns) (N := 20000) w_FnExactLinear_env_ok Try.func3 (body := bodyOf Try.f3) (by rfl) ?_
  rintro ⟨x0, ⟨⟩⟩ r hr
  refine ⟨x0.length + 10000000, ?_⟩
  show (ev w_FnExactLinear_env w_FnExactLinear_anns w_FnExactLinear_sig (Om w_FnExactLinear_env w_FnExactLinear_anns w_FnExactLinear_sig 20000 (x0.length + 10000000)) 20000 (entry w_FnExactLinear_sig 3 Try.f3 (bodyOf Try.f3) (x0, ()))).run = some r
  rw [w_FnExactLinear_begin]
  have e : (fun h => Om w_FnExactLinear_env w_FnExactLinear_anns w_FnExactLinear_sig 20000 (x0.length + 10000000) (w_FnExactLinear_cfg h)) = w_FnExactLinear_go (x0.length + 10000000) := funext fun h => w_FnExactLinear_run _ h
  rw [e]
  exact hr
end Go.Proofs.Ytmggpiijahiaiaa.Ev
/- The plain law FnExactLinear. -/
namespace Go.Proofs.Ytmggpiijahiaiaa.Ev
open Go Go.IntWalk
set_option linter.unusedVariables false
set_option linter.unusedSimpArgs false
theorem okL_len {l : List PastD} (h : okL l = true) : l.length ≤ 7 := by
  unfold okL at h
  rw [Bool.and_eq_true] at h
  simpa using h.2
def witM (l : List PastD) : Option (List Int × List AccountD) := if okL l = true then searchM l 100 [] [] else none
def witO : Option (List Int × List AccountD) → List Int × Bool
  | some r => (r.1, true)
  | none => ([], false)
theorem bookR_nil : bookR [] := fun a ha => by simp at ha
theorem inL_nil (l : List PastD) : inL l [] := fun a ha => by simp at ha
theorem iWit_d {l : List PastD} (hl : l.length ≤ 1048576) (hh : histR l) (d : Nat) (hd : l.length < d) : (i_search_fn d l [] ([], ())).bind (fun y1 => some ((y1.fst.fst, y1.fst.snd.fst, ()), ())) = some (((witO (searchM l d [] [])).1, (witO (searchM l d [] [])).2, ()), ()) := by
  rw [iSearch_ok hl hh d [] [] List.nodup_nil (inL_nil l) (by simpa using hd) (by simp) bookR_nil]
  generalize searchM l d [] [] = q
  cases q <;> rfl
theorem sWit_d {l : List PastD} (hl : l.length ≤ 1048576) (hh : histR l) (d : Nat) (hd : l.length < d) : (s_l17Search_fn d l (List.replicate 0 0) ([], ())).bind (fun y1 => some ((y1.fst.fst, y1.fst.snd.snd.fst, ()), ())) = some (((witO (searchM l d [] [])).1, (witO (searchM l d [] [])).2, ()), ()) := by
  rw [show List.replicate 0 (0 : Int) = [] from rfl, sSearch_ok hl hh d [] [] List.nodup_nil (inL_nil l) (by simpa using hd) (by simp) bookR_nil]
  generalize searchM l d [] [] = q
  cases q <;> rfl
theorem wit_yes {l : List PastD} (h : okL l = true) : witM l = searchM l 100 [] [] := if_pos h
theorem wit_no {l : List PastD} (h : ¬ okL l = true) : witM l = none := if_neg h
theorem neg_if {α : Type} {b : Bool} (h : b = true) (x y : α) : (if (!b) = true then x else y) = y := by subst h; rfl
theorem neg_if' {α : Type} {b : Bool} (h : ¬ b = true) (x y : α) : (if (!b) = true then x else y) = x := by rw [Bool.not_eq_true] at h; subst h; rfl
theorem iWitness_ok {l : List PastD} (hl : l.length ≤ 1048576) (hh : histR l) : i_witness_fn l = some (((witO (witM l)).1, (witO (witM l)).2, ()), ()) := by
  refine obind (isPast_ok hl) ?_
  by_cases h : okL l = true
  · rw [wit_yes h]
    exact (neg_if h _ _).trans (iWit_d hl hh 100 (by have := okL_len h; omega))
  · rw [wit_no h]
    exact neg_if' h _ _
theorem sWitness_ok {l : List PastD} (hl : l.length ≤ 1048576) (hh : histR l) : s_Witness_fn l = some (((witO (witM l)).1, (witO (witM l)).2, ()), ()) := by
  refine obind (sPastOk_ok hl) ?_
  by_cases h : okL l = true
  · rw [wit_yes h]
    exact (neg_if h _ _).trans (sWit_d hl hh 100 (by have := okL_len h; omega))
  · rw [wit_no h]
    exact neg_if' h _ _
theorem iLinear_ok {l : List PastD} (hl : l.length ≤ 1048576) (hh : histR l) : i_Linear_fn l = some ((witO (witM l)).2, ()) := by
  unfold i_Linear_fn i_Linear_k i_Linear_start
  rw [iWitness_ok hl hh]
  rfl
theorem sLinear_ok {l : List PastD} (hl : l.length ≤ 1048576) (hh : histR l) : s_Linear_fn l = some ((witO (witM l)).2, ()) := by
  unfold s_Linear_fn s_Linear_k s_Linear_start
  rw [sWitness_ok hl hh]
  rfl
theorem eBody {l : List PastD} {v : Bool} (hl : l.length ≤ 1048576) (hi : i_Linear_fn l = some (v, ())) (k : Nat) : w_FnExactLinear_go (k + 1) (.l0 l v) = some (true, ()) := by
  refine obind (toPastS_ok hl) ?_
  refine obind hi ?_
  refine (if_neg (by cases v <;> decide)).trans ?_
  refine obind (toPastS_ok hl) ?_
  refine obind (eqPastS_ok hl) ?_
  exact if_neg (by simp)
theorem eStart {l : List PastD} {v : Bool} {r : Int} (hr : w_szPastS_fn l 1048576 = some (r, ())) (hl : l.length ≤ 1048576) (h0 : ¬ r < 0) (hs : s_Linear_fn l = some (v, ())) (k : Nat) (body : w_FnExactLinear_go (k + 1) (.l0 l v) = some (true, ())) : w_FnExactLinear_start (w_FnExactLinear_go (k + 1)) l = some (true, ()) := by
  refine obind hr ?_
  refine (if_neg (by simpa using h0)).trans ?_
  refine obind (toPastS_ok hl) ?_
  refine obind hs ?_
  exact obind body rfl
theorem eStart0 {l : List PastD} {r : Int} (hr : w_szPastS_fn l 1048576 = some (r, ())) (h0 : r < 0) (k : Nat) : w_FnExactLinear_start (w_FnExactLinear_go (k + 1)) l = some (true, ()) := by
  refine obind hr ?_
  exact if_pos (by simpa using h0)
theorem eFn {l : List PastD} (e : ∀ k, w_FnExactLinear_start (w_FnExactLinear_go (k + 1)) l = some (true, ())) : w_FnExactLinear_fn l = some (true, ()) := by
  have := e (l.length + 9999999)
  rw [show l.length + 9999999 + 1 = l.length + 10000000 by omega] at this
  exact this
theorem exactLinear {l : List PastD} (h63 : l.length ≤ 9223372036854775807) (hh : histR l) : w_FnExactLinear_fn l = some (true, ()) := by
  obtain ⟨r, hr, hr2⟩ := szPastS_ok h63
  refine eFn fun k => ?_
  by_cases h0 : r < 0
  · exact eStart0 hr h0 k
  · have hl := hr2 (by omega)
    exact eStart hr hl h0 (sLinear_ok hl hh) k (eBody hl (iLinear_ok hl hh) k)
end Go.Proofs.Ytmggpiijahiaiaa.Ev
namespace Go.Proofs.Ytmggpiijahiaiaa.Ev
open Go
set_option linter.unusedVariables false
set_option linter.unusedSimpArgs false
set_option maxRecDepth 100000
def i_Witness_tab : TTab := [⟨4, .bool, 0⟩, ⟨25, (.slice tPast), 64⟩, ⟨29, (.slice (.int .i64)), 8⟩]
abbrev i_Witness_ps : List Par := [.lent (.slice tPast)]
abbrev i_Witness_outs : Outs := .many [(.own (.int .i64)), (.pure .bool)]
abbrev i_Witness_R : Type := (((List Int) × (Bool × Unit)) × Unit)
abbrev i_Witness_T : Ty := .pair (Outs.ty i_Witness_outs) (mutsTy i_Witness_ps)
noncomputable def i_Witness_env : Env := { tab := i_Witness_tab, fns := [(14, Try.f14)], sigs := [(36, i_witness_sig)] }
def i_Witness_anns : List Ann := []
inductive i_Witness_H where
  | none
noncomputable def i_Witness_cfg : i_Witness_H → Cfg
  | .none => { fr := { fn := 0, fb := 0, ss := [], todo := [] }, cs := [], ob := fun _ => none }
def i_Witness_body (rec : i_Witness_H → Option i_Witness_R) : i_Witness_H → Option i_Witness_R
  | .none => none
def i_Witness_start (rec : i_Witness_H → Option i_Witness_R) (x0 : (List PastD)) : Option i_Witness_R :=
  (i_witness_fn x0).bind fun y0 =>
    some ((y0.fst.fst, y0.fst.snd.fst, ()), ())
def i_Witness_go : Nat → i_Witness_H → Option i_Witness_R
  | 0, _ => none
  | k + 1, h => i_Witness_body (i_Witness_go k) h
def i_Witness_k (k : Nat) (x0 : (List PastD)) : Option i_Witness_R := i_Witness_start (i_Witness_go k) x0
def i_Witness_fn (x0 : (List PastD)) : Option i_Witness_R := i_Witness_k (1) x0
noncomputable def i_Witness_sig : Sig := { ps := i_Witness_ps, outs := i_Witness_outs, fn := fun x => i_Witness_fn (x.1) }
theorem i_Witness_begin_t (rec : Cfg → Option i_Witness_R) (x0 : (List PastD)) : Tr.k (ev i_Witness_env i_Witness_anns i_Witness_sig rec 20000 (entry i_Witness_sig 14 Try.f14 (bodyOf Try.f14) (x0, ()))) some = ((i_witness_fn x0).bind fun y0 => some ((y0.fst.fst, y0.fst.snd.fst, ()), ()) : Option i_Witness_R) := by kernel_rfl
theorem i_Witness_begin (rec : Cfg → Option i_Witness_sig.R.D) (x0 : (List PastD)) : (ev i_Witness_env i_Witness_anns i_Witness_sig rec 20000 (entry i_Witness_sig 14 Try.f14 (bodyOf Try.f14) (x0, ()))).run = i_Witness_start (fun h => rec (i_Witness_cfg h)) x0 := (Tr.k_some _).trans ((i_Witness_begin_t rec x0).trans (by first | rfl | (simp only [br_ite]; rfl)))
theorem i_Witness_tab_ok : i_Witness_tab.ok Try.prog = true := by decide +kernel
theorem i_Witness_env_ok : (i_Witness_env).Ok Try.prog where
  mixed := by decide +kernel
  tab := i_Witness_tab_ok
  fns := by
    intro p hp
    simp only [i_Witness_env, List.mem_cons, List.not_mem_nil, or_false] at hp
    subst hp
    · exact ⟨Try.func14, by decide +kernel⟩
  sigs := by
    intro p hp
    simp only [i_Witness_env, List.mem_cons, List.not_mem_nil, or_false] at hp
    subst hp
    · exact ⟨i_witness_meets, _, Try.func36, by decide +kernel⟩
  exts := by
    intro p hp
    simp only [i_Witness_env, List.mem_cons, List.not_mem_nil, or_false] at hp
theorem i_Witness_meets : Meets Try.prog 14 i_Witness_sig := by
  refine meets (anns := i_Witness_anns) (N := 20000) i_Witness_env_ok Try.func14 (body := bodyOf Try.f14) (by rfl) ?_
  rintro ⟨x0, ⟨⟩⟩ r hr
  refine ⟨1, ?_⟩
  show (ev i_Witness_env i_Witness_anns i_Witness_sig (Om i_Witness_env i_Witness_anns i_Witness_sig 20000 (1)) 20000 (entry i_Witness_sig 14 Try.f14 (bodyOf Try.f14) (x0, ()))).run = some r
  rw [i_Witness_begin]
  exact hr
end Go.Proofs.Ytmggpiijahiaiaa.Ev
namespace Go.Proofs.Ytmggpiijahiaiaa.Ev
open Go
set_option linter.unusedVariables false
set_option linter.unusedSimpArgs false
set_option maxRecDepth 100000
def w_markPastS_tab : TTab := [⟨3, (.int .i64), 0⟩, ⟨4, .bool, 0⟩, ⟨25, (.slice tPast), 64⟩, ⟨40, (.int .u64), 0⟩, ⟨42, tLedgerCall, 0⟩, ⟨44, tPast, 0⟩]
abbrev w_markPastS_ps : List Par := [.own tPast, .lent (.int .i64)]
abbrev w_markPastS_outs : Outs := .one (.pure (.int .i64))
abbrev w_markPastS_R : Type := (Int × Unit)
abbrev w_markPastS_T : Ty := .pair (Outs.ty w_markPastS_outs) (mutsTy w_markPastS_ps)
noncomputable def w_markPastS_env : Env := { tab := w_markPastS_tab, fns := [(16, Try.f16)], sigs := [] }
def w_markPastS_anns : List Ann := [⟨16, 2, [0, 1, 5], []⟩, ⟨16, 200007, [0, 1, 5], []⟩, ⟨16, 200011, [0, 1, 5], []⟩, ⟨16, 200015, [0, 1, 5], []⟩]
inductive w_markPastS_H where
  | l0 (v0 : Int) (v1 : Int) (v2 : List PastD)
  | l1 (v0 : Int) (v1 : Int) (v2 : List PastD)
  | l2 (v0 : Int) (v1 : Int) (v2 : List PastD)
  | l3 (v0 : Int) (v1 : Int) (v2 : List PastD)
noncomputable def w_markPastS_cfg : w_markPastS_H → Cfg
  | .l0 v0 v1 v2 => { fr := { fn := 16, fb := 0, ss := sl 77 [(0, (.row 0 0)), (1, (.pv false (.int .i64) v0)), (5, (.pv false (.int .i64) v1))], todo := todoAt (bodyOf Try.f16) [false, true, false, true] [] }, cs := [], ob := ofList [.row 0 false tPast v2] }
  | .l1 v0 v1 v2 => { fr := { fn := 16, fb := 0, ss := sl 77 [(0, (.row 0 0)), (1, (.pv false (.int .i64) v0)), (5, (.pv false (.int .i64) v1))], todo := cutAt (bodyOf Try.f16) [false, true, false, true, true, false, true, true, false, false, false, true] [] }, cs := [], ob := ofList [.row 0 false tPast v2] }
  | .l2 v0 v1 v2 => { fr := { fn := 16, fb := 0, ss := sl 77 [(0, (.row 0 0)), (1, (.pv false (.int .i64) v0)), (5, (.pv false (.int .i64) v1))], todo := cutAt (bodyOf Try.f16) [false, true, false, true, true, false, true, true, false, false, false, false, false, false, false, true] [] }, cs := [], ob := ofList [.row 0 false tPast v2] }
  | .l3 v0 v1 v2 => { fr := { fn := 16, fb := 0, ss := sl 77 [(0, (.row 0 0)), (1, (.pv false (.int .i64) v0)), (5, (.pv false (.int .i64) v1))], todo := cutAt (bodyOf Try.f16) [false, true, false, true, true, false, true, true, false, false, false, false, false, false, false, false, false, false, false, true] [] }, cs := [], ob := ofList [.row 0 false tPast v2] }
def w_markPastS_body (rec : w_markPastS_H → Option w_markPastS_R) : w_markPastS_H → Option w_markPastS_R
  | .l0 v0 v1 v2 =>
    if (decide (v1 < (↑v2.length : Int))) = true then
      if (decide (0 ≤ v1)) = true then
        if (decide (v1 < (↑v2.length : Int))) = true then
          if (decide (0 ≤ v1)) = true then
            if (decide (v1 < (↑(v2.set v1.toNat ((v0, (v2.getD v1.toNat ((0, 0, 0, 0, ()), 0, 0, 0, 0, ())).fst.snd), (v2.getD v1.toNat ((0, 0, 0, 0, ()), 0, 0, 0, 0, ())).snd)).length : Int))) = true then
              (rec (.l1 (IntKind.i64.wrap (v0 + 1)) (v1) ((v2.set v1.toNat ((v0, (v2.getD v1.toNat ((0, 0, 0, 0, ()), 0, 0, 0, 0, ())).fst.snd), (v2.getD v1.toNat ((0, 0, 0, 0, ()), 0, 0, 0, 0, ())).snd)).set v1.toNat ((((v2.set v1.toNat ((v0, (v2.getD v1.toNat ((0, 0, 0, 0, ()), 0, 0, 0, 0, ())).fst.snd), (v2.getD v1.toNat ((0, 0, 0, 0, ()), 0, 0, 0, 0, ())).snd)).getD v1.toNat ((0, 0, 0, 0, ()), 0, 0, 0, 0, ())).fst.fst, IntKind.u64.wrap (IntKind.i64.wrap (v0 + 1)), ((v2.set v1.toNat ((v0, (v2.getD v1.toNat ((0, 0, 0, 0, ()), 0, 0, 0, 0, ())).fst.snd), (v2.getD v1.toNat ((0, 0, 0, 0, ()), 0, 0, 0, 0, ())).snd)).getD v1.toNat ((0, 0, 0, 0, ()), 0, 0, 0, 0, ())).fst.snd.snd), ((v2.set v1.toNat ((v0, (v2.getD v1.toNat ((0, 0, 0, 0, ()), 0, 0, 0, 0, ())).fst.snd), (v2.getD v1.toNat ((0, 0, 0, 0, ()), 0, 0, 0, 0, ())).snd)).getD v1.toNat ((0, 0, 0, 0, ()), 0, 0, 0, 0, ())).snd)))).bind some
            else
              none
          else
            none
        else
          none
      else
        none
    else
      some (v0, ())
  | .l1 v0 v1 v2 =>
    if (decide (0 ≤ v1)) = true then
      if (decide (v1 < (↑v2.length : Int))) = true then
        if (decide (0 ≤ v1)) = true then
          if (decide (v1 < (↑(v2.set v1.toNat (((v2.getD v1.toNat ((0, 0, 0, 0, ()), 0, 0, 0, 0, ())).fst.fst, (v2.getD v1.toNat ((0, 0, 0, 0, ()), 0, 0, 0, 0, ())).fst.snd.fst, IntKind.u64.wrap (IntKind.i64.wrap (v0 + 1)), (v2.getD v1.toNat ((0, 0, 0, 0, ()), 0, 0, 0, 0, ())).fst.snd.snd.snd), (v2.getD v1.toNat ((0, 0, 0, 0, ()), 0, 0, 0, 0, ())).snd)).length : Int))) = true then
            (rec (.l2 (IntKind.i64.wrap (IntKind.i64.wrap (v0 + 1) + 1)) (v1) ((v2.set v1.toNat (((v2.getD v1.toNat ((0, 0, 0, 0, ()), 0, 0, 0, 0, ())).fst.fst, (v2.getD v1.toNat ((0, 0, 0, 0, ()), 0, 0, 0, 0, ())).fst.snd.fst, IntKind.u64.wrap (IntKind.i64.wrap (v0 + 1)), (v2.getD v1.toNat ((0, 0, 0, 0, ()), 0, 0, 0, 0, ())).fst.snd.snd.snd), (v2.getD v1.toNat ((0, 0, 0, 0, ()), 0, 0, 0, 0, ())).snd)).set v1.toNat ((((v2.set v1.toNat (((v2.getD v1.toNat ((0, 0, 0, 0, ()), 0, 0, 0, 0, ())).fst.fst, (v2.getD v1.toNat ((0, 0, 0, 0, ()), 0, 0, 0, 0, ())).fst.snd.fst, IntKind.u64.wrap (IntKind.i64.wrap (v0 + 1)), (v2.getD v1.toNat ((0, 0, 0, 0, ()), 0, 0, 0, 0, ())).fst.snd.snd.snd), (v2.getD v1.toNat ((0, 0, 0, 0, ()), 0, 0, 0, 0, ())).snd)).getD v1.toNat ((0, 0, 0, 0, ()), 0, 0, 0, 0, ())).fst.fst, ((v2.set v1.toNat (((v2.getD v1.toNat ((0, 0, 0, 0, ()), 0, 0, 0, 0, ())).fst.fst, (v2.getD v1.toNat ((0, 0, 0, 0, ()), 0, 0, 0, 0, ())).fst.snd.fst, IntKind.u64.wrap (IntKind.i64.wrap (v0 + 1)), (v2.getD v1.toNat ((0, 0, 0, 0, ()), 0, 0, 0, 0, ())).fst.snd.snd.snd), (v2.getD v1.toNat ((0, 0, 0, 0, ()), 0, 0, 0, 0, ())).snd)).getD v1.toNat ((0, 0, 0, 0, ()), 0, 0, 0, 0, ())).fst.snd.fst, ((v2.set v1.toNat (((v2.getD v1.toNat ((0, 0, 0, 0, ()), 0, 0, 0, 0, ())).fst.fst, (v2.getD v1.toNat ((0, 0, 0, 0, ()), 0, 0, 0, 0, ())).fst.snd.fst, IntKind.u64.wrap (IntKind.i64.wrap (v0 + 1)), (v2.getD v1.toNat ((0, 0, 0, 0, ()), 0, 0, 0, 0, ())).fst.snd.snd.snd), (v2.getD v1.toNat ((0, 0, 0, 0, ()), 0, 0, 0, 0, ())).snd)).getD v1.toNat ((0, 0, 0, 0, ()), 0, 0, 0, 0, ())).fst.snd.snd.fst, IntKind.u64.wrap (IntKind.i64.wrap (IntKind.i64.wrap (v0 + 1) + 1)), ((v2.set v1.toNat (((v2.getD v1.toNat ((0, 0, 0, 0, ()), 0, 0, 0, 0, ())).fst.fst, (v2.getD v1.toNat ((0, 0, 0, 0, ()), 0, 0, 0, 0, ())).fst.snd.fst, IntKind.u64.wrap (IntKind.i64.wrap (v0 + 1)), (v2.getD v1.toNat ((0, 0, 0, 0, ()), 0, 0, 0, 0, ())).fst.snd.snd.snd), (v2.getD v1.toNat ((0, 0, 0, 0, ()), 0, 0, 0, 0, ())).snd)).getD v1.toNat ((0, 0, 0, 0, ()), 0, 0, 0, 0, ())).fst.snd.snd.snd.snd), ((v2.set v1.toNat (((v2.getD v1.toNat ((0, 0, 0, 0, ()), 0, 0, 0, 0, ())).fst.fst, (v2.getD v1.toNat ((0, 0, 0, 0, ()), 0, 0, 0, 0, ())).fst.snd.fst, IntKind.u64.wrap (IntKind.i64.wrap (v0 + 1)), (v2.getD v1.toNat ((0, 0, 0, 0, ()), 0, 0, 0, 0, ())).fst.snd.snd.snd), (v2.getD v1.toNat ((0, 0, 0, 0, ()), 0, 0, 0, 0, ())).snd)).getD v1.toNat ((0, 0, 0, 0, ()), 0, 0, 0, 0, ())).snd)))).bind some
          else
            none
        else
          none
      else
        none
    else
      none
  | .l2 v0 v1 v2 =>
    if (decide (0 ≤ v1)) = true then
      if (decide (v1 < (↑v2.length : Int))) = true then
        if (decide (0 ≤ v1)) = true then
          if (decide (v1 < (↑(v2.set v1.toNat ((v2.getD v1.toNat ((0, 0, 0, 0, ()), 0, 0, 0, 0, ())).fst, IntKind.i64.wrap (v0 + 1), (v2.getD v1.toNat ((0, 0, 0, 0, ()), 0, 0, 0, 0, ())).snd.snd)).length : Int))) = true then
            (rec (.l3 (IntKind.i64.wrap (IntKind.i64.wrap (v0 + 1) + 1)) (v1) ((v2.set v1.toNat ((v2.getD v1.toNat ((0, 0, 0, 0, ()), 0, 0, 0, 0, ())).fst, IntKind.i64.wrap (v0 + 1), (v2.getD v1.toNat ((0, 0, 0, 0, ()), 0, 0, 0, 0, ())).snd.snd)).set v1.toNat (((v2.set v1.toNat ((v2.getD v1.toNat ((0, 0, 0, 0, ()), 0, 0, 0, 0, ())).fst, IntKind.i64.wrap (v0 + 1), (v2.getD v1.toNat ((0, 0, 0, 0, ()), 0, 0, 0, 0, ())).snd.snd)).getD v1.toNat ((0, 0, 0, 0, ()), 0, 0, 0, 0, ())).fst, ((v2.set v1.toNat ((v2.getD v1.toNat ((0, 0, 0, 0, ()), 0, 0, 0, 0, ())).fst, IntKind.i64.wrap (v0 + 1), (v2.getD v1.toNat ((0, 0, 0, 0, ()), 0, 0, 0, 0, ())).snd.snd)).getD v1.toNat ((0, 0, 0, 0, ()), 0, 0, 0, 0, ())).snd.fst, IntKind.i64.wrap (IntKind.i64.wrap (v0 + 1) + 1), ((v2.set v1.toNat ((v2.getD v1.toNat ((0, 0, 0, 0, ()), 0, 0, 0, 0, ())).fst, IntKind.i64.wrap (v0 + 1), (v2.getD v1.toNat ((0, 0, 0, 0, ()), 0, 0, 0, 0, ())).snd.snd)).getD v1.toNat ((0, 0, 0, 0, ()), 0, 0, 0, 0, ())).snd.snd.snd)))).bind some
          else
            none
        else
          none
      else
        none
    else
      none
  | .l3 v0 v1 v2 =>
    if (decide (0 ≤ v1)) = true then
      if (decide (v1 < (↑v2.length : Int))) = true then
        if (decide (0 ≤ v1)) = true then
          if (decide (v1 < (↑(v2.set v1.toNat ((v2.getD v1.toNat ((0, 0, 0, 0, ()), 0, 0, 0, 0, ())).fst, (v2.getD v1.toNat ((0, 0, 0, 0, ()), 0, 0, 0, 0, ())).snd.fst, (v2.getD v1.toNat ((0, 0, 0, 0, ()), 0, 0, 0, 0, ())).snd.snd.fst, IntKind.i64.wrap (v0 + 1), (v2.getD v1.toNat ((0, 0, 0, 0, ()), 0, 0, 0, 0, ())).snd.snd.snd.snd)).length : Int))) = true then
            (rec (.l0 (IntKind.i64.wrap (IntKind.i64.wrap (IntKind.i64.wrap (v0 + 1) + 1) + 1)) (IntKind.i64.wrap (v1 + 1)) ((v2.set v1.toNat ((v2.getD v1.toNat ((0, 0, 0, 0, ()), 0, 0, 0, 0, ())).fst, (v2.getD v1.toNat ((0, 0, 0, 0, ()), 0, 0, 0, 0, ())).snd.fst, (v2.getD v1.toNat ((0, 0, 0, 0, ()), 0, 0, 0, 0, ())).snd.snd.fst, IntKind.i64.wrap (v0 + 1), (v2.getD v1.toNat ((0, 0, 0, 0, ()), 0, 0, 0, 0, ())).snd.snd.snd.snd)).set v1.toNat (((v2.set v1.toNat ((v2.getD v1.toNat ((0, 0, 0, 0, ()), 0, 0, 0, 0, ())).fst, (v2.getD v1.toNat ((0, 0, 0, 0, ()), 0, 0, 0, 0, ())).snd.fst, (v2.getD v1.toNat ((0, 0, 0, 0, ()), 0, 0, 0, 0, ())).snd.snd.fst, IntKind.i64.wrap (v0 + 1), (v2.getD v1.toNat ((0, 0, 0, 0, ()), 0, 0, 0, 0, ())).snd.snd.snd.snd)).getD v1.toNat ((0, 0, 0, 0, ()), 0, 0, 0, 0, ())).fst, ((v2.set v1.toNat ((v2.getD v1.toNat ((0, 0, 0, 0, ()), 0, 0, 0, 0, ())).fst, (v2.getD v1.toNat ((0, 0, 0, 0, ()), 0, 0, 0, 0, ())).snd.fst, (v2.getD v1.toNat ((0, 0, 0, 0, ()), 0, 0, 0, 0, ())).snd.snd.fst, IntKind.i64.wrap (v0 + 1), (v2.getD v1.toNat ((0, 0, 0, 0, ()), 0, 0, 0, 0, ())).snd.snd.snd.snd)).getD v1.toNat ((0, 0, 0, 0, ()), 0, 0, 0, 0, ())).snd.fst, ((v2.set v1.toNat ((v2.getD v1.toNat ((0, 0, 0, 0, ()), 0, 0, 0, 0, ())).fst, (v2.getD v1.toNat ((0, 0, 0, 0, ()), 0, 0, 0, 0, ())).snd.fst, (v2.getD v1.toNat ((0, 0, 0, 0, ()), 0, 0, 0, 0, ())).snd.snd.fst, IntKind.i64.wrap (v0 + 1), (v2.getD v1.toNat ((0, 0, 0, 0, ()), 0, 0, 0, 0, ())).snd.snd.snd.snd)).getD v1.toNat ((0, 0, 0, 0, ()), 0, 0, 0, 0, ())).snd.snd.fst, ((v2.set v1.toNat ((v2.getD v1.toNat ((0, 0, 0, 0, ()), 0, 0, 0, 0, ())).fst, (v2.getD v1.toNat ((0, 0, 0, 0, ()), 0, 0, 0, 0, ())).snd.fst, (v2.getD v1.toNat ((0, 0, 0, 0, ()), 0, 0, 0, 0, ())).snd.snd.fst, IntKind.i64.wrap (v0 + 1), (v2.getD v1.toNat ((0, 0, 0, 0, ()), 0, 0, 0, 0, ())).snd.snd.snd.snd)).getD v1.toNat ((0, 0, 0, 0, ()), 0, 0, 0, 0, ())).snd.snd.snd.fst, IntKind.u64.wrap (IntKind.i64.wrap (IntKind.i64.wrap (v0 + 1) + 1)), ((v2.set v1.toNat ((v2.getD v1.toNat ((0, 0, 0, 0, ()), 0, 0, 0, 0, ())).fst, (v2.getD v1.toNat ((0, 0, 0, 0, ()), 0, 0, 0, 0, ())).snd.fst, (v2.getD v1.toNat ((0, 0, 0, 0, ()), 0, 0, 0, 0, ())).snd.snd.fst, IntKind.i64.wrap (v0 + 1), (v2.getD v1.toNat ((0, 0, 0, 0, ()), 0, 0, 0, 0, ())).snd.snd.snd.snd)).getD v1.toNat ((0, 0, 0, 0, ()), 0, 0, 0, 0, ())).snd.snd.snd.snd.snd)))).bind some
          else
            none
        else
          none
      else
        none
    else
      none
def w_markPastS_start (rec : w_markPastS_H → Option w_markPastS_R) (x0 : (List PastD)) (x1 : Int) : Option w_markPastS_R :=
  (rec (.l0 (x1) (0) (x0))).bind some
def w_markPastS_go : Nat → w_markPastS_H → Option w_markPastS_R
  | 0, _ => none
  | k + 1, h => w_markPastS_body (w_markPastS_go k) h
def w_markPastS_k (k : Nat) (x0 : (List PastD)) (x1 : Int) : Option w_markPastS_R := w_markPastS_start (w_markPastS_go k) x0 x1
def w_markPastS_fn (x0 : (List PastD)) (x1 : Int) : Option w_markPastS_R := w_markPastS_k (x0.length + 10000000) x0 x1
noncomputable def w_markPastS_sig : Sig := { ps := w_markPastS_ps, outs := w_markPastS_outs, fn := fun x => w_markPastS_fn (x.1) (x.2.1) }
theorem w_markPastS_l0_t (rec : Cfg → Option w_markPastS_R) (v0 : Int) (v1 : Int) (v2 : List PastD) : Tr.k (ev w_markPastS_env w_markPastS_anns w_markPastS_sig rec 20000 (w_markPastS_cfg (.l0 v0 v1 v2))) some = (br (decide (v1 < (↑v2.length : Int))) (br (decide (0 ≤ v1)) (br (decide (v1 < (↑v2.length : Int))) (br (decide (0 ≤ v1)) (br (decide (v1 < (↑(v2.set v1.toNat ((v0, (v2.getD v1.toNat ((0, 0, 0, 0, ()), 0, 0, 0, 0, ())).fst.snd), (v2.getD v1.toNat ((0, 0, 0, 0, ()), 0, 0, 0, 0, ())).snd)).length : Int))) ((rec (w_markPastS_cfg (.l1 (IntKind.i64.wrap (v0 + 1)) (v1) ((v2.set v1.toNat ((v0, (v2.getD v1.toNat ((0, 0, 0, 0, ()), 0, 0, 0, 0, ())).fst.snd), (v2.getD v1.toNat ((0, 0, 0, 0, ()), 0, 0, 0, 0, ())).snd)).set v1.toNat ((((v2.set v1.toNat ((v0, (v2.getD v1.toNat ((0, 0, 0, 0, ()), 0, 0, 0, 0, ())).fst.snd), (v2.getD v1.toNat ((0, 0, 0, 0, ()), 0, 0, 0, 0, ())).snd)).getD v1.toNat ((0, 0, 0, 0, ()), 0, 0, 0, 0, ())).fst.fst, IntKind.u64.wrap (IntKind.i64.wrap (v0 + 1)), ((v2.set v1.toNat ((v0, (v2.getD v1.toNat ((0, 0, 0, 0, ()), 0, 0, 0, 0, ())).fst.snd), (v2.getD v1.toNat ((0, 0, 0, 0, ()), 0, 0, 0, 0, ())).snd)).getD v1.toNat ((0, 0, 0, 0, ()), 0, 0, 0, 0, ())).fst.snd.snd), ((v2.set v1.toNat ((v0, (v2.getD v1.toNat ((0, 0, 0, 0, ()), 0, 0, 0, 0, ())).fst.snd), (v2.getD v1.toNat ((0, 0, 0, 0, ()), 0, 0, 0, 0, ())).snd)).getD v1.toNat ((0, 0, 0, 0, ()), 0, 0, 0, 0, ())).snd))))).bind some) (none)) (none)) (none)) (none)) (some (v0, ())) : Option w_markPastS_R) := by kernel_rfl
theorem w_markPastS_l0 (rec : Cfg → Option w_markPastS_sig.R.D) (v0 : Int) (v1 : Int) (v2 : List PastD) : (ev w_markPastS_env w_markPastS_anns w_markPastS_sig rec 20000 (w_markPastS_cfg (.l0 v0 v1 v2))).run = w_markPastS_body (fun h => rec (w_markPastS_cfg h)) (.l0 v0 v1 v2) := (Tr.k_some _).trans ((w_markPastS_l0_t rec v0 v1 v2).trans (by first | rfl | (simp only [br_ite]; rfl)))
theorem w_markPastS_l1_t (rec : Cfg → Option w_markPastS_R) (v0 : Int) (v1 : Int) (v2 : List PastD) : Tr.k (ev w_markPastS_env w_markPastS_anns w_markPastS_sig rec 20000 (w_markPastS_cfg (.l1 v0 v1 v2))) some = (br (decide (0 ≤ v1)) (br (decide (v1 < (↑v2.length : Int))) (br (decide (0 ≤ v1)) (br (decide (v1 < (↑(v2.set v1.toNat (((v2.getD v1.toNat ((0, 0, 0, 0, ()), 0, 0, 0, 0, ())).fst.fst, (v2.getD v1.toNat ((0, 0, 0, 0, ()), 0, 0, 0, 0, ())).fst.snd.fst, IntKind.u64.wrap (IntKind.i64.wrap (v0 + 1)), (v2.getD v1.toNat ((0, 0, 0, 0, ()), 0, 0, 0, 0, ())).fst.snd.snd.snd), (v2.getD v1.toNat ((0, 0, 0, 0, ()), 0, 0, 0, 0, ())).snd)).length : Int))) ((rec (w_markPastS_cfg (.l2 (IntKind.i64.wrap (IntKind.i64.wrap (v0 + 1) + 1)) (v1) ((v2.set v1.toNat (((v2.getD v1.toNat ((0, 0, 0, 0, ()), 0, 0, 0, 0, ())).fst.fst, (v2.getD v1.toNat ((0, 0, 0, 0, ()), 0, 0, 0, 0, ())).fst.snd.fst, IntKind.u64.wrap (IntKind.i64.wrap (v0 + 1)), (v2.getD v1.toNat ((0, 0, 0, 0, ()), 0, 0, 0, 0, ())).fst.snd.snd.snd), (v2.getD v1.toNat ((0, 0, 0, 0, ()), 0, 0, 0, 0, ())).snd)).set v1.toNat ((((v2.set v1.toNat (((v2.getD v1.toNat ((0, 0, 0, 0, ()), 0, 0, 0, 0, ())).fst.fst, (v2.getD v1.toNat ((0, 0, 0, 0, ()), 0, 0, 0, 0, ())).fst.snd.fst, IntKind.u64.wrap (IntKind.i64.wrap (v0 + 1)), (v2.getD v1.toNat ((0, 0, 0, 0, ()), 0, 0, 0, 0, ())).fst.snd.snd.snd), (v2.getD v1.toNat ((0, 0, 0, 0, ()), 0, 0, 0, 0, ())).snd)).getD v1.toNat ((0, 0, 0, 0, ()), 0, 0, 0, 0, ())).fst.fst, ((v2.set v1.toNat (((v2.getD v1.toNat ((0, 0, 0, 0, ()), 0, 0, 0, 0, ())).fst.fst, (v2.getD v1.toNat ((0, 0, 0, 0, ()), 0, 0, 0, 0, ())).fst.snd.fst, IntKind.u64.wrap (IntKind.i64.wrap (v0 + 1)), (v2.getD v1.toNat ((0, 0, 0, 0, ()), 0, 0, 0, 0, ())).fst.snd.snd.snd), (v2.getD v1.toNat ((0, 0, 0, 0, ()), 0, 0, 0, 0, ())).snd)).getD v1.toNat ((0, 0, 0, 0, ()), 0, 0, 0, 0, ())).fst.snd.fst, ((v2.set v1.toNat (((v2.getD v1.toNat ((0, 0, 0, 0, ()), 0, 0, 0, 0, ())).fst.fst, (v2.getD v1.toNat ((0, 0, 0, 0, ()), 0, 0, 0, 0, ())).fst.snd.fst, IntKind.u64.wrap (IntKind.i64.wrap (v0 + 1)), (v2.getD v1.toNat ((0, 0, 0, 0, ()), 0, 0, 0, 0, ())).fst.snd.snd.snd), (v2.getD v1.toNat ((0, 0, 0, 0, ()), 0, 0, 0, 0, ())).snd)).getD v1.toNat ((0, 0, 0, 0, ()), 0, 0, 0, 0, ())).fst.snd.snd.fst, IntKind.u64.wrap (IntKind.i64.wrap (IntKind.i64.wrap (v0 + 1) + 1)), ((v2.set v1.toNat (((v2.getD v1.toNat ((0, 0, 0, 0, ()), 0, 0, 0, 0, ())).fst.fst, (v2.getD v1.toNat ((0, 0, 0, 0, ()), 0, 0, 0, 0, ())).fst.snd.fst, IntKind.u64.wrap (IntKind.i64.wrap (v0 + 1)), (v2.getD v1.toNat ((0, 0, 0, 0, ()), 0, 0, 0, 0, ())).fst.snd.snd.snd), (v2.getD v1.toNat ((0, 0, 0, 0, ()), 0, 0, 0, 0, ())).snd)).getD v1.toNat ((0, 0, 0, 0, ()), 0, 0, 0, 0, ())).fst.snd.snd.snd.snd), ((v2.set v1.toNat (((v2.getD v1.toNat ((0, 0, 0, 0, ()), 0, 0, 0, 0, ())).fst.fst, (v2.getD v1.toNat ((0, 0, 0, 0, ()), 0, 0, 0, 0, ())).fst.snd.fst, IntKind.u64.wrap (IntKind.i64.wrap (v0 + 1)), (v2.getD v1.toNat ((0, 0, 0, 0, ()), 0, 0, 0, 0, ())).fst.snd.snd.snd), (v2.getD v1.toNat ((0, 0, 0, 0, ()), 0, 0, 0, 0, ())).snd)).getD v1.toNat ((0, 0, 0, 0, ()), 0, 0, 0, 0, ())).snd))))).bind some) (none)) (none)) (none)) (none) : Option w_markPastS_R) := by kernel_rfl
theorem w_markPastS_l1 (rec : Cfg → Option w_markPastS_sig.R.D) (v0 : Int) (v1 : Int) (v2 : List PastD) : (ev w_markPastS_env w_markPastS_anns w_markPastS_sig rec 20000 (w_markPastS_cfg (.l1 v0 v1 v2))).run = w_markPastS_body (fun h => rec (w_markPastS_cfg h)) (.l1 v0 v1 v2) := (Tr.k_some _).trans ((w_markPastS_l1_t rec v0 v1 v2).trans (by first | rfl | (simp only [br_ite]; rfl)))
theorem w_markPastS_l2_t (rec : Cfg → Option w_markPastS_R) (v0 : Int) (v1 : Int) (v2 : List PastD) : Tr.k (ev w_markPastS_env w_markPastS_anns w_markPastS_sig rec 20000 (w_markPastS_cfg (.l2 v0 v1 v2))) some = (br (decide (0 ≤ v1)) (br (decide (v1 < (↑v2.length : Int))) (br (decide (0 ≤ v1)) (br (decide (v1 < (↑(v2.set v1.toNat ((v2.getD v1.toNat ((0, 0, 0, 0, ()), 0, 0, 0, 0, ())).fst, IntKind.i64.wrap (v0 + 1), (v2.getD v1.toNat ((0, 0, 0, 0, ()), 0, 0, 0, 0, ())).snd.snd)).length : Int))) ((rec (w_markPastS_cfg (.l3 (IntKind.i64.wrap (IntKind.i64.wrap (v0 + 1) + 1)) (v1) ((v2.set v1.toNat ((v2.getD v1.toNat ((0, 0, 0, 0, ()), 0, 0, 0, 0, ())).fst, IntKind.i64.wrap (v0 + 1), (v2.getD v1.toNat ((0, 0, 0, 0, ()), 0, 0, 0, 0, ())).snd.snd)).set v1.toNat (((v2.set v1.toNat ((v2.getD v1.toNat ((0, 0, 0, 0, ()), 0, 0, 0, 0, ())).fst, IntKind.i64.wrap (v0 + 1), (v2.getD v1.toNat ((0, 0, 0, 0, ()), 0, 0, 0, 0, ())).snd.snd)).getD v1.toNat ((0, 0, 0, 0, ()), 0, 0, 0, 0, ())).fst, ((v2.set v1.toNat ((v2.getD v1.toNat ((0, 0, 0, 0, ()), 0, 0, 0, 0, ())).fst, IntKind.i64.wrap (v0 + 1), (v2.getD v1.toNat ((0, 0, 0, 0, ()), 0, 0, 0, 0, ())).snd.snd)).getD v1.toNat ((0, 0, 0, 0, ()), 0, 0, 0, 0, ())).snd.fst, IntKind.i64.wrap (IntKind.i64.wrap (v0 + 1) + 1), ((v2.set v1.toNat ((v2.getD v1.toNat ((0, 0, 0, 0, ()), 0, 0, 0, 0, ())).fst, IntKind.i64.wrap (v0 + 1), (v2.getD v1.toNat ((0, 0, 0, 0, ()), 0, 0, 0, 0, ())).snd.snd)).getD v1.toNat ((0, 0, 0, 0, ()), 0, 0, 0, 0, ())).snd.snd.snd))))).bind some) (none)) (none)) (none)) (none) : Option w_markPastS_R) := by kernel_rfl
theorem w_markPastS_l2 (rec : Cfg → Option w_markPastS_sig.R.D) (v0 : Int) (v1 : Int) (v2 : List PastD) : (ev w_markPastS_env w_markPastS_anns w_markPastS_sig rec 20000 (w_markPastS_cfg (.l2 v0 v1 v2))).run = w_markPastS_body (fun h => rec (w_markPastS_cfg h)) (.l2 v0 v1 v2) := (Tr.k_some _).trans ((w_markPastS_l2_t rec v0 v1 v2).trans (by first | rfl | (simp only [br_ite]; rfl)))
theorem w_markPastS_l3_t (rec : Cfg → Option w_markPastS_R) (v0 : Int) (v1 : Int) (v2 : List PastD) : Tr.k (ev w_markPastS_env w_markPastS_anns w_markPastS_sig rec 20000 (w_markPastS_cfg (.l3 v0 v1 v2))) some = (br (decide (0 ≤ v1)) (br (decide (v1 < (↑v2.length : Int))) (br (decide (0 ≤ v1)) (br (decide (v1 < (↑(v2.set v1.toNat ((v2.getD v1.toNat ((0, 0, 0, 0, ()), 0, 0, 0, 0, ())).fst, (v2.getD v1.toNat ((0, 0, 0, 0, ()), 0, 0, 0, 0, ())).snd.fst, (v2.getD v1.toNat ((0, 0, 0, 0, ()), 0, 0, 0, 0, ())).snd.snd.fst, IntKind.i64.wrap (v0 + 1), (v2.getD v1.toNat ((0, 0, 0, 0, ()), 0, 0, 0, 0, ())).snd.snd.snd.snd)).length : Int))) ((rec (w_markPastS_cfg (.l0 (IntKind.i64.wrap (IntKind.i64.wrap (IntKind.i64.wrap (v0 + 1) + 1) + 1)) (IntKind.i64.wrap (v1 + 1)) ((v2.set v1.toNat ((v2.getD v1.toNat ((0, 0, 0, 0, ()), 0, 0, 0, 0, ())).fst, (v2.getD v1.toNat ((0, 0, 0, 0, ()), 0, 0, 0, 0, ())).snd.fst, (v2.getD v1.toNat ((0, 0, 0, 0, ()), 0, 0, 0, 0, ())).snd.snd.fst, IntKind.i64.wrap (v0 + 1), (v2.getD v1.toNat ((0, 0, 0, 0, ()), 0, 0, 0, 0, ())).snd.snd.snd.snd)).set v1.toNat (((v2.set v1.toNat ((v2.getD v1.toNat ((0, 0, 0, 0, ()), 0, 0, 0, 0, ())).fst, (v2.getD v1.toNat ((0, 0, 0, 0, ()), 0, 0, 0, 0, ())).snd.fst, (v2.getD v1.toNat ((0, 0, 0, 0, ()), 0, 0, 0, 0, ())).snd.snd.fst, IntKind.i64.wrap (v0 + 1), (v2.getD v1.toNat ((0, 0, 0, 0, ()), 0, 0, 0, 0, ())).snd.snd.snd.snd)).getD v1.toNat ((0, 0, 0, 0, ()), 0, 0, 0, 0, ())).fst, ((v2.set v1.toNat ((v2.getD v1.toNat ((0, 0, 0, 0, ()), 0, 0, 0, 0, ())).fst, (v2.getD v1.toNat ((0, 0, 0, 0, ()), 0, 0, 0, 0, ())).snd.fst, (v2.getD v1.toNat ((0, 0, 0, 0, ()), 0, 0, 0, 0, ())).snd.snd.fst, IntKind.i64.wrap (v0 + 1), (v2.getD v1.toNat ((0, 0, 0, 0, ()), 0, 0, 0, 0, ())).snd.snd.snd.snd)).getD v1.toNat ((0, 0, 0, 0, ()), 0, 0, 0, 0, ())).snd.fst, ((v2.set v1.toNat ((v2.getD v1.toNat ((0, 0, 0, 0, ()), 0, 0, 0, 0, ())).fst, (v2.getD v1.toNat ((0, 0, 0, 0, ()), 0, 0, 0, 0, ())).snd.fst, (v2.getD v1.toNat ((0, 0, 0, 0, ()), 0, 0, 0, 0, ())).snd.snd.fst, IntKind.i64.wrap (v0 + 1), (v2.getD v1.toNat ((0, 0, 0, 0, ()), 0, 0, 0, 0, ())).snd.snd.snd.snd)).getD v1.toNat ((0, 0, 0, 0, ()), 0, 0, 0, 0, ())).snd.snd.fst, ((v2.set v1.toNat ((v2.getD v1.toNat ((0, 0, 0, 0, ()), 0, 0, 0, 0, ())).fst, (v2.getD v1.toNat ((0, 0, 0, 0, ()), 0, 0, 0, 0, ())).snd.fst, (v2.getD v1.toNat ((0, 0, 0, 0, ()), 0, 0, 0, 0, ())).snd.snd.fst, IntKind.i64.wrap (v0 + 1), (v2.getD v1.toNat ((0, 0, 0, 0, ()), 0, 0, 0, 0, ())).snd.snd.snd.snd)).getD v1.toNat ((0, 0, 0, 0, ()), 0, 0, 0, 0, ())).snd.snd.snd.fst, IntKind.u64.wrap (IntKind.i64.wrap (IntKind.i64.wrap (v0 + 1) + 1)), ((v2.set v1.toNat ((v2.getD v1.toNat ((0, 0, 0, 0, ()), 0, 0, 0, 0, ())).fst, (v2.getD v1.toNat ((0, 0, 0, 0, ()), 0, 0, 0, 0, ())).snd.fst, (v2.getD v1.toNat ((0, 0, 0, 0, ()), 0, 0, 0, 0, ())).snd.snd.fst, IntKind.i64.wrap (v0 + 1), (v2.getD v1.toNat ((0, 0, 0, 0, ()), 0, 0, 0, 0, ())).snd.snd.snd.snd)).getD v1.toNat ((0, 0, 0, 0, ()), 0, 0, 0, 0, ())).snd.snd.snd.snd.snd))))).bind some) (none)) (none)) (none)) (none) : Option w_markPastS_R) := by kernel_rfl
theorem w_markPastS_l3 (rec : Cfg → Option w_markPastS_sig.R.D) (v0 : Int) (v1 : Int) (v2 : List PastD) : (ev w_markPastS_env w_markPastS_anns w_markPastS_sig rec 20000 (w_markPastS_cfg (.l3 v0 v1 v2))).run = w_markPastS_body (fun h => rec (w_markPastS_cfg h)) (.l3 v0 v1 v2) := (Tr.k_some _).trans ((w_markPastS_l3_t rec v0 v1 v2).trans (by first | rfl | (simp only [br_ite]; rfl)))
theorem w_markPastS_begin_t (rec : Cfg → Option w_markPastS_R) (x0 : (List PastD)) (x1 : Int) : Tr.k (ev w_markPastS_env w_markPastS_anns w_markPastS_sig rec 20000 (entry w_markPastS_sig 16 Try.f16 (bodyOf Try.f16) (x0, x1, ()))) some = ((rec (w_markPastS_cfg (.l0 (x1) (0) (x0)))).bind some : Option w_markPastS_R) := by kernel_rfl
theorem w_markPastS_begin (rec : Cfg → Option w_markPastS_sig.R.D) (x0 : (List PastD)) (x1 : Int) : (ev w_markPastS_env w_markPastS_anns w_markPastS_sig rec 20000 (entry w_markPastS_sig 16 Try.f16 (bodyOf Try.f16) (x0, x1, ()))).run = w_markPastS_start (fun h => rec (w_markPastS_cfg h)) x0 x1 := (Tr.k_some _).trans ((w_markPastS_begin_t rec x0 x1).trans (by first | rfl | (simp only [br_ite]; rfl)))
theorem w_markPastS_tab_ok : w_markPastS_tab.ok Try.prog = true := by decide +kernel
theorem w_markPastS_env_ok : (w_markPastS_env).Ok Try.prog where
  mixed := by decide +kernel
  tab := w_markPastS_tab_ok
  fns := by
    intro p hp
    simp only [w_markPastS_env, List.mem_cons, List.not_mem_nil, or_false] at hp
    subst hp
    · exact ⟨Try.func16, by decide +kernel⟩
  sigs := by
    intro p hp
    simp only [w_markPastS_env, List.mem_cons, List.not_mem_nil, or_false] at hp
  exts := by
    intro p hp
    simp only [w_markPastS_env, List.mem_cons, List.not_mem_nil, or_false] at hp
theorem w_markPastS_run (k : Nat) (h : w_markPastS_H) : Om w_markPastS_env w_markPastS_anns w_markPastS_sig 20000 k (w_markPastS_cfg h) = w_markPastS_go k h :=
  Om_go (sg := w_markPastS_sig) (cfg := w_markPastS_cfg) (body := w_markPastS_body) (go := w_markPastS_go) (fun _ => rfl) (fun _ _ => rfl) (fun rec h => by
  cases h with
  | l0 v0 v1 v2 => exact w_markPastS_l0 rec v0 v1 v2
  | l1 v0 v1 v2 => exact w_markPastS_l1 rec v0 v1 v2
  | l2 v0 v1 v2 => exact w_markPastS_l2 rec v0 v1 v2
  | l3 v0 v1 v2 => exact w_markPastS_l3 rec v0 v1 v2) k h
theorem w_markPastS_meets : Meets Try.prog 16 w_markPastS_sig := by
  refine meets (anns := w_markPastS_anns) (N := 20000) w_markPastS_env_ok Try.func16 (body := bodyOf Try.f16) (by rfl) ?_
  rintro ⟨x0, x1, ⟨⟩⟩ r hr
  refine ⟨x0.length + 10000000, ?_⟩
  show (ev w_markPastS_env w_markPastS_anns w_markPastS_sig (Om w_markPastS_env w_markPastS_anns w_markPastS_sig 20000 (x0.length + 10000000)) 20000 (entry w_markPastS_sig 16 Try.f16 (bodyOf Try.f16) (x0, x1, ()))).run = some r
  rw [w_markPastS_begin]
  have e : (fun h => Om w_markPastS_env w_markPastS_anns w_markPastS_sig 20000 (x0.length + 10000000) (w_markPastS_cfg h)) = w_markPastS_go (x0.length + 10000000) := funext fun h => w_markPastS_run _ h
  rw [e]
  exact hr
end Go.Proofs.Ytmggpiijahiaiaa.Ev
namespace Go.Proofs.Ytmggpiijahiaiaa.Ev
open Go
set_option linter.unusedVariables false
set_option linter.unusedSimpArgs false
set_option maxRecDepth 100000
def w_FnExactWitness_tab : TTab := [⟨3, (.int .i64), 0⟩, ⟨4, .bool, 0⟩, ⟨22, (.slice tPast), 64⟩, ⟨25, (.slice tPast), 64⟩, ⟨29, (.slice (.int .i64)), 8⟩]
abbrev w_FnExactWitness_ps : List Par := [.lent (.slice tPast)]
abbrev w_FnExactWitness_outs : Outs := .one (.pure .bool)
abbrev w_FnExactWitness_R : Type := (Bool × Unit)
abbrev w_FnExactWitness_T : Ty := .pair (Outs.ty w_FnExactWitness_outs) (mutsTy w_FnExactWitness_ps)
noncomputable def w_FnExactWitness_env : Env := { tab := w_FnExactWitness_tab, fns := [(4, Try.f4), (17, Try.f17)], sigs := [(8, w_szPastS_sig), (10, w_toPastS_sig), (12, w_eqPastS_sig), (13, s_Witness_sig), (14, i_Witness_sig), (15, w_eqIntS_sig), (16, w_markPastS_sig), (18, w_heldIntS_sig)] }
def w_FnExactWitness_anns : List Ann := [⟨4, 100061, [0, 4, 5, 7, 61], []⟩, ⟨4, 200006, [0, 4, 5], []⟩, ⟨4, 200010, [0, 4, 5, 6, 7, 8], []⟩, ⟨4, 200014, [0, 4, 5, 7, 8, 9], []⟩, ⟨4, 200025, [4, 5, 7, 10, 12, 13], []⟩, ⟨4, 200027, [7, 10], []⟩, ⟨4, 300016, [0], []⟩, ⟨4, 300021, [0], []⟩, ⟨4, 300022, [0], []⟩, ⟨4, 300026, [0, 4, 5], []⟩, ⟨4, 300029, [0, 4, 5, 6], []⟩, ⟨4, 300034, [0, 4, 5, 6, 7, 8], []⟩, ⟨4, 300043, [0, 4, 5, 6, 7, 8, 41], []⟩, ⟨4, 300044, [0, 4, 5, 6, 7, 8], []⟩, ⟨4, 300048, [0, 4, 5, 7, 8], []⟩, ⟨4, 300054, [0, 4, 5, 7, 8, 51], []⟩, ⟨4, 300064, [0, 4, 5, 7], []⟩, ⟨4, 300067, [0, 4, 5, 7, 10], []⟩, ⟨4, 300075, [4, 5, 7, 10], []⟩, ⟨4, 300076, [4, 5, 7, 10], []⟩, ⟨4, 300081, [5, 7, 10, 13], []⟩, ⟨4, 300090, [10], []⟩, ⟨17, 2, [0, 1, 5], []⟩]
inductive w_FnExactWitness_H where
  | l0 (v0 : List PastD) (v1 : Bool) (v2 : List Int)
  | l1 (v0 : List PastD) (v1 : Bool) (v2 : Bool) (v3 : List Int) (v4 : List PastD) (v5 : List Int)
  | l2 (v0 : List PastD) (v1 : Bool) (v2 : Bool) (v3 : Int) (v4 : List Int) (v5 : List Int)
  | l3 (v0 : List PastD) (v1 : Bool) (v2 : Bool) (v3 : List Int) (v4 : List Int)
  | l4 (v0 : Int) (v1 : Int) (v2 : List PastD) (v3 : Bool) (v4 : List Int) (v5 : List Int)
  | l5 (v0 : Bool) (v1 : Int) (v2 : Bool) (v3 : List Int) (v4 : List Int) (v5 : List Int)
  | l6 (v0 : Int) (v1 : List Int)
noncomputable def w_FnExactWitness_cfg : w_FnExactWitness_H → Cfg
  | .l0 v0 v1 v2 => { fr := { fn := 4, fb := 0, ss := sl 96 [(0, (.pv true (.slice tPast) v0)), (4, (.row 0 0)), (5, (.pv false .bool v1))], todo := cutAt (bodyOf Try.f4) [false, false, false, false, false, true] [] }, cs := [], ob := ofList [.row 0 false (.int .i64) v2] }
  | .l1 v0 v1 v2 v3 v4 v5 => { fr := { fn := 4, fb := 0, ss := sl 96 [(0, (.pv true (.slice tPast) v0)), (4, (.row 0 0)), (5, (.pv false .bool v1)), (6, (.row 1 0)), (7, (.row 2 0)), (8, (.pv false .bool v2))], todo := cutAt (bodyOf Try.f4) [false, false, false, false, false, false, false, false, true, true] [] }, cs := [], ob := ofList [.row 0 false (.int .i64) v3, .row 0 false tPast v4, .row 0 false (.int .i64) v5] }
  | .l2 v0 v1 v2 v3 v4 v5 => { fr := { fn := 4, fb := 0, ss := sl 96 [(0, (.pv true (.slice tPast) v0)), (4, (.row 0 0)), (5, (.pv false .bool v1)), (7, (.row 1 0)), (8, (.pv false .bool v2)), (9, (.pv false (.int .i64) v3))], todo := cutAt (bodyOf Try.f4) [false, false, false, false, false, false, false, false, false, false, false, true, true] [] }, cs := [], ob := ofList [.row 0 false (.int .i64) v4, .row 0 false (.int .i64) v5] }
  | .l3 v0 v1 v2 v3 v4 => { fr := { fn := 4, fb := 0, ss := sl 96 [(0, (.pv true (.slice tPast) v0)), (4, (.row 0 0)), (5, (.pv false .bool v1)), (7, (.row 1 0)), (61, (.pv false .bool v2))], todo := cutAt (bodyOf Try.f4) [false, false, false, false, false, false, false, false, false, false, false, true, false] [] }, cs := [], ob := ofList [.row 0 false (.int .i64) v3, .row 0 false (.int .i64) v4] }
  | .l4 v0 v1 v2 v3 v4 v5 => { fr := { fn := 17, fb := 83951616, ss := sl 19 [(0, (.row 0 0)), (1, (.pv false (.int .i64) v0)), (5, (.pv false (.int .i64) v1))], todo := todoAt (bodyOf Try.f17) [false, true, false, true] [] }, cs := [{ fn := 4, fb := 0, ss := sl 96 [(0, (.pv true (.slice tPast) v2)), (4, (.row 1 0)), (5, (.pv false .bool v3)), (7, (.row 0 0))], todo := callAt (bodyOf Try.f4) [false, false, false, false, false, false, false, false, false, false, false, false, false, true] 2 [] }], ob := ofList [.row 0 false (.int .i64) v4, .row 0 false (.int .i64) v5] }
  | .l5 v0 v1 v2 v3 v4 v5 => { fr := { fn := 4, fb := 0, ss := sl 96 [(4, (.row 0 0)), (5, (.pv false .bool v0)), (7, (.row 1 0)), (10, (.pv false (.int .i64) v1)), (12, (.row 2 0)), (13, (.pv false .bool v2))], todo := cutAt (bodyOf Try.f4) [false, false, false, false, false, false, false, false, false, false, false, false, false, false, false, false, false, false, false, true, true] [] }, cs := [], ob := ofList [.row 0 false (.int .i64) v3, .row 0 false (.int .i64) v4, .row 0 false (.int .i64) v5] }
  | .l6 v0 v1 => { fr := { fn := 4, fb := 0, ss := sl 96 [(7, (.row 0 0)), (10, (.pv false (.int .i64) v0))], todo := cutAt (bodyOf Try.f4) [false, false, false, false, false, false, false, false, false, false, false, false, false, false, false, false, false, false, false, false, true] [] }, cs := [], ob := ofList [.row 0 false (.int .i64) v1] }
def w_FnExactWitness_body (rec : w_FnExactWitness_H → Option w_FnExactWitness_R) : w_FnExactWitness_H → Option w_FnExactWitness_R
  | .l0 v0 v1 v2 =>
    (w_toPastS_fn v0).bind fun y3 =>
      (i_Witness_fn y3.fst).bind fun y4 =>
        (w_eqIntS_fn y4.fst.fst v2).bind fun y5 =>
          if (!y5.fst) = true then
            some (false, ())
          else
            if (!y4.fst.snd.fst == v1) = true then
              some (false, ())
            else
              (rec (.l1 (v0) (v1) (y4.fst.snd.fst) (v2) (y3.fst) (y4.fst.fst))).bind some
  | .l1 v0 v1 v2 v3 v4 v5 =>
    (w_toPastS_fn v0).bind fun y6 =>
      (w_eqPastS_fn v4 y6.fst).bind fun y7 =>
        if (!y7.fst) = true then
          some (false, ())
        else
          (w_markPastS_fn v4 1).bind fun y8 =>
            (rec (.l2 (v0) (v1) (v2) (y8.fst) (v3) (v5))).bind some
  | .l2 v0 v1 v2 v3 v4 v5 =>
    if (decide (v3 < 0)) = true then
      (rec (.l3 (v0) (v1) (Bool.true) (v4) (v5))).bind some
    else
      (w_eqIntS_fn v5 v4).bind fun y9 =>
        if (!y9.fst) = true then
          (rec (.l3 (v0) (v1) (Bool.true) (v4) (v5))).bind some
        else
          (rec (.l3 (v0) (v1) (!v2 == v1) (v4) (v5))).bind some
  | .l3 v0 v1 v2 v3 v4 =>
    if (v2) = true then
      some (false, ())
    else
      (rec (.l4 (1) (0) (v0) (v1) (v4) (v3))).bind some
  | .l4 v0 v1 v2 v3 v4 v5 =>
    if (decide (v1 < (↑v4.length : Int))) = true then
      if (decide (0 ≤ v1)) = true then
        if (decide (v1 < (↑v4.length : Int))) = true then
          (rec (.l4 (IntKind.i64.wrap (v0 + 1)) (IntKind.i64.wrap (v1 + 1)) (v2) (v3) (v4.set v1.toNat v0) (v5))).bind some
        else
          none
      else
        none
    else
      (w_heldIntS_fn v4 1).bind fun y10 =>
        if (decide (y10.fst < 0)) = true then
          some (false, ())
        else
          if (y10.fst != v0) = true then
            some (false, ())
          else
            (w_toPastS_fn v2).bind fun y11 =>
              (i_Witness_fn y11.fst).bind fun y12 =>
                (rec (.l5 (v3) (v0) (y12.fst.snd.fst) (v5) (v4) (y12.fst.fst))).bind some
  | .l5 v0 v1 v2 v3 v4 v5 =>
    (w_eqIntS_fn v5 v3).bind fun y13 =>
      if (!y13.fst) = true then
        some (false, ())
      else
        if (!v2 == v0) = true then
          some (false, ())
        else
          (rec (.l6 (v1) (v4))).bind some
  | .l6 v0 v1 =>
    (w_heldIntS_fn v1 1).bind fun y14 =>
      if (decide (y14.fst < 0)) = true then
        some (false, ())
      else
        if (y14.fst != v0) = true then
          some (false, ())
        else
          some (true, ())
def w_FnExactWitness_start (rec : w_FnExactWitness_H → Option w_FnExactWitness_R) (x0 : (List PastD)) : Option w_FnExactWitness_R :=
  (w_szPastS_fn x0 1048576).bind fun y0 =>
    if (decide (y0.fst < 0)) = true then
      some (true, ())
    else
      (w_toPastS_fn x0).bind fun y1 =>
        (s_Witness_fn y1.fst).bind fun y2 =>
          (rec (.l0 (x0) (y2.fst.snd.fst) (y2.fst.fst))).bind some
def w_FnExactWitness_go : Nat → w_FnExactWitness_H → Option w_FnExactWitness_R
  | 0, _ => none
  | k + 1, h => w_FnExactWitness_body (w_FnExactWitness_go k) h
def w_FnExactWitness_k (k : Nat) (x0 : (List PastD)) : Option w_FnExactWitness_R := w_FnExactWitness_start (w_FnExactWitness_go k) x0
def w_FnExactWitness_fn (x0 : (List PastD)) : Option w_FnExactWitness_R := w_FnExactWitness_k (x0.length + 10000000) x0
noncomputable def w_FnExactWitness_sig : Sig := { ps := w_FnExactWitness_ps, outs := w_FnExactWitness_outs, fn := fun x => w_FnExactWitness_fn (x.1) }
theorem w_FnExactWitness_l0_t (rec : Cfg → Option w_FnExactWitness_R) (v0 : List PastD) (v1 : Bool) (v2 : List Int) : Tr.k (ev w_FnExactWitness_env w_FnExactWitness_anns w_FnExactWitness_sig rec 20000 (w_FnExactWitness_cfg (.l0 v0 v1 v2))) some = ((w_toPastS_fn v0).bind fun y3 => (i_Witness_fn y3.fst).bind fun y4 => (w_eqIntS_fn y4.fst.fst v2).bind fun y5 => br (!y5.fst) (some (false, ())) (br (!y4.fst.snd.fst == v1) (some (false, ())) ((rec (w_FnExactWitness_cfg (.l1 (v0) (v1) (y4.fst.snd.fst) (v2) (y3.fst) (y4.fst.fst)))).bind some)) : Option w_FnExactWitness_R) := by kernel_rfl
theorem w_FnExactWitness_l0 (rec : Cfg → Option w_FnExactWitness_sig.R.D) (v0 : List PastD) (v1 : Bool) (v2 : List Int) : (ev w_FnExactWitness_env w_FnExactWitness_anns w_FnExactWitness_sig rec 20000 (w_FnExactWitness_cfg (.l0 v0 v1 v2))).run = w_FnExactWitness_body (fun h => rec (w_FnExactWitness_cfg h)) (.l0 v0 v1 v2) := (Tr.k_some _).trans ((w_FnExactWitness_l0_t rec v0 v1 v2).trans (by first | rfl | (simp only [br_ite]; rfl)))
theorem w_FnExactWitness_l1_t (rec : Cfg → Option w_FnExactWitness_R) (v0 : List PastD) (v1 : Bool) (v2 : Bool) (v3 : List Int) (v4 : List PastD) (v5 : List Int) : Tr.k (ev w_FnExactWitness_env w_FnExactWitness_anns w_FnExactWitness_sig rec 20000 (w_FnExactWitness_cfg (.l1 v0 v1 v2 v3 v4 v5))) some = ((w_toPastS_fn v0).bind fun y6 => (w_eqPastS_fn v4 y6.fst).bind fun y7 => br (!y7.fst) (some (false, ())) ((w_markPastS_fn v4 1).bind fun y8 => (rec (w_FnExactWitness_cfg (.l2 (v0) (v1) (v2) (y8.fst) (v3) (v5)))).bind some) : Option w_FnExactWitness_R) := by kernel_rfl
theorem w_FnExactWitness_l1 (rec : Cfg → Option w_FnExactWitness_sig.R.D) (v0 : List PastD) (v1 : Bool) (v2 : Bool) (v3 : List Int) (v4 : List PastD) (v5 : List Int) : (ev w_FnExactWitness_env w_FnExactWitness_anns w_FnExactWitness_sig rec 20000 (w_FnExactWitness_cfg (.l1 v0 v1 v2 v3 v4 v5))).run = w_FnExactWitness_body (fun h => rec (w_FnExactWitness_cfg h)) (.l1 v0 v1 v2 v3 v4 v5) := (Tr.k_some _).trans ((w_FnExactWitness_l1_t rec v0 v1 v2 v3 v4 v5).trans (by first | rfl | (simp only [br_ite]; rfl)))
theorem w_FnExactWitness_l2_t (rec : Cfg → Option w_FnExactWitness_R) (v0 : List PastD) (v1 : Bool) (v2 : Bool) (v3 : Int) (v4 : List Int) (v5 : List Int) : Tr.k (ev w_FnExactWitness_env w_FnExactWitness_anns w_FnExactWitness_sig rec 20000 (w_FnExactWitness_cfg (.l2 v0 v1 v2 v3 v4 v5))) some = (br (decide (v3 < 0)) ((rec (w_FnExactWitness_cfg (.l3 (v0) (v1) (Bool.true) (v4) (v5)))).bind some) ((w_eqIntS_fn v5 v4).bind fun y9 => br (!y9.fst) ((rec (w_FnExactWitness_cfg (.l3 (v0) (v1) (Bool.true) (v4) (v5)))).bind some) ((rec (w_FnExactWitness_cfg (.l3 (v0) (v1) (!v2 == v1) (v4) (v5)))).bind some)) : Option w_FnExactWitness_R) := by kernel_rfl
theorem w_FnExactWitness_l2 (rec : Cfg → Option w_FnExactWitness_sig.R.D) (v0 : List PastD) (v1 : Bool) (v2 : Bool) (v3 : Int) (v4 : List Int) (v5 : List Int) : (ev w_FnExactWitness_env w_FnExactWitness_anns w_FnExactWitness_sig rec 20000 (w_FnExactWitness_cfg (.l2 v0 v1 v2 v3 v4 v5))).run = w_FnExactWitness_body (fun h => rec (w_FnExactWitness_cfg h)) (.l2 v0 v1 v2 v3 v4 v5) := (Tr.k_some _).trans ((w_FnExactWitness_l2_t rec v0 v1 v2 v3 v4 v5).trans (by first | rfl | (simp only [br_ite]; rfl)))
theorem w_FnExactWitness_l3_t (rec : Cfg → Option w_FnExactWitness_R) (v0 : List PastD) (v1 : Bool) (v2 : Bool) (v3 : List Int) (v4 : List Int) : Tr.k (ev w_FnExactWitness_env w_FnExactWitness_anns w_FnExactWitness_sig rec 20000 (w_FnExactWitness_cfg (.l3 v0 v1 v2 v3 v4))) some = (br (v2) (some (false, ())) ((rec (w_FnExactWitness_cfg (.l4 (1) (0) (v0) (v1) (v4) (v3)))).bind some) : Option w_FnExactWitness_R) := by kernel_rfl
theorem w_FnExactWitness_l3 (rec : Cfg → Option w_FnExactWitness_sig.R.D) (v0 : List PastD) (v1 : Bool) (v2 : Bool) (v3 : List Int) (v4 : List Int) : (ev w_FnExactWitness_env w_FnExactWitness_anns w_FnExactWitness_sig rec 20000 (w_FnExactWitness_cfg (.l3 v0 v1 v2 v3 v4))).run = w_FnExactWitness_body (fun h => rec (w_FnExactWitness_cfg h)) (.l3 v0 v1 v2 v3 v4) := (Tr.k_some _).trans ((w_FnExactWitness_l3_t rec v0 v1 v2 v3 v4).trans (by first | rfl | (simp only [br_ite]; rfl)))
theorem w_FnExactWitness_l4_t (rec : Cfg → Option w_FnExactWitness_R) (v0 : Int) (v1 : Int) (v2 : List PastD) (v3 : Bool) (v4 : List Int) (v5 : List Int) : Tr.k (ev w_FnExactWitness_env w_FnExactWitness_anns w_FnExactWitness_sig rec 20000 (w_FnExactWitness_cfg (.l4 v0 v1 v2 v3 v4 v5))) some = (br (decide (v1 < (↑v4.length : Int))) (br (decide (0 ≤ v1)) (br (decide (v1 < (↑v4.length : Int))) ((rec (w_FnExactWitness_cfg (.l4 (IntKind.i64.wrap (v0 + 1)) (IntKind.i64.wrap (v1 + 1)) (v2) (v3) (v4.set v1.toNat v0) (v5)))).bind some) (none)) (none)) ((w_heldIntS_fn v4 1).bind fun y10 => br (decide (y10.fst < 0)) (some (false, ())) (br (y10.fst != v0) (some (false, ())) ((w_toPastS_fn v2).bind fun y11 => (i_Witness_fn y11.fst).bind fun y12 => (rec (w_FnExactWitness_cfg (.l5 (v3) (v0) (y12.fst.snd.fst) (v5) (v4) (y12.fst.fst)))).bind some))) : Option w_FnExactWitness_R) := by kernel_rfl
theorem w_FnExactWitness_l4 (rec : Cfg → Option w_FnExactWitness_sig.R.D) (v0 : Int) (v1 : Int) (v2 : List PastD) (v3 : Bool) (v4 : List Int) (v5 : List Int) : (ev w_FnExactWitness_env w_FnExactWitness_anns w_FnExactWitness_sig rec 20000 (w_FnExactWitness_cfg (.l4 v0 v1 v2 v3 v4 v5))).run = w_FnExactWitness_body (fun h => rec (w_FnExactWitness_cfg h)) (.l4 v0 v1 v2 v3 v4 v5) := (Tr.k_some _).trans ((w_FnExactWitness_l4_t rec v0 v1 v2 v3 v4 v5).trans (by first | rfl | (simp only [br_ite]; rfl)))
theorem w_FnExactWitness_l5_t (rec : Cfg → Option w_FnExactWitness_R) (v0 : Bool) (v1 : Int) (v2 : Bool) (v3 : List Int) (v4 : List Int) (v5 : List Int) : Tr.k (ev w_FnExactWitness_env w_FnExactWitness_anns w_FnExactWitness_sig rec 20000 (w_FnExactWitness_cfg (.l5 v0 v1 v2 v3 v4 v5))) some = ((w_eqIntS_fn v5 v3).bind fun y13 => br (!y13.fst) (some (false, ())) (br (!v2 == v0) (some (false, ())) ((rec (w_FnExactWitness_cfg (.l6 (v1) (v4)))).bind some)) : Option w_FnExactWitness_R) := by kernel_rfl
theorem w_FnExactWitness_l5 (rec : Cfg → Option w_FnExactWitness_sig.R.D) (v0 : Bool) (v1 : Int) (v2 : Bool) (v3 : List Int) (v4 : List Int) (v5 : List Int) : (ev w_FnExactWitness_env w_FnExactWitness_anns w_FnExactWitness_sig rec 20000 (w_FnExactWitness_cfg (.l5 v0 v1 v2 v3 v4 v5))).run = w_FnExactWitness_body (fun h => rec (w_FnExactWitness_cfg h)) (.l5 v0 v1 v2 v3 v4 v5) := (Tr.k_some _).trans ((w_FnExactWitness_l5_t rec v0 v1 v2 v3 v4 v5).trans (by first | rfl | (simp only [br_ite]; rfl)))
theorem w_FnExactWitness_l6_t (rec : Cfg → Option w_FnExactWitness_R) (v0 : Int) (v1 : List Int) : Tr.k (ev w_FnExactWitness_env w_FnExactWitness_anns w_FnExactWitness_sig rec 20000 (w_FnExactWitness_cfg (.l6 v0 v1))) some = ((w_heldIntS_fn v1 1).bind fun y14 => br (decide (y14.fst < 0)) (some (false, ())) (br (y14.fst != v0) (some (false, ())) (some (true, ()))) : Option w_FnExactWitness_R) := by kernel_rfl
theorem w_FnExactWitness_l6 (rec : Cfg → Option w_FnExactWitness_sig.R.D) (v0 : Int) (v1 : List Int) : (ev w_FnExactWitness_env w_FnExactWitness_anns w_FnExactWitness_sig rec 20000 (w_FnExactWitness_cfg (.l6 v0 v1))).run = w_FnExactWitness_body (fun h => rec (w_FnExactWitness_cfg h)) (.l6 v0 v1) := (Tr.k_some _).trans ((w_FnExactWitness_l6_t rec v0 v1).trans (by first | rfl | (simp only [br_ite]; rfl)))
theorem w_FnExactWitness_begin_t (rec : Cfg → Option w_FnExactWitness_R) (x0 : (List PastD)) : Tr.k (ev w_FnExactWitness_env w_FnExactWitness_anns w_FnExactWitness_sig rec 20000 (entry w_FnExactWitness_sig 4 Try.f4 (bodyOf Try.f4) (x0, ()))) some = ((w_szPastS_fn x0 1048576).bind fun y0 => br (decide (y0.fst < 0)) (some (true, ())) ((w_toPastS_fn x0).bind fun y1 => (s_Witness_fn y1.fst).bind fun y2 => (rec (w_FnExactWitness_cfg (.l0 (x0) (y2.fst.snd.fst) (y2.fst.fst)))).bind some) : Option w_FnExactWitness_R) := by kernel_rfl
theorem w_FnExactWitness_begin (rec : Cfg → Option w_FnExactWitness_sig.R.D) (x0 : (List PastD)) : (ev w_FnExactWitness_env w_FnExactWitness_anns w_FnExactWitness_sig rec 20000 (entry w_FnExactWitness_sig 4 Try.f4 (bodyOf Try.f4) (x0, ()))).run = w_FnExactWitness_start (fun h => rec (w_FnExactWitness_cfg h)) x0 := (Tr.k_some _).trans ((w_FnExactWitness_begin_t rec x0).trans (by first | rfl | (simp only [br_ite]; rfl)))
theorem w_FnExactWitness_tab_ok : w_FnExactWitness_tab.ok Try.prog = true := by decide +kernel
theorem w_FnExactWitness_env_ok : (w_FnExactWitness_env).Ok Try.prog where
  mixed := by decide +kernel
  tab := w_FnExactWitness_tab_ok
  fns := by
    intro p hp
    simp only [w_FnExactWitness_env, List.mem_cons, List.not_mem_nil, or_false] at hp
    rcases hp with rfl | rfl
    · exact ⟨Try.func4, by decide +kernel⟩
    · exact ⟨Try.func17, by decide +kernel⟩
  sigs := by
    intro p hp
    simp only [w_FnExactWitness_env, List.mem_cons, List.not_mem_nil, or_false] at hp
    rcases hp with rfl | rfl | rfl | rfl | rfl | rfl | rfl | rfl
    · exact ⟨w_szPastS_meets, _, Try.func8, by decide +kernel⟩
    · exact ⟨w_toPastS_meets, _, Try.func10, by decide +kernel⟩
    · exact ⟨w_eqPastS_meets, _, Try.func12, by decide +kernel⟩
    · exact ⟨s_Witness_meets, _, Try.func13, by decide +kernel⟩
    · exact ⟨i_Witness_meets, _, Try.func14, by decide +kernel⟩
    · exact ⟨w_eqIntS_meets, _, Try.func15, by decide +kernel⟩
    · exact ⟨w_markPastS_meets, _, Try.func16, by decide +kernel⟩
    · exact ⟨w_heldIntS_meets, _, Try.func18, by decide +kernel⟩
  exts := by
    intro p hp
    simp only [w_FnExactWitness_env, List.mem_cons, List.not_mem_nil, or_false] at hp
theorem w_FnExactWitness_run (k : Nat) (h : w_FnExactWitness_H) : Om w_FnExactWitness_env w_FnExactWitness_anns w_FnExactWitness_sig 20000 k (w_FnExactWitness_cfg h) = w_FnExactWitness_go k h :=
  Om_go (sg := w_FnExactWitness_sig) (cfg := w_FnExactWitness_cfg) (body := w_FnExactWitness_body) (go := w_FnExactWitness_go) (fun _ => rfl) (fun _ _ => rfl) (fun rec h => by
  cases h with
  | l0 v0 v1 v2 => exact w_FnExactWitness_l0 rec v0 v1 v2
  | l1 v0 v1 v2 v3 v4 v5 => exact w_FnExactWitness_l1 rec v0 v1 v2 v3 v4 v5
  | l2 v0 v1 v2 v3 v4 v5 => exact w_FnExactWitness_l2 rec v0 v1 v2 v3 v4 v5
  | l3 v0 v1 v2 v3 v4 => exact w_FnExactWitness_l3 rec v0 v1 v2 v3 v4
  | l4 v0 v1 v2 v3 v4 v5 => exact w_FnExactWitness_l4 rec v0 v1 v2 v3 v4 v5
  | l5 v0 v1 v2 v3 v4 v5 => exact w_FnExactWitness_l5 rec v0 v1 v2 v3 v4 v5
  | l6 v0 v1 => exact w_FnExactWitness_l6 rec v0 v1) k h
theorem w_FnExactWitness_meets : Meets Try.prog 4 w_FnExactWitness_sig := by
  refine meets (anns := w_FnExactWitness_anns) (N := 20000) w_FnExactWitness_env_ok Try.func4 (body := bodyOf Try.f4) (by rfl) ?_
  rintro ⟨x0, ⟨⟩⟩ r hr
  refine ⟨x0.length + 10000000, ?_⟩
  show (ev w_FnExactWitness_env w_FnExactWitness_anns w_FnExactWitness_sig (Om w_FnExactWitness_env w_FnExactWitness_anns w_FnExactWitness_sig 20000 (x0.length + 10000000)) 20000 (entry w_FnExactWitness_sig 4 Try.f4 (bodyOf Try.f4) (x0, ()))).run = some r
  rw [w_FnExactWitness_begin]
  have e : (fun h => Om w_FnExactWitness_env w_FnExactWitness_anns w_FnExactWitness_sig 20000 (x0.length + 10000000) (w_FnExactWitness_cfg h)) = w_FnExactWitness_go (x0.length + 10000000) := funext fun h => w_FnExactWitness_run _ h
  rw [e]
  exact hr
end Go.Proofs.Ytmggpiijahiaiaa.Ev
/- The plain law FnExactWitness. -/
namespace Go.Proofs.Ytmggpiijahiaiaa.Ev
open Go Go.IntWalk
set_option linter.unusedVariables false
set_option linter.unusedSimpArgs false
theorem tryFrom_some {α : Type} {F : Nat → Option α} {r : α} : ∀ {n i : Nat}, tryFrom F n i = some r → ∃ k, F k = some r ∧ i ≤ k ∧ k < i + n := by
  intro n
  induction n with
  | zero => intro i h; cases h
  | succ n ih =>
    intro i h
    rw [tryFrom] at h
    cases hf : F i with
    | some q =>
      rw [hf] at h
      injection h with h
      subst h
      exact ⟨i, hf, by omega, by omega⟩
    | none =>
      rw [hf] at h
      obtain ⟨k, h1, h2, h3⟩ := ih h
      exact ⟨k, h1, by omega, by omega⟩
theorem search_in {l : List PastD} : ∀ {d : Nat} {o : List Int} {b : List AccountD} {r : List Int × List AccountD}, o.Nodup → inL l o → searchM l d o b = some r → r.1.Nodup ∧ inL l r.1 := by
  intro d
  induction d with
  | zero => intro o b r _ _ h; cases h
  | succ d ih =>
    intro o b r hn hi h
    rw [searchM] at h
    split at h
    · injection h with h
      subst h
      exact ⟨hn, hi⟩
    · obtain ⟨k, hk, _, hkl⟩ := tryFrom_some h
      have hkl : k < l.length := by omega
      split at hk
      · rename_i hc
        rw [Bool.and_eq_true] at hc
        have hs : stops l k o = false := by simpa using hc.1
        exact ih (nodup_snoc hn (stops_not hs)) (inL_snoc hi hkl) hk
      · cases hk
theorem witM_in {l : List PastD} {r : List Int × List AccountD} (h : witM l = some r) : r.1.Nodup ∧ inL l r.1 := by
  unfold witM at h
  split at h
  · exact search_in List.nodup_nil (inL_nil l) h
  · cases h
theorem witO_len {l : List PastD} (hl : l.length ≤ 1048576) : (witO (witM l)).1.length ≤ 1048576 := by
  cases h : witM l with
  | none => simp [witO]
  | some r =>
    obtain ⟨h1, h2⟩ := witM_in h
    have := pigeon _ _ h1 h2
    simp only [witO]
    omega
theorem iWitnessE {l : List PastD} (hl : l.length ≤ 1048576) (hh : histR l) : i_Witness_fn l = some (((witO (witM l)).1, (witO (witM l)).2, ()), ()) := by
  refine obind (iWitness_ok hl hh) ?_
  rfl

/-! ### Marks -/
theorem markPast_go : ∀ (n k i : Nat) (v : Int) (l : List PastD), 4 * n < k → i + n = l.length → l.length ≤ 1048576 → 0 ≤ v → v + 8 * n ≤ 9223372036854775807 → w_markPastS_go k (.l0 v i l) = some (v + 8 * n, ()) := by
  intro n
  induction n with
  | zero =>
    intro k i v l hk hn hl hv hb
    obtain ⟨k, rfl⟩ : ∃ k', k = k' + 1 := ⟨k - 1, by omega⟩
    obtain rfl : i = l.length := by omega
    rw [w_markPastS_go]
    simp [w_markPastS_body]
  | succ n ih =>
    intro k i v l hk hn hl hv hb
    obtain ⟨k, rfl⟩ : ∃ k', k = k' + 4 := ⟨k - 4, by omega⟩
    have hil : i < l.length := by omega
    have hw := wrapS hil (by omega)
    have c1 : (i : Int) < (l.length : Int) := by omega
    have c2 : (0 : Int) ≤ (i : Int) := by omega
    have s3 : ∀ (v : Int) (l' : List PastD), l'.length = l.length → 0 ≤ v → v + 3 + 8 * n ≤ 9223372036854775807 → w_markPastS_go (k + 1) (.l3 v i l') = some (v + 3 + 8 * n, ()) := by
      intro v l' hl' h0 h1
      rw [w_markPastS_go]
      simp only [w_markPastS_body, List.length_set, hl', decide_eq_true_eq, c1, c2, if_true, bindSome, hw, i64_in (v + 1) (by omega), i64_in (v + 1 + 1) (by omega), i64_in (v + 1 + 1 + 1) (by omega)]
      rw [ih k (i + 1) _ _ (by omega) (by simp only [List.length_set, hl']; omega) (by simp only [List.length_set, hl']; omega) (by omega) (by omega)]
      congr 2
      omega
    have s2 : ∀ (v : Int) (l' : List PastD), l'.length = l.length → 0 ≤ v → v + 5 + 8 * n ≤ 9223372036854775807 → w_markPastS_go (k + 2) (.l2 v i l') = some (v + 5 + 8 * n, ()) := by
      intro v l' hl' h0 h1
      rw [show k + 2 = (k + 1) + 1 from rfl, w_markPastS_go]
      simp only [w_markPastS_body, List.length_set, hl', decide_eq_true_eq, c1, c2, if_true, bindSome, i64_in (v + 1) (by omega), i64_in (v + 1 + 1) (by omega)]
      rw [s3 _ _ (by simp only [List.length_set, hl']) (by omega) (by omega)]
      congr 2
      omega
    have s1 : ∀ (v : Int) (l' : List PastD), l'.length = l.length → 0 ≤ v → v + 7 + 8 * n ≤ 9223372036854775807 → w_markPastS_go (k + 3) (.l1 v i l') = some (v + 7 + 8 * n, ()) := by
      intro v l' hl' h0 h1
      rw [show k + 3 = (k + 2) + 1 from rfl, w_markPastS_go]
      simp only [w_markPastS_body, List.length_set, hl', decide_eq_true_eq, c1, c2, if_true, bindSome, i64_in (v + 1) (by omega), i64_in (v + 1 + 1) (by omega)]
      rw [s2 _ _ (by simp only [List.length_set, hl']) (by omega) (by omega)]
      congr 2
      omega
    rw [show k + 4 = (k + 3) + 1 from rfl, w_markPastS_go]
    simp only [w_markPastS_body, List.length_set, decide_eq_true_eq, c1, c2, if_true, bindSome, i64_in (v + 1) (by omega)]
    rw [s1 _ _ (by simp only [List.length_set]) (by omega) (by omega)]
    congr 2
    omega
theorem markPast_ok {l : List PastD} (hl : l.length ≤ 1048576) : ∃ r, w_markPastS_fn l 1 = some (r, ()) ∧ 0 ≤ r := by
  have h := markPast_go l.length (l.length + 10000000) 0 1 l (by omega) (by omega) hl (by omega) (by omega)
  refine ⟨1 + 8 * l.length, ?_, by omega⟩
  show (w_markPastS_go (l.length + 10000000) (.l0 1 0 l)).bind some = _
  rw [bindSome]
  exact h
/-- The first i cells hold the marks 1, 2, .. -/
def isMarks (v : List Int) (i : Nat) : Prop := ∀ j, j < i → v.getD j 0 = 1 + (j : Int)
theorem isMarks_set {v : List Int} {i : Nat} (h : isMarks v i) (hi : i < v.length) : isMarks (v.set i (1 + (i : Int))) (i + 1) := by
  intro j hj
  rw [List.getD_eq_getElem?_getD, List.getElem?_set]
  by_cases e : i = j
  · subst e
    simp [hi]
  · rw [if_neg e, ← List.getD_eq_getElem?_getD]
    exact h j (by omega)
theorem held_go {v : List Int} (hl : v.length ≤ 1048576) (hm : isMarks v v.length) : ∀ (n k i : Nat), n < k → i + n = v.length → w_heldIntS_go k (.l0 v (1 + (i : Int)) i) = some (1 + (v.length : Int), ()) := by
  intro n
  induction n with
  | zero =>
    intro k i hk hn
    obtain ⟨k, rfl⟩ : ∃ k', k = k' + 1 := ⟨k - 1, by omega⟩
    obtain rfl : i = v.length := by omega
    rw [w_heldIntS_go]
    simp [w_heldIntS_body]
  | succ n ih =>
    intro k i hk hn
    obtain ⟨k, rfl⟩ : ∃ k', k = k' + 1 := ⟨k - 1, by omega⟩
    have hi : i < v.length := by omega
    have hw := wrapS hi (by omega)
    have c1 : (i : Int) < (v.length : Int) := by omega
    have c2 : (0 : Int) ≤ (i : Int) := by omega
    have hw2 : IntKind.i64.wrap (1 + (i : Int) + 1) = 1 + ((i + 1 : Nat) : Int) := by rw [i64_in _ (by omega)]; omega
    rw [w_heldIntS_go]
    simp only [w_heldIntS_body, decide_eq_true_eq, c1, c2, if_true, Int.toNat_natCast, hm i hi, bne_self_eq_false, Bool.false_eq_true, if_false, bindSome, hw, hw2]
    exact ih k (i + 1) (by omega) (by omega)
theorem held_ok {v : List Int} (hl : v.length ≤ 1048576) (hm : isMarks v v.length) : w_heldIntS_fn v 1 = some (1 + (v.length : Int), ()) := by
  have h := held_go hl hm v.length (v.length + 10000000) 0 (by omega) (by omega)
  show (w_heldIntS_go (v.length + 10000000) (.l0 v 1 0)).bind some = _
  rw [bindSome]
  exact h

/-! ### The law -/
theorem ew6 {v : List Int} (hl : v.length ≤ 1048576) (hm : isMarks v v.length) (k : Nat) : w_FnExactWitness_go (k + 1) (.l6 (1 + (v.length : Int)) v) = some (true, ()) := by
  refine obind (held_ok hl hm) ?_
  refine (if_neg (by simp; omega)).trans ?_
  exact if_neg (by simp)
theorem ew5 {v w : List Int} {t : Bool} (hl : v.length ≤ 1048576) (hw : w.length ≤ 1048576) (hm : isMarks v v.length) (k : Nat) : w_FnExactWitness_go (k + 2) (.l5 t (1 + (v.length : Int)) t w v w) = some (true, ()) := by
  refine obind (eqIntS_ok hw) ?_
  refine (if_neg (by simp)).trans ?_
  refine (if_neg (by cases t <;> decide)).trans ?_
  exact obind (ew6 hl hm k) rfl
theorem ew4e {l : List PastD} (hl : l.length ≤ 1048576) (hh : histR l) {v : List Int} (hv : v.length ≤ 1048576) (hm : isMarks v v.length) (k : Nat) :
    w_FnExactWitness_go (k + 3) (.l4 (1 + (v.length : Int)) v.length l (witO (witM l)).2 v (witO (witM l)).1) = some (true, ()) := by
  refine (if_neg (by simp)).trans ?_
  refine obind (held_ok hv hm) ?_
  refine (if_neg (by simp; omega)).trans ?_
  refine (if_neg (by simp)).trans ?_
  refine obind (toPastS_ok hl) ?_
  refine obind (iWitnessE hl hh) ?_
  exact obind (ew5 hv (witO_len hl) hm k) rfl
theorem ew4 {l : List PastD} (hl : l.length ≤ 1048576) (hh : histR l) : ∀ (n k i : Nat) (v : List Int), n + 3 ≤ k → i + n = v.length → v.length ≤ 1048576 → isMarks v i →
    w_FnExactWitness_go k (.l4 (1 + (i : Int)) i l (witO (witM l)).2 v (witO (witM l)).1) = some (true, ()) := by
  intro n
  induction n with
  | zero =>
    intro k i v hk hn hv hm
    obtain ⟨k, rfl⟩ : ∃ k', k = k' + 3 := ⟨k - 3, by omega⟩
    obtain rfl : i = v.length := by omega
    exact ew4e hl hh hv hm k
  | succ n ih =>
    intro k i v hk hn hv hm
    obtain ⟨k, rfl⟩ : ∃ k', k = k' + 1 := ⟨k - 1, by omega⟩
    have hi : i < v.length := by omega
    have hw := wrapS hi (by omega)
    have hw2 : IntKind.i64.wrap (1 + (i : Int) + 1) = 1 + ((i + 1 : Nat) : Int) := by rw [i64_in _ (by omega)]; omega
    have c1 : decide ((i : Int) < (v.length : Int)) = true := by simpa using hi
    refine (if_pos c1).trans ?_
    refine (if_pos (by simp)).trans ?_
    refine (if_pos c1).trans ?_
    rw [hw, hw2, Int.toNat_natCast, bindSome]
    exact ih k (i + 1) _ (by omega) (by rw [List.length_set]; omega) (by rw [List.length_set]; exact hv) (isMarks_set hm hi)
theorem ewTop {l : List PastD} (hl : l.length ≤ 1048576) (hh : histR l) {w : List Int} {t : Bool} (hw : w = (witO (witM l)).1) (ht : t = (witO (witM l)).2) (k : Nat) (hk : 1048576 + 10 ≤ k) : w_FnExactWitness_go (k + 4) (.l0 l t w) = some (true, ()) := by
  have hwl : w.length ≤ 1048576 := by rw [hw]; exact witO_len hl
  have iw : i_Witness_fn l = some ((w, t, ()), ()) := by rw [hw, ht]; exact iWitnessE hl hh
  have e4 : w_FnExactWitness_go k (.l4 1 0 l t w w) = some (true, ()) := by
    have := ew4 hl hh w.length k 0 w (by omega) (by omega) hwl (fun j hj => by omega)
    rw [← hw, ← ht] at this
    exact this
  have e3 : w_FnExactWitness_go (k + 1) (.l3 l t false w w) = some (true, ()) := by
    exact obind e4 rfl
  have e2 : ∀ r : Int, 0 ≤ r → w_FnExactWitness_go (k + 2) (.l2 l t t r w w) = some (true, ()) := by
    intro r hr
    refine (if_neg (by simpa using hr)).trans ?_
    refine obind (eqIntS_ok hwl) ?_
    refine (if_neg (by simp)).trans ?_
    have : (!t == t) = false := by cases t <;> decide
    rw [this]
    exact obind e3 rfl
  have e1 : w_FnExactWitness_go (k + 3) (.l1 l t t w l w) = some (true, ()) := by
    obtain ⟨r, hr, hr0⟩ := markPast_ok hl
    refine obind (toPastS_ok hl) ?_
    refine obind (eqPastS_ok hl) ?_
    refine (if_neg (by simp)).trans ?_
    refine obind hr ?_
    exact obind (e2 r hr0) rfl
  refine obind (toPastS_ok hl) ?_
  refine obind iw ?_
  refine obind (eqIntS_ok hwl) ?_
  refine (if_neg (by simp)).trans ?_
  refine (if_neg (by cases t <;> simp)).trans ?_
  exact obind e1 rfl
theorem ewStart {l : List PastD} {r : Int} (hr : w_szPastS_fn l 1048576 = some (r, ())) (hh : histR l) (hr2 : 0 ≤ r → l.length ≤ 1048576) (k : Nat) (hk : 1048576 + 10 ≤ k) : w_FnExactWitness_start (w_FnExactWitness_go (k + 4)) l = some (true, ()) := by
  refine obind hr ?_
  by_cases h0 : r < 0
  · exact if_pos (by simpa using h0)
  · have hl := hr2 (by omega)
    refine (if_neg (by simpa using h0)).trans ?_
    refine obind (toPastS_ok hl) ?_
    refine obind (sWitness_ok hl hh) ?_
    exact obind (ewTop hl hh rfl rfl k hk) rfl
theorem exactWitness {l : List PastD} (h63 : l.length ≤ 9223372036854775807) (hh : histR l) : w_FnExactWitness_fn l = some (true, ()) := by
  obtain ⟨r, hr, hr2⟩ := szPastS_ok h63
  have := ewStart hr hh hr2 (l.length + 9999996) (by omega)
  rw [show l.length + 9999996 + 4 = l.length + 10000000 by omega] at this
  exact this
end Go.Proofs.Ytmggpiijahiaiaa.Ev
/- The row of the law FnExactWitness, out of its contract and the plain law. -/
namespace Go.Proofs.Ytmggpiijahiaiaa.fnExactWitness
open Go.ChangeShapes Go.WideShapes Go.ChangeAt Go.RowKit Go.Proofs.Ytmggpiijahiaiaa.Ev
set_option linter.unusedVariables false
theorem own : ownKnob Try.prog.godebug = none := by kernel_rfl
theorem laidOut : laidOutB Try.prog = true := by kernel_rfl
theorem tb22 : (TB Try.prog (.slice tPast)).1 22 = true := by decide +kernel
theorem u64_wf {n : Int} (h : (Lit.int .u64 n).wf = true) : u64r n := by
  obtain ⟨h1, h2⟩ := (Lit.wf_int_iff .u64 n).1 h
  exact ⟨Int.le_trans (by decide) h1, Int.le_trans h2 (by decide)⟩
theorem hist_wf {l : List PastD} (h : WF (.slice tPast) l) : l.length ≤ 9223372036854775807 ∧ histR l := by
  refine ⟨by have := h.1; unfold maxLen at this; exact this, fun p hp => ?_⟩
  have := h.2 p hp
  exact ⟨u64_wf this.1.2.1, u64_wf this.1.2.2.1, u64_wf this.1.2.2.2.1⟩
set_option maxRecDepth 100000 in
theorem lifted (os : Os) (started : os.Started) (H : Type) (enc : TypeId × Value → H) :
    ReturnsInHanded {} Try.checked os 4 .any (Rows.fnExactWitnessSpec.pre6 enc Try.prog Try.f4 Rows.fnExactWitnessRow.domain false) (Rows.fnExactWitnessSpec.post enc Try.prog Try.f4 false true false false) := by
  refine returnsInHanded_of_change_sized (C := Try.checked) own started (by kernel_rfl) Try.func4
    (ChangeSpec.witness6 (enc := enc) (C := Try.checked) false ⟨#[], #[.slice none 0 0], []⟩ 8 (by kernel_rfl) (by kernel_rfl) (by kernel_rfl) (by kernel_rfl)) ?_
  intro W base args ds gs before hval0 hW hcnd hsz0 _
  have hsz : (DataW.weightsEach Try.prog (Try.f4.params.toList ++ Rows.fnExactWitnessSpec.plain.varTypes Try.prog) (ds ++ gs)).all (· ≤ reachBytes) = true := hsz0
  have hval : ∀ (j : Nat) t v, Try.f4.params[j]? = some t → args[j]? = some v → Value.okWide Try.prog W .any base t v := hval0
  have hW' := hW
  obtain ⟨p, q, hA0, hV, rfl, hfz, hnd⟩ := hW
  have hA : DataW.TrodAll enc Try.prog W 0 (fun _ => true) true Try.f4.params.toList args.toList ds p := hA0
  rw [Try.params4] at hA hval hsz
  obtain ⟨v0, vs0, d0, ds0, p0, q0, hargs, rfl, rfl, h0, r0⟩ := trodAll_cons hA
  obtain ⟨rfl, rfl, rfl⟩ := trodAll_nil r0
  obtain rfl : args = #[v0] := by cases args; simp_all
  obtain ⟨rfl, rfl⟩ := trodVars_none hV
  obtain ⟨a0, len0, cap0, rfl⟩ := okWide_slice Try.underlying22 (hval 0 22 v0 rfl rfl)
  have k0 := h0
  have lt0 : ∀ x ∈ p0, x.block < W.heap.size := by obtain ⟨m, hm⟩ := k0; exact DataW.trod_lt m _ _ _ hm
  obtain ⟨z0, hrep, hwf⟩ : ∃ y, Rep W (fun b => b < W.heap.size) (.slice tPast) y (cv (.slice a0 len0 cap0)) ∧ WF (.slice tPast) y := by
    obtain ⟨fuel, hf⟩ := h0
    obtain ⟨y, h1, h2, _⟩ := (rep_trod (.slice tPast) (by decide)).1 22 _ _ _ tb22 hf
    refine ⟨y, ?_, h2⟩
    have e : cv (.slice a0 len0 cap0) = fun j => (Value.slice a0 len0 cap0).cells.toList[j]? := by funext j; simp [cv]
    rw [e]
    exact h1
  clear hA0 hval0 hsz0 hsz
  obtain ⟨hlen, hh⟩ := hist_wf hwf
  have hpv : PVal W (fun b => b < W.heap.size) (.slice tPast) z0 (.slice a0 len0 cap0) := ⟨rfl, rfl, hrep⟩
  refine (law_true (xs := (z0, ())) (vs := [.slice a0 len0 cap0]) (r := (true, ())) w_FnExactWitness_meets ⟨_, [], rfl, hpv, rfl, rfl, rfl⟩ rfl (exactWitness hlen hh) HEq.rfl).mono fun e W' ⟨he, bel⟩ => ?_
  subst he
  exact ⟨_, rfl, _, _, _, [], _, [], hW', trodAll_mk1 (shut_bool Try.underlying4 _), (trodAll_cons_mk (Below.trod laidOut (by kernel_rfl) (of_decide_eq_true (by kernel_rfl)) k0 bel lt0) trodAll_mk0), rfl, bel.frame _, fun h => by cases h⟩
theorem holds : Rows.FnExactWitnessSaid :=
  OpenClaim.holds_of_wide 4 Try.f4 rfl rfl rfl rfl rfl rfl rfl ⟨rfl, rfl, rfl, rfl, rfl⟩ rfl rfl rfl rfl rfl (by kernel_rfl) Try.func4 (by kernel_rfl)
    (of_decide_eq_true (by kernel_rfl)) (by unfold Func.isWrapper; first | (rw [if_pos (by decide +kernel)]; kernel_rfl) | (rw [if_neg (by decide +kernel)]; exact ⟨rfl, rfl⟩))
    (fun os started H enc _ => lifted os started H enc)
end Go.Proofs.Ytmggpiijahiaiaa.fnExactWitness
namespace Go.Proofs.Ytmggpiijahiaiaa
theorem fnExactWitness_holds : Rows.FnExactWitnessSaid := fnExactWitness.holds
#print axioms fnExactWitness_holds
end Go.Proofs.Ytmggpiijahiaiaa
