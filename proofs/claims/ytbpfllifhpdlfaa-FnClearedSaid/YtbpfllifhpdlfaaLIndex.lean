import Derived.Test.YtbpfllifhpdlfaaE25
import Derived.Test.YtbpfllifhpdlfaaProg
namespace Go.Proofs.Ytbpfllifhpdlfaa.Ev
open Go
set_option linter.unusedVariables false
set_option linter.unusedSimpArgs false
set_option maxRecDepth 100000
def Index_tab : TTab := [⟨3, (.int .i64), 0⟩, ⟨4, .bool, 0⟩, ⟨25, (.slice (.int .i64)), 8⟩]
noncomputable def Index_env : Env := { tab := Index_tab, fns := [(24, Try.f24)], sigs := [] }
def Index_anns : List Ann := [⟨24, 2, [0, 1, 7, 8], []⟩]
abbrev Index_ps : List Par := [.lent (.slice (.int .i64)), .lent (.int .i64)]
abbrev Index_outs : Outs := .one (.pure (.int .i64))
abbrev Index_R : Type := (Int × Unit)
inductive Index_H where
  | l0 (v0 : List Int) (v1 : Int) (v2 : Int) (v3 : Int)
noncomputable def Index_cfg : Index_H → Cfg
  | .l0 v0 v1 v2 v3 => { fr := { fn := 24, fb := 0, ss := [(.pv true (.slice (.int .i64)) v0), (.pv false (.int .i64) v1), .undef, .undef, .undef, .undef, .undef, (.pv false (.int .i64) v2), (.pv false (.int .i64) v3), .undef, .undef, .undef, .undef, .undef, .undef, .undef, .undef, .undef, .undef], todo := todoAt (bodyOf Try.f24) [false, true, false, true] [] }, cs := [], ob := ofList [] }
def Index_body (rec : Index_H → Option Index_R) : Index_H → Option Index_R
  | .l0 v0 v1 v2 v3 =>
    if (Decidable.decide (v3 < v2)) = true then
      if (Decidable.decide (0 ≤ v3)) = true then
        if (Decidable.decide (v3 < (↑v0.length : Int))) = true then
          if (v1 == v0.getD v3.toNat 0) = true then
            some (v3, ())
          else
            (rec (.l0 (v0) (v1) (v2) (IntKind.i64.wrap (v3 + 1)))).bind some
        else
          none
      else
        none
    else
      some (-1, ())
def Index_start (rec : Index_H → Option Index_R) (x0 : (List Int)) (x1 : Int) : Option Index_R :=
  (rec (.l0 (x0) (x1) ((↑x0.length : Int)) (0))).bind some
def Index_go : Nat → Index_H → Option Index_R
  | 0, _ => none
  | k + 1, h => Index_body (Index_go k) h
def Index_k (k : Nat) (x0 : (List Int)) (x1 : Int) : Option Index_R := Index_start (Index_go k) x0 x1
def Index_fn (x0 : (List Int)) (x1 : Int) : Option Index_R := Index_k (x0.length + 1) x0 x1
noncomputable def Index_sig : Sig := { ps := Index_ps, outs := Index_outs, fn := fun x => Index_fn (x.1) (x.2.1) }
theorem Index_l0 (rec : Cfg → Option Index_sig.R.D) (v0 : List Int) (v1 : Int) (v2 : Int) (v3 : Int) : (ev Index_env Index_anns Index_sig rec 20000 (Index_cfg (.l0 v0 v1 v2 v3))).run = Index_body (fun h => rec (Index_cfg h)) (.l0 v0 v1 v2 v3) := by kernel_rfl
theorem Index_begin (rec : Cfg → Option Index_sig.R.D) (x0 : (List Int)) (x1 : Int) : (ev Index_env Index_anns Index_sig rec 20000 (entry Index_sig 24 Try.f24 (bodyOf Try.f24) (x0, x1, ()))).run = Index_start (fun h => rec (Index_cfg h)) x0 x1 := by kernel_rfl
theorem Index_tab_ok : Index_tab.ok Try.prog = true := by decide +kernel
theorem Index_env_ok : Index_env.Ok Try.prog where
  mixed := by decide +kernel
  tab := Index_tab_ok
  fns := by
    intro p hp
    simp only [Index_env, List.mem_cons, List.not_mem_nil, or_false] at hp
    subst hp
    · exact ⟨Try.func24, by decide +kernel⟩
  sigs := by
    intro p hp
    simp only [Index_env, List.mem_cons, List.not_mem_nil, or_false] at hp
theorem Index_run (k : Nat) (h : Index_H) : Om Index_env Index_anns Index_sig 20000 k (Index_cfg h) = Index_go k h :=
  Om_go (sg := Index_sig) (cfg := Index_cfg) (body := Index_body) (go := Index_go) (fun _ => rfl) (fun _ _ => rfl) (fun rec h => by
  cases h with
  | l0 v0 v1 v2 v3 => exact Index_l0 rec v0 v1 v2 v3) k h
theorem Index_meets : Meets Try.prog 24 Index_sig := by
  refine meets (anns := Index_anns) (N := 20000) Index_env_ok Try.func24 (body := bodyOf Try.f24) (by rfl) ?_
  rintro ⟨x0, x1, ⟨⟩⟩ r hr
  refine ⟨x0.length + 1, ?_⟩
  show (ev Index_env Index_anns Index_sig (Om Index_env Index_anns Index_sig 20000 (x0.length + 1)) 20000 (entry Index_sig 24 Try.f24 (bodyOf Try.f24) (x0, x1, ()))).run = some r
  rw [Index_begin]
  have e : (fun h => Om Index_env Index_anns Index_sig 20000 (x0.length + 1) (Index_cfg h)) = Index_go (x0.length + 1) := funext fun h => Index_run _ h
  rw [e]
  exact hr
end Go.Proofs.Ytbpfllifhpdlfaa.Ev
