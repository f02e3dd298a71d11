import Derived.Test.YtbpfllifhpdlfaaE25
import Derived.Test.YtbpfllifhpdlfaaProg
namespace Go.Proofs.Ytbpfllifhpdlfaa.Ev
open Go
set_option linter.unusedVariables false
set_option linter.unusedSimpArgs false
set_option maxRecDepth 100000
def l01New_tab : TTab := [⟨3, (.int .i64), 0⟩, ⟨4, .bool, 0⟩, ⟨5, (.int .u8), 0⟩, ⟨22, (.slice (.int .u8)), 1⟩, ⟨38, .opq, 0⟩, ⟨50, (.pair (.slice (.int .u8)) (.pair (.int .i64) (.pair (.int .i64) .unit))), 0⟩]
noncomputable def l01New_env : Env := { tab := l01New_tab, fns := [(19, Try.f19)], sigs := [] }
def l01New_anns : List Ann := [⟨19, 3, [0, 3, 4], []⟩]
abbrev l01New_ps : List Par := [.leak (.slice (.int .u8))]
abbrev l01New_outs : Outs := .one (.box (.pair (.slice (.int .u8)) (.pair (.int .i64) (.pair (.int .i64) .unit))))
abbrev l01New_R : Type := (((List Int) × (Int × (Int × Unit))) × Unit)
inductive l01New_H where
  | l0 (v0 : List Int) (v1 : Int) (v2 : Int)
noncomputable def l01New_cfg : l01New_H → Cfg
  | .l0 v0 v1 v2 => { fr := { fn := 19, fb := 0, ss := [(.pv false (.slice (.int .u8)) v0), .undef, .undef, (.pv false (.int .i64) v1), (.pv false (.int .i64) v2), .undef, .undef, .undef, .undef, .undef, .undef, .undef, .undef, .undef, .undef, .undef, .undef, .undef, .undef, .undef, .undef, .undef, .undef, .undef, .undef, .undef, .undef, .undef, .undef, .undef, .undef, .undef], todo := todoAt (bodyOf Try.f19) [false, false, true, false, true] [] }, cs := [], ob := ofList [] }
def l01New_body (rec : l01New_H → Option l01New_R) : l01New_H → Option l01New_R
  | .l0 v0 v1 v2 =>
    if (Decidable.decide (v2 < (↑v0.length : Int))) = true then
      if (Decidable.decide (v2 < 4000)) = true then
        if (Decidable.decide (0 ≤ v2)) = true then
          if (Decidable.decide (v2 < (↑v0.length : Int))) = true then
            (rec (.l0 (v0) (Go.bits Go.BinOp.and IntKind.i64 (IntKind.i64.wrap (IntKind.i64.wrap (IntKind.i64.wrap (v1 * 149) + IntKind.i64.wrap (v0.getD v2.toNat 0)) + 11)) 1073741823) (IntKind.i64.wrap (v2 + 1)))).bind some
          else
            none
        else
          none
      else
        some ((v0, 0, v1, ()), ())
    else
      some ((v0, 0, v1, ()), ())
def l01New_start (rec : l01New_H → Option l01New_R) (x0 : (List Int)) : Option l01New_R :=
  (rec (.l0 (x0) (IntKind.i64.wrap (138138 + (↑x0.length : Int))) (0))).bind some
def l01New_go : Nat → l01New_H → Option l01New_R
  | 0, _ => none
  | k + 1, h => l01New_body (l01New_go k) h
def l01New_k (k : Nat) (x0 : (List Int)) : Option l01New_R := l01New_start (l01New_go k) x0
def l01New_fn (x0 : (List Int)) : Option l01New_R := l01New_k (x0.length + 1) x0
noncomputable def l01New_sig : Sig := { ps := l01New_ps, outs := l01New_outs, fn := fun x => l01New_fn (x.1) }
theorem l01New_l0 (rec : Cfg → Option l01New_sig.R.D) (v0 : List Int) (v1 : Int) (v2 : Int) : (ev l01New_env l01New_anns l01New_sig rec 20000 (l01New_cfg (.l0 v0 v1 v2))).run = l01New_body (fun h => rec (l01New_cfg h)) (.l0 v0 v1 v2) := by kernel_rfl
theorem l01New_begin (rec : Cfg → Option l01New_sig.R.D) (x0 : (List Int)) : (ev l01New_env l01New_anns l01New_sig rec 20000 (entry l01New_sig 19 Try.f19 (bodyOf Try.f19) (x0, ()))).run = l01New_start (fun h => rec (l01New_cfg h)) x0 := by kernel_rfl
theorem l01New_tab_ok : l01New_tab.ok Try.prog = true := by decide +kernel
theorem l01New_env_ok : l01New_env.Ok Try.prog where
  mixed := by decide +kernel
  tab := l01New_tab_ok
  fns := by
    intro p hp
    simp only [l01New_env, List.mem_cons, List.not_mem_nil, or_false] at hp
    subst hp
    · exact ⟨Try.func19, by decide +kernel⟩
  sigs := by
    intro p hp
    simp only [l01New_env, List.mem_cons, List.not_mem_nil, or_false] at hp
theorem l01New_run (k : Nat) (h : l01New_H) : Om l01New_env l01New_anns l01New_sig 20000 k (l01New_cfg h) = l01New_go k h :=
  Om_go (sg := l01New_sig) (cfg := l01New_cfg) (body := l01New_body) (go := l01New_go) (fun _ => rfl) (fun _ _ => rfl) (fun rec h => by
  cases h with
  | l0 v0 v1 v2 => exact l01New_l0 rec v0 v1 v2) k h
theorem l01New_meets : Meets Try.prog 19 l01New_sig := by
  refine meets (anns := l01New_anns) (N := 20000) l01New_env_ok Try.func19 (body := bodyOf Try.f19) (by rfl) ?_
  rintro ⟨x0, ⟨⟩⟩ r hr
  refine ⟨x0.length + 1, ?_⟩
  show (ev l01New_env l01New_anns l01New_sig (Om l01New_env l01New_anns l01New_sig 20000 (x0.length + 1)) 20000 (entry l01New_sig 19 Try.f19 (bodyOf Try.f19) (x0, ()))).run = some r
  rw [l01New_begin]
  have e : (fun h => Om l01New_env l01New_anns l01New_sig 20000 (x0.length + 1) (l01New_cfg h)) = l01New_go (x0.length + 1) := funext fun h => l01New_run _ h
  rw [e]
  exact hr
end Go.Proofs.Ytbpfllifhpdlfaa.Ev
