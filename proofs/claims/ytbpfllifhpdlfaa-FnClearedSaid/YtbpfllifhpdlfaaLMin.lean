import Derived.Test.YtbpfllifhpdlfaaE25
import Derived.Test.YtbpfllifhpdlfaaProg
namespace Go.Proofs.Ytbpfllifhpdlfaa.Ev
open Go
set_option linter.unusedVariables false
set_option linter.unusedSimpArgs false
set_option maxRecDepth 100000
def Min_tab : TTab := [⟨3, (.int .i64), 0⟩, ⟨4, .bool, 0⟩, ⟨20, .opq, 0⟩, ⟨25, (.slice (.int .i64)), 8⟩]
noncomputable def Min_env : Env := { tab := Min_tab, fns := [(25, Try.f25)], sigs := [] }
def Min_anns : List Ann := [⟨25, 5, [0, 3, 4], []⟩]
abbrev Min_ps : List Par := [.lent (.slice (.int .i64))]
abbrev Min_outs : Outs := .one (.pure (.int .i64))
abbrev Min_R : Type := (Int × Unit)
inductive Min_H where
  | l0 (v0 : List Int) (v1 : Int) (v2 : Int)
noncomputable def Min_cfg : Min_H → Cfg
  | .l0 v0 v1 v2 => { fr := { fn := 25, fb := 0, ss := [(.pv true (.slice (.int .i64)) v0), .undef, .undef, (.pv false (.int .i64) v1), (.pv false (.int .i64) v2), .undef, .undef, .undef, .undef, .undef, .undef, .undef, .undef, .undef, .undef, .undef, .undef, .undef, .undef, .undef, .undef, .undef, .undef, .undef, .undef], todo := todoAt (bodyOf Try.f25) [false, false, false, true, false, true] [] }, cs := [], ob := ofList [] }
def Min_body (rec : Min_H → Option Min_R) : Min_H → Option Min_R
  | .l0 v0 v1 v2 =>
    if (Decidable.decide (v2 < (↑v0.length : Int))) = true then
      if (Decidable.decide (0 ≤ v2)) = true then
        if (Decidable.decide (v2 < (↑v0.length : Int))) = true then
          (rec (.l0 (v0) (if Bool.false = Bool.true then if v0.getD v2.toNat 0 > v1 then v0.getD v2.toNat 0 else v1 else if v0.getD v2.toNat 0 < v1 then v0.getD v2.toNat 0 else v1) (IntKind.i64.wrap (v2 + 1)))).bind some
        else
          none
      else
        none
    else
      some (v1, ())
def Min_start (rec : Min_H → Option Min_R) (x0 : (List Int)) : Option Min_R :=
  if (Decidable.decide ((↑x0.length : Int) < 1)) = true then
    none
  else
    if (Decidable.decide (0 < (↑x0.length : Int))) = true then
      (rec (.l0 (x0) (x0.getD (Int.toNat 0) 0) (1))).bind some
    else
      none
def Min_go : Nat → Min_H → Option Min_R
  | 0, _ => none
  | k + 1, h => Min_body (Min_go k) h
def Min_k (k : Nat) (x0 : (List Int)) : Option Min_R := Min_start (Min_go k) x0
def Min_fn (x0 : (List Int)) : Option Min_R := Min_k (x0.length + 1) x0
noncomputable def Min_sig : Sig := { ps := Min_ps, outs := Min_outs, fn := fun x => Min_fn (x.1) }
theorem Min_l0 (rec : Cfg → Option Min_sig.R.D) (v0 : List Int) (v1 : Int) (v2 : Int) : (ev Min_env Min_anns Min_sig rec 20000 (Min_cfg (.l0 v0 v1 v2))).run = Min_body (fun h => rec (Min_cfg h)) (.l0 v0 v1 v2) := by kernel_rfl
theorem Min_begin (rec : Cfg → Option Min_sig.R.D) (x0 : (List Int)) : (ev Min_env Min_anns Min_sig rec 20000 (entry Min_sig 25 Try.f25 (bodyOf Try.f25) (x0, ()))).run = Min_start (fun h => rec (Min_cfg h)) x0 := by kernel_rfl
theorem Min_tab_ok : Min_tab.ok Try.prog = true := by decide +kernel
theorem Min_env_ok : Min_env.Ok Try.prog where
  mixed := by decide +kernel
  tab := Min_tab_ok
  fns := by
    intro p hp
    simp only [Min_env, List.mem_cons, List.not_mem_nil, or_false] at hp
    subst hp
    · exact ⟨Try.func25, by decide +kernel⟩
  sigs := by
    intro p hp
    simp only [Min_env, List.mem_cons, List.not_mem_nil, or_false] at hp
theorem Min_run (k : Nat) (h : Min_H) : Om Min_env Min_anns Min_sig 20000 k (Min_cfg h) = Min_go k h :=
  Om_go (sg := Min_sig) (cfg := Min_cfg) (body := Min_body) (go := Min_go) (fun _ => rfl) (fun _ _ => rfl) (fun rec h => by
  cases h with
  | l0 v0 v1 v2 => exact Min_l0 rec v0 v1 v2) k h
theorem Min_meets : Meets Try.prog 25 Min_sig := by
  refine meets (anns := Min_anns) (N := 20000) Min_env_ok Try.func25 (body := bodyOf Try.f25) (by rfl) ?_
  rintro ⟨x0, ⟨⟩⟩ r hr
  refine ⟨x0.length + 1, ?_⟩
  show (ev Min_env Min_anns Min_sig (Om Min_env Min_anns Min_sig 20000 (x0.length + 1)) 20000 (entry Min_sig 25 Try.f25 (bodyOf Try.f25) (x0, ()))).run = some r
  rw [Min_begin]
  have e : (fun h => Om Min_env Min_anns Min_sig 20000 (x0.length + 1) (Min_cfg h)) = Min_go (x0.length + 1) := funext fun h => Min_run _ h
  rw [e]
  exact hr
end Go.Proofs.Ytbpfllifhpdlfaa.Ev
