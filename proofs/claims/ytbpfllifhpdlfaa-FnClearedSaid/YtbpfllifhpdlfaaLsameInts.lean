import Derived.Test.YtbpfllifhpdlfaaE25
import Derived.Test.YtbpfllifhpdlfaaProg
namespace Go.Proofs.Ytbpfllifhpdlfaa.Ev
open Go
set_option linter.unusedVariables false
set_option linter.unusedSimpArgs false
set_option maxRecDepth 100000
def sameInts_tab : TTab := [⟨3, (.int .i64), 0⟩, ⟨4, .bool, 0⟩, ⟨25, (.slice (.int .i64)), 8⟩]
noncomputable def sameInts_env : Env := { tab := sameInts_tab, fns := [(12, Try.f12)], sigs := [] }
def sameInts_anns : List Ann := [⟨12, 4, [0, 1, 5], []⟩]
abbrev sameInts_ps : List Par := [.lent (.slice (.int .i64)), .lent (.slice (.int .i64))]
abbrev sameInts_outs : Outs := .one (.pure .bool)
abbrev sameInts_R : Type := (Bool × Unit)
inductive sameInts_H where
  | l0 (v0 : List Int) (v1 : List Int) (v2 : Int)
noncomputable def sameInts_cfg : sameInts_H → Cfg
  | .l0 v0 v1 v2 => { fr := { fn := 12, fb := 0, ss := [(.pv true (.slice (.int .i64)) v0), (.pv true (.slice (.int .i64)) v1), .undef, .undef, .undef, (.pv false (.int .i64) v2), .undef, .undef, .undef, .undef, .undef, .undef, .undef, .undef, .undef, .undef, .undef, .undef, .undef, .undef, .undef, .undef, .undef, .undef, .undef, .undef], todo := todoAt (bodyOf Try.f12) [false, false, true, false, true] [] }, cs := [], ob := ofList [] }
def sameInts_body (rec : sameInts_H → Option sameInts_R) : sameInts_H → Option sameInts_R
  | .l0 v0 v1 v2 =>
    if (Decidable.decide (v2 < (↑v0.length : Int))) = true then
      if (Decidable.decide (0 ≤ v2)) = true then
        if (Decidable.decide (v2 < (↑v0.length : Int))) = true then
          if (Decidable.decide (0 ≤ v2)) = true then
            if (Decidable.decide (v2 < (↑v1.length : Int))) = true then
              if (v0.getD v2.toNat 0 != v1.getD v2.toNat 0) = true then
                some (Bool.false, ())
              else
                (rec (.l0 (v0) (v1) (IntKind.i64.wrap (v2 + 1)))).bind some
            else
              none
          else
            none
        else
          none
      else
        none
    else
      some (Bool.true, ())
def sameInts_start (rec : sameInts_H → Option sameInts_R) (x0 : (List Int)) (x1 : (List Int)) : Option sameInts_R :=
  if ((↑x0.length : Int) != (↑x1.length : Int)) = true then
    some (Bool.false, ())
  else
    (rec (.l0 (x0) (x1) (0))).bind some
def sameInts_go : Nat → sameInts_H → Option sameInts_R
  | 0, _ => none
  | k + 1, h => sameInts_body (sameInts_go k) h
def sameInts_k (k : Nat) (x0 : (List Int)) (x1 : (List Int)) : Option sameInts_R := sameInts_start (sameInts_go k) x0 x1
def sameInts_fn (x0 : (List Int)) (x1 : (List Int)) : Option sameInts_R := sameInts_k (x0.length + 1) x0 x1
noncomputable def sameInts_sig : Sig := { ps := sameInts_ps, outs := sameInts_outs, fn := fun x => sameInts_fn (x.1) (x.2.1) }
theorem sameInts_l0 (rec : Cfg → Option sameInts_sig.R.D) (v0 : List Int) (v1 : List Int) (v2 : Int) : (ev sameInts_env sameInts_anns sameInts_sig rec 20000 (sameInts_cfg (.l0 v0 v1 v2))).run = sameInts_body (fun h => rec (sameInts_cfg h)) (.l0 v0 v1 v2) := by kernel_rfl
theorem sameInts_begin (rec : Cfg → Option sameInts_sig.R.D) (x0 : (List Int)) (x1 : (List Int)) : (ev sameInts_env sameInts_anns sameInts_sig rec 20000 (entry sameInts_sig 12 Try.f12 (bodyOf Try.f12) (x0, x1, ()))).run = sameInts_start (fun h => rec (sameInts_cfg h)) x0 x1 := by kernel_rfl
theorem sameInts_tab_ok : sameInts_tab.ok Try.prog = true := by decide +kernel
theorem sameInts_env_ok : sameInts_env.Ok Try.prog where
  mixed := by decide +kernel
  tab := sameInts_tab_ok
  fns := by
    intro p hp
    simp only [sameInts_env, List.mem_cons, List.not_mem_nil, or_false] at hp
    subst hp
    · exact ⟨Try.func12, by decide +kernel⟩
  sigs := by
    intro p hp
    simp only [sameInts_env, List.mem_cons, List.not_mem_nil, or_false] at hp
theorem sameInts_run (k : Nat) (h : sameInts_H) : Om sameInts_env sameInts_anns sameInts_sig 20000 k (sameInts_cfg h) = sameInts_go k h :=
  Om_go (sg := sameInts_sig) (cfg := sameInts_cfg) (body := sameInts_body) (go := sameInts_go) (fun _ => rfl) (fun _ _ => rfl) (fun rec h => by
  cases h with
  | l0 v0 v1 v2 => exact sameInts_l0 rec v0 v1 v2) k h
theorem sameInts_meets : Meets Try.prog 12 sameInts_sig := by
  refine meets (anns := sameInts_anns) (N := 20000) sameInts_env_ok Try.func12 (body := bodyOf Try.f12) (by rfl) ?_
  rintro ⟨x0, x1, ⟨⟩⟩ r hr
  refine ⟨x0.length + 1, ?_⟩
  show (ev sameInts_env sameInts_anns sameInts_sig (Om sameInts_env sameInts_anns sameInts_sig 20000 (x0.length + 1)) 20000 (entry sameInts_sig 12 Try.f12 (bodyOf Try.f12) (x0, x1, ()))).run = some r
  rw [sameInts_begin]
  have e : (fun h => Om sameInts_env sameInts_anns sameInts_sig 20000 (x0.length + 1) (sameInts_cfg h)) = sameInts_go (x0.length + 1) := funext fun h => sameInts_run _ h
  rw [e]
  exact hr
end Go.Proofs.Ytbpfllifhpdlfaa.Ev
