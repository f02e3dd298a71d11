import Derived.Test.YtbpfllifhpdlfaaE25
import Derived.Test.YtbpfllifhpdlfaaProg
import Derived.Test.YtbpfllifhpdlfaaLl01In
namespace Go.Proofs.Ytbpfllifhpdlfaa.Ev
open Go
set_option linter.unusedVariables false
set_option linter.unusedSimpArgs false
set_option maxRecDepth 100000
def DebtsOk_tab : TTab := [⟨3, (.int .i64), 0⟩, ⟨4, .bool, 0⟩, ⟨24, (.slice (.pair (.int .i64) (.pair (.int .i64) (.pair (.int .i64) .unit)))), 24⟩, ⟨33, (.pair (.int .i64) (.pair (.int .i64) (.pair (.int .i64) .unit))), 0⟩]
noncomputable def DebtsOk_env : Env := { tab := DebtsOk_tab, fns := [(27, Try.f27)], sigs := [(28, l01In_sig)] }
def DebtsOk_anns : List Ann := [⟨27, 2, [0, 3], []⟩]
abbrev DebtsOk_ps : List Par := [.lent (.slice (.pair (.int .i64) (.pair (.int .i64) (.pair (.int .i64) .unit))))]
abbrev DebtsOk_outs : Outs := .one (.pure .bool)
abbrev DebtsOk_R : Type := (Bool × Unit)
inductive DebtsOk_H where
  | l0 (v0 : List (Int × Int × Int × Unit)) (v1 : Int)
noncomputable def DebtsOk_cfg : DebtsOk_H → Cfg
  | .l0 v0 v1 => { fr := { fn := 27, fb := 0, ss := [(.pv true (.slice (.pair (.int .i64) (.pair (.int .i64) (.pair (.int .i64) .unit)))) v0), .undef, .undef, (.pv false (.int .i64) v1), .undef, .undef, .undef, .undef, .undef, .undef, .undef, .undef, .undef, .undef, .undef, .undef, .undef, .undef, .undef, .undef, .undef, .undef, .undef, .undef, .undef, .undef, .undef, .undef, .undef, .undef, .undef, .undef, .undef, .undef, .undef, .undef, .undef, .undef, .undef, .undef, .undef], todo := todoAt (bodyOf Try.f27) [false, true, false, true] [] }, cs := [], ob := ofList [] }
def DebtsOk_body (rec : DebtsOk_H → Option DebtsOk_R) : DebtsOk_H → Option DebtsOk_R
  | .l0 v0 v1 =>
    if (Decidable.decide (v1 < (↑v0.length : Int))) = true then
      if (Decidable.decide (0 ≤ v1)) = true then
        if (Decidable.decide (v1 < (↑v0.length : Int))) = true then
          (l01In_fn (v0.getD v1.toNat (0, 0, 0, ())).fst 0 19).bind fun y0 =>
            if (!y0.fst) = true then
              some (Bool.false, ())
            else
              (l01In_fn (v0.getD v1.toNat (0, 0, 0, ())).snd.fst 0 19).bind fun y1 =>
                if (!y1.fst) = true then
                  some (Bool.false, ())
                else
                  if ((v0.getD v1.toNat (0, 0, 0, ())).fst == (v0.getD v1.toNat (0, 0, 0, ())).snd.fst) = true then
                    some (Bool.false, ())
                  else
                    (l01In_fn (v0.getD v1.toNat (0, 0, 0, ())).snd.snd.fst 1 1000000000).bind fun y2 =>
                      if (!y2.fst) = true then
                        some (Bool.false, ())
                      else
                        (rec (.l0 (v0) (IntKind.i64.wrap (v1 + 1)))).bind some
        else
          none
      else
        none
    else
      some (Decidable.decide ((↑v0.length : Int) ≤ 60), ())
def DebtsOk_start (rec : DebtsOk_H → Option DebtsOk_R) (x0 : (List (Int × (Int × (Int × Unit))))) : Option DebtsOk_R :=
  (rec (.l0 (x0) (0))).bind some
def DebtsOk_go : Nat → DebtsOk_H → Option DebtsOk_R
  | 0, _ => none
  | k + 1, h => DebtsOk_body (DebtsOk_go k) h
def DebtsOk_k (k : Nat) (x0 : (List (Int × (Int × (Int × Unit))))) : Option DebtsOk_R := DebtsOk_start (DebtsOk_go k) x0
def DebtsOk_fn (x0 : (List (Int × (Int × (Int × Unit))))) : Option DebtsOk_R := DebtsOk_k (x0.length + 1) x0
noncomputable def DebtsOk_sig : Sig := { ps := DebtsOk_ps, outs := DebtsOk_outs, fn := fun x => DebtsOk_fn (x.1) }
theorem DebtsOk_l0 (rec : Cfg → Option DebtsOk_sig.R.D) (v0 : List (Int × Int × Int × Unit)) (v1 : Int) : (ev DebtsOk_env DebtsOk_anns DebtsOk_sig rec 20000 (DebtsOk_cfg (.l0 v0 v1))).run = DebtsOk_body (fun h => rec (DebtsOk_cfg h)) (.l0 v0 v1) := by kernel_rfl
theorem DebtsOk_begin (rec : Cfg → Option DebtsOk_sig.R.D) (x0 : (List (Int × (Int × (Int × Unit))))) : (ev DebtsOk_env DebtsOk_anns DebtsOk_sig rec 20000 (entry DebtsOk_sig 27 Try.f27 (bodyOf Try.f27) (x0, ()))).run = DebtsOk_start (fun h => rec (DebtsOk_cfg h)) x0 := by kernel_rfl
theorem DebtsOk_tab_ok : DebtsOk_tab.ok Try.prog = true := by decide +kernel
theorem DebtsOk_env_ok : DebtsOk_env.Ok Try.prog where
  mixed := by decide +kernel
  tab := DebtsOk_tab_ok
  fns := by
    intro p hp
    simp only [DebtsOk_env, List.mem_cons, List.not_mem_nil, or_false] at hp
    subst hp
    · exact ⟨Try.func27, by decide +kernel⟩
  sigs := by
    intro p hp
    simp only [DebtsOk_env, List.mem_cons, List.not_mem_nil, or_false] at hp
    subst hp
    · exact ⟨l01In_meets, _, Try.func28, by decide +kernel⟩
theorem DebtsOk_run (k : Nat) (h : DebtsOk_H) : Om DebtsOk_env DebtsOk_anns DebtsOk_sig 20000 k (DebtsOk_cfg h) = DebtsOk_go k h :=
  Om_go (sg := DebtsOk_sig) (cfg := DebtsOk_cfg) (body := DebtsOk_body) (go := DebtsOk_go) (fun _ => rfl) (fun _ _ => rfl) (fun rec h => by
  cases h with
  | l0 v0 v1 => exact DebtsOk_l0 rec v0 v1) k h
theorem DebtsOk_meets : Meets Try.prog 27 DebtsOk_sig := by
  refine meets (anns := DebtsOk_anns) (N := 20000) DebtsOk_env_ok Try.func27 (body := bodyOf Try.f27) (by rfl) ?_
  rintro ⟨x0, ⟨⟩⟩ r hr
  refine ⟨x0.length + 1, ?_⟩
  show (ev DebtsOk_env DebtsOk_anns DebtsOk_sig (Om DebtsOk_env DebtsOk_anns DebtsOk_sig 20000 (x0.length + 1)) 20000 (entry DebtsOk_sig 27 Try.f27 (bodyOf Try.f27) (x0, ()))).run = some r
  rw [DebtsOk_begin]
  have e : (fun h => Om DebtsOk_env DebtsOk_anns DebtsOk_sig 20000 (x0.length + 1) (DebtsOk_cfg h)) = DebtsOk_go (x0.length + 1) := funext fun h => DebtsOk_run _ h
  rw [e]
  exact hr
end Go.Proofs.Ytbpfllifhpdlfaa.Ev
