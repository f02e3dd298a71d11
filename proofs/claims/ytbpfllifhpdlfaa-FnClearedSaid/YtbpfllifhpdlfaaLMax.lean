import Derived.Test.YtbpfllifhpdlfaaE25
import Derived.Test.YtbpfllifhpdlfaaProg
namespace Go.Proofs.Ytbpfllifhpdlfaa.Ev
open Go
set_option linter.unusedVariables false
set_option linter.unusedSimpArgs false
set_option maxRecDepth 100000
def Max_tab : TTab := [⟨3, (.int .i64), 0⟩, ⟨4, .bool, 0⟩, ⟨20, .opq, 0⟩, ⟨25, (.slice (.int .i64)), 8⟩]
noncomputable def Max_env : Env := { tab := Max_tab, fns := [(26, Try.f26)], sigs := [] }
def Max_anns : List Ann := [⟨26, 5, [0, 3, 4], []⟩]
abbrev Max_ps : List Par := [.lent (.slice (.int .i64))]
abbrev Max_outs : Outs := .one (.pure (.int .i64))
abbrev Max_R : Type := (Int × Unit)
inductive Max_H where
  | l0 (v0 : List Int) (v1 : Int) (v2 : Int)
noncomputable def Max_cfg : Max_H → Cfg
  | .l0 v0 v1 v2 => { fr := { fn := 26, fb := 0, ss := [(.pv true (.slice (.int .i64)) v0), .undef, .undef, (.pv false (.int .i64) v1), (.pv false (.int .i64) v2), .undef, .undef, .undef, .undef, .undef, .undef, .undef, .undef, .undef, .undef, .undef, .undef, .undef, .undef, .undef, .undef, .undef, .undef, .undef, .undef], todo := todoAt (bodyOf Try.f26) [false, false, false, true, false, true] [] }, cs := [], ob := ofList [] }
def Max_body (rec : Max_H → Option Max_R) : Max_H → Option Max_R
  | .l0 v0 v1 v2 =>
    if (Decidable.decide (v2 < (↑v0.length : Int))) = true then
      if (Decidable.decide (0 ≤ v2)) = true then
        if (Decidable.decide (v2 < (↑v0.length : Int))) = true then
          (rec (.l0 (v0) (if Bool.true = Bool.true then if v0.getD v2.toNat 0 > v1 then v0.getD v2.toNat 0 else v1 else if v0.getD v2.toNat 0 < v1 then v0.getD v2.toNat 0 else v1) (IntKind.i64.wrap (v2 + 1)))).bind some
        else
          none
      else
        none
    else
      some (v1, ())
def Max_start (rec : Max_H → Option Max_R) (x0 : (List Int)) : Option Max_R :=
  if (Decidable.decide ((↑x0.length : Int) < 1)) = true then
    none
  else
    if (Decidable.decide (0 < (↑x0.length : Int))) = true then
      (rec (.l0 (x0) (x0.getD (Int.toNat 0) 0) (1))).bind some
    else
      none
def Max_go : Nat → Max_H → Option Max_R
  | 0, _ => none
  | k + 1, h => Max_body (Max_go k) h
def Max_k (k : Nat) (x0 : (List Int)) : Option Max_R := Max_start (Max_go k) x0
def Max_fn (x0 : (List Int)) : Option Max_R := Max_k (x0.length + 1) x0
noncomputable def Max_sig : Sig := { ps := Max_ps, outs := Max_outs, fn := fun x => Max_fn (x.1) }
theorem Max_l0 (rec : Cfg → Option Max_sig.R.D) (v0 : List Int) (v1 : Int) (v2 : Int) : (ev Max_env Max_anns Max_sig rec 20000 (Max_cfg (.l0 v0 v1 v2))).run = Max_body (fun h => rec (Max_cfg h)) (.l0 v0 v1 v2) := by kernel_rfl
theorem Max_begin (rec : Cfg → Option Max_sig.R.D) (x0 : (List Int)) : (ev Max_env Max_anns Max_sig rec 20000 (entry Max_sig 26 Try.f26 (bodyOf Try.f26) (x0, ()))).run = Max_start (fun h => rec (Max_cfg h)) x0 := by kernel_rfl
theorem Max_tab_ok : Max_tab.ok Try.prog = true := by decide +kernel
theorem Max_env_ok : Max_env.Ok Try.prog where
  mixed := by decide +kernel
  tab := Max_tab_ok
  fns := by
    intro p hp
    simp only [Max_env, List.mem_cons, List.not_mem_nil, or_false] at hp
    subst hp
    · exact ⟨Try.func26, by decide +kernel⟩
  sigs := by
    intro p hp
    simp only [Max_env, List.mem_cons, List.not_mem_nil, or_false] at hp
theorem Max_run (k : Nat) (h : Max_H) : Om Max_env Max_anns Max_sig 20000 k (Max_cfg h) = Max_go k h :=
  Om_go (sg := Max_sig) (cfg := Max_cfg) (body := Max_body) (go := Max_go) (fun _ => rfl) (fun _ _ => rfl) (fun rec h => by
  cases h with
  | l0 v0 v1 v2 => exact Max_l0 rec v0 v1 v2) k h
theorem Max_meets : Meets Try.prog 26 Max_sig := by
  refine meets (anns := Max_anns) (N := 20000) Max_env_ok Try.func26 (body := bodyOf Try.f26) (by rfl) ?_
  rintro ⟨x0, ⟨⟩⟩ r hr
  refine ⟨x0.length + 1, ?_⟩
  show (ev Max_env Max_anns Max_sig (Om Max_env Max_anns Max_sig 20000 (x0.length + 1)) 20000 (entry Max_sig 26 Try.f26 (bodyOf Try.f26) (x0, ()))).run = some r
  rw [Max_begin]
  have e : (fun h => Om Max_env Max_anns Max_sig 20000 (x0.length + 1) (Max_cfg h)) = Max_go (x0.length + 1) := funext fun h => Max_run _ h
  rw [e]
  exact hr
end Go.Proofs.Ytbpfllifhpdlfaa.Ev
