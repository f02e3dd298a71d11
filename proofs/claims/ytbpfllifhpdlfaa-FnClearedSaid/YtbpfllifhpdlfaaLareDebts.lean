import Derived.Test.YtbpfllifhpdlfaaE25
import Derived.Test.YtbpfllifhpdlfaaProg
import Derived.Test.YtbpfllifhpdlfaaLisBadDebt
namespace Go.Proofs.Ytbpfllifhpdlfaa.Ev
open Go
set_option linter.unusedVariables false
set_option linter.unusedSimpArgs false
set_option maxRecDepth 100000
def areDebts_tab : TTab := [⟨3, (.int .i64), 0⟩, ⟨4, .bool, 0⟩, ⟨24, (.slice (.pair (.int .i64) (.pair (.int .i64) (.pair (.int .i64) .unit)))), 24⟩, ⟨33, (.pair (.int .i64) (.pair (.int .i64) (.pair (.int .i64) .unit))), 0⟩, ⟨55, .opq, 0⟩]
noncomputable def areDebts_env : Env := { tab := areDebts_tab, fns := [(22, Try.f22), (35, Try.f35), (39, Try.f39)], sigs := [(36, isBadDebt_sig)] }
def areDebts_anns : List Ann := [⟨39, 2, [0, 1, 7, 8], []⟩]
abbrev areDebts_ps : List Par := [.lent (.slice (.pair (.int .i64) (.pair (.int .i64) (.pair (.int .i64) .unit))))]
abbrev areDebts_outs : Outs := .one (.pure .bool)
abbrev areDebts_R : Type := (Bool × Unit)
inductive areDebts_H where
  | l0 (v0 : List (Int × Int × Int × Unit)) (v1 : Int) (v2 : Int) (v3 : List (Int × Int × Int × Unit)) (v4 : Bool) (v5 : List (Int × Int × Int × Unit)) (v6 : List (Int × Int × Int × Unit)) (v7 : Bool) (v8 : List (Int × Int × Int × Unit)) (v9 : Int) (v10 : Bool) (v11 : Bool) (v12 : List (Int × Int × Int × Unit))
noncomputable def areDebts_cfg : areDebts_H → Cfg
  | .l0 v0 v1 v2 v3 v4 v5 v6 v7 v8 v9 v10 v11 v12 => { fr := { fn := 39, fb := 1653586591744, ss := [(.pv true (.slice (.pair (.int .i64) (.pair (.int .i64) (.pair (.int .i64) .unit)))) v0), (.fn 36 []), .undef, .undef, .undef, .undef, .undef, (.pv false (.int .i64) v1), (.pv false (.int .i64) v2), .undef, .undef, .undef, .undef, .undef, .undef, .undef, .undef, .undef, .undef], todo := todoAt (bodyOf Try.f39) [false, true, false, true] [] }, cs := [{ fn := 35, fb := 25231360, ss := [(.pv true (.slice (.pair (.int .i64) (.pair (.int .i64) (.pair (.int .i64) .unit)))) v3), (.fn 36 []), .undef, .undef, (.pv false .bool v4), (.pv true (.slice (.pair (.int .i64) (.pair (.int .i64) (.pair (.int .i64) .unit)))) v5), (.fn 36 []), .undef, .undef], todo := callAt (bodyOf Try.f35) [false, true] 2 [] }, { fn := 22, fb := 0, ss := [(.pv true (.slice (.pair (.int .i64) (.pair (.int .i64) (.pair (.int .i64) .unit)))) v6), .undef, (.pv false .bool v7), (.pv true (.slice (.pair (.int .i64) (.pair (.int .i64) (.pair (.int .i64) .unit)))) v8), (.pv false (.int .i64) v9), (.pv false .bool v10), (.pv false .bool v11), (.pv true (.slice (.pair (.int .i64) (.pair (.int .i64) (.pair (.int .i64) .unit)))) v12), .undef, .undef, .undef], todo := callAt (bodyOf Try.f22) [false, true] 5 [] }], ob := ofList [] }
def areDebts_body (rec : areDebts_H → Option areDebts_R) : areDebts_H → Option areDebts_R
  | .l0 v0 v1 v2 v3 v4 v5 v6 v7 v8 v9 v10 v11 v12 =>
    if (Decidable.decide (v2 < v1)) = true then
      if (Decidable.decide (0 ≤ v2)) = true then
        if (Decidable.decide (v2 < (↑v0.length : Int))) = true then
          (isBadDebt_fn (v0.getD v2.toNat (0, 0, 0, ()))).bind fun y0 =>
            if (y0.fst) = true then
              if (v11) = true then
                some (!Decidable.decide (v2 ≥ 0), ())
              else
                some (Bool.false, ())
            else
              (rec (.l0 (v0) (v1) (IntKind.i64.wrap (v2 + 1)) (v3) (v4) (v5) (v6) (v7) (v8) (v9) (v10) (v11) (v12))).bind some
        else
          none
      else
        none
    else
      if (v11) = true then
        some (!Decidable.decide (-1 ≥ 0), ())
      else
        some (Bool.false, ())
def areDebts_start (rec : areDebts_H → Option areDebts_R) (x0 : (List (Int × (Int × (Int × Unit))))) : Option areDebts_R :=
  if (Decidable.decide ((↑x0.length : Int) ≤ 60)) = true then
    (rec (.l0 (x0) ((↑x0.length : Int)) (0) (x0) (Bool.false) (x0) (x0) (Bool.false) (x0) ((↑x0.length : Int)) (Decidable.decide ((↑x0.length : Int) ≤ 60)) (Bool.true) (x0))).bind some
  else
    some (Bool.false, ())
def areDebts_go : Nat → areDebts_H → Option areDebts_R
  | 0, _ => none
  | k + 1, h => areDebts_body (areDebts_go k) h
def areDebts_k (k : Nat) (x0 : (List (Int × (Int × (Int × Unit))))) : Option areDebts_R := areDebts_start (areDebts_go k) x0
def areDebts_fn (x0 : (List (Int × (Int × (Int × Unit))))) : Option areDebts_R := areDebts_k (x0.length + 1) x0
noncomputable def areDebts_sig : Sig := { ps := areDebts_ps, outs := areDebts_outs, fn := fun x => areDebts_fn (x.1) }
theorem areDebts_l0 (rec : Cfg → Option areDebts_sig.R.D) (v0 : List (Int × Int × Int × Unit)) (v1 : Int) (v2 : Int) (v3 : List (Int × Int × Int × Unit)) (v4 : Bool) (v5 : List (Int × Int × Int × Unit)) (v6 : List (Int × Int × Int × Unit)) (v7 : Bool) (v8 : List (Int × Int × Int × Unit)) (v9 : Int) (v10 : Bool) (v11 : Bool) (v12 : List (Int × Int × Int × Unit)) : (ev areDebts_env areDebts_anns areDebts_sig rec 20000 (areDebts_cfg (.l0 v0 v1 v2 v3 v4 v5 v6 v7 v8 v9 v10 v11 v12))).run = areDebts_body (fun h => rec (areDebts_cfg h)) (.l0 v0 v1 v2 v3 v4 v5 v6 v7 v8 v9 v10 v11 v12) := by kernel_rfl
theorem areDebts_begin (rec : Cfg → Option areDebts_sig.R.D) (x0 : (List (Int × (Int × (Int × Unit))))) : (ev areDebts_env areDebts_anns areDebts_sig rec 20000 (entry areDebts_sig 22 Try.f22 (bodyOf Try.f22) (x0, ()))).run = areDebts_start (fun h => rec (areDebts_cfg h)) x0 := by kernel_rfl
theorem areDebts_tab_ok : areDebts_tab.ok Try.prog = true := by decide +kernel
theorem areDebts_env_ok : areDebts_env.Ok Try.prog where
  mixed := by decide +kernel
  tab := areDebts_tab_ok
  fns := by
    intro p hp
    simp only [areDebts_env, List.mem_cons, List.not_mem_nil, or_false] at hp
    rcases hp with rfl | rfl | rfl
    · exact ⟨Try.func22, by decide +kernel⟩
    · exact ⟨Try.func35, by decide +kernel⟩
    · exact ⟨Try.func39, by decide +kernel⟩
  sigs := by
    intro p hp
    simp only [areDebts_env, List.mem_cons, List.not_mem_nil, or_false] at hp
    subst hp
    · exact ⟨isBadDebt_meets, _, Try.func36, by decide +kernel⟩
theorem areDebts_run (k : Nat) (h : areDebts_H) : Om areDebts_env areDebts_anns areDebts_sig 20000 k (areDebts_cfg h) = areDebts_go k h :=
  Om_go (sg := areDebts_sig) (cfg := areDebts_cfg) (body := areDebts_body) (go := areDebts_go) (fun _ => rfl) (fun _ _ => rfl) (fun rec h => by
  cases h with
  | l0 v0 v1 v2 v3 v4 v5 v6 v7 v8 v9 v10 v11 v12 => exact areDebts_l0 rec v0 v1 v2 v3 v4 v5 v6 v7 v8 v9 v10 v11 v12) k h
theorem areDebts_meets : Meets Try.prog 22 areDebts_sig := by
  refine meets (anns := areDebts_anns) (N := 20000) areDebts_env_ok Try.func22 (body := bodyOf Try.f22) (by rfl) ?_
  rintro ⟨x0, ⟨⟩⟩ r hr
  refine ⟨x0.length + 1, ?_⟩
  show (ev areDebts_env areDebts_anns areDebts_sig (Om areDebts_env areDebts_anns areDebts_sig 20000 (x0.length + 1)) 20000 (entry areDebts_sig 22 Try.f22 (bodyOf Try.f22) (x0, ()))).run = some r
  rw [areDebts_begin]
  have e : (fun h => Om areDebts_env areDebts_anns areDebts_sig 20000 (x0.length + 1) (areDebts_cfg h)) = areDebts_go (x0.length + 1) := funext fun h => areDebts_run _ h
  rw [e]
  exact hr
end Go.Proofs.Ytbpfllifhpdlfaa.Ev
