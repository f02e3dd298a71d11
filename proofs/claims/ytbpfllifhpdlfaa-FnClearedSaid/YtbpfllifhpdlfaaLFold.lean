import Derived.Test.YtbpfllifhpdlfaaE25
import Derived.Test.YtbpfllifhpdlfaaProg
import Derived.Test.YtbpfllifhpdlfaaLareDebts
namespace Go.Proofs.Ytbpfllifhpdlfaa.Ev
open Go
set_option linter.unusedVariables false
set_option linter.unusedSimpArgs false
set_option maxRecDepth 100000
def Fold_tab : TTab := [⟨3, (.int .i64), 0⟩, ⟨4, .bool, 0⟩, ⟨24, (.slice (.pair (.int .i64) (.pair (.int .i64) (.pair (.int .i64) .unit)))), 24⟩, ⟨33, (.pair (.int .i64) (.pair (.int .i64) (.pair (.int .i64) .unit))), 0⟩, ⟨43, (.arr 20 (.int .i64)), 0⟩, ⟨44, (.arr 20 (.arr 20 (.int .i64))), 0⟩]
noncomputable def Fold_env : Env := { tab := Fold_tab, fns := [(9, Try.f9)], sigs := [(22, areDebts_sig)] }
def Fold_anns : List Ann := [⟨9, 5, [3, 14, 15, 16], []⟩, ⟨9, 11, [3, 6, 34], []⟩, ⟨9, 14, [3, 6, 7, 34, 37], []⟩]
abbrev Fold_ps : List Par := [.lent (.slice (.pair (.int .i64) (.pair (.int .i64) (.pair (.int .i64) .unit))))]
abbrev Fold_outs : Outs := .one (.own (.pair (.int .i64) (.pair (.int .i64) (.pair (.int .i64) .unit))))
abbrev Fold_R : Type := ((List (Int × (Int × (Int × Unit)))) × Unit)
inductive Fold_H where
  | l0 (v0 : List (Int × Int × Int × Unit)) (v1 : Int) (v2 : Int) (v3 : List (List Int))
  | l1 (v0 : Int) (v1 : List (List Int)) (v2 : List (Int × Int × Int × Unit))
  | l2 (v0 : Int) (v1 : Int) (v2 : Int) (v3 : List (List Int)) (v4 : List (Int × Int × Int × Unit))
noncomputable def Fold_cfg : Fold_H → Cfg
  | .l0 v0 v1 v2 v3 => { fr := { fn := 9, fb := 0, ss := [.undef, .undef, .undef, (.bptr 0 []), .undef, .undef, .undef, .undef, .undef, .undef, .undef, .undef, .undef, .undef, (.pv true (.slice (.pair (.int .i64) (.pair (.int .i64) (.pair (.int .i64) .unit)))) v0), (.pv false (.int .i64) v1), (.pv false (.int .i64) v2), .undef, .undef, .undef, .undef, .undef, .undef, .undef, .undef, .undef, .undef, .undef, .undef, .undef, .undef, .undef, .undef, .undef, .undef, .undef, .undef, .undef, .undef, .undef, .undef, .undef, .undef, .undef, .undef, .undef, .undef, .undef, .undef, .undef, .undef, .undef, .undef, .undef, .undef, .undef, .undef, .undef, .undef, .undef, .undef, .undef, .undef], todo := todoAt (bodyOf Try.f9) [false, false, false, true, false, true] [] }, cs := [], ob := ofList [.box (.arr 20 (.arr 20 (.int .i64))) (.pv false (.arr 20 (.arr 20 (.int .i64))) v3)] }
  | .l1 v0 v1 v2 => { fr := { fn := 9, fb := 0, ss := [.undef, .undef, .undef, (.bptr 0 []), .undef, .undef, (.row 1 0), .undef, .undef, .undef, .undef, .undef, .undef, .undef, .undef, .undef, .undef, .undef, .undef, .undef, .undef, .undef, .undef, .undef, .undef, .undef, .undef, .undef, .undef, .undef, .undef, .undef, .undef, .undef, (.pv false (.int .i64) v0), .undef, .undef, .undef, .undef, .undef, .undef, .undef, .undef, .undef, .undef, .undef, .undef, .undef, .undef, .undef, .undef, .undef, .undef, .undef, .undef, .undef, .undef, .undef, .undef, .undef, .undef, .undef, .undef], todo := todoAt (bodyOf Try.f9) [false, false, false, false, false, true, false, true] [] }, cs := [], ob := ofList [.box (.arr 20 (.arr 20 (.int .i64))) (.pv false (.arr 20 (.arr 20 (.int .i64))) v1), .row 0 false (.pair (.int .i64) (.pair (.int .i64) (.pair (.int .i64) .unit))) v2] }
  | .l2 v0 v1 v2 v3 v4 => { fr := { fn := 9, fb := 0, ss := [.undef, .undef, .undef, (.bptr 0 []), .undef, .undef, (.row 1 0), (.pv false (.int .i64) v0), .undef, .undef, .undef, .undef, .undef, .undef, .undef, .undef, .undef, .undef, .undef, .undef, .undef, .undef, .undef, .undef, .undef, .undef, .undef, .undef, .undef, .undef, .undef, .undef, .undef, .undef, (.pv false (.int .i64) v1), .undef, .undef, (.pv false (.int .i64) v2), .undef, .undef, .undef, .undef, .undef, .undef, .undef, .undef, .undef, .undef, .undef, .undef, .undef, .undef, .undef, .undef, .undef, .undef, .undef, .undef, .undef, .undef, .undef, .undef, .undef], todo := todoAt (bodyOf Try.f9) [false, false, false, false, false, true, false, true, true, false, false, true, true, false, false, true] [] }, cs := [], ob := ofList [.box (.arr 20 (.arr 20 (.int .i64))) (.pv false (.arr 20 (.arr 20 (.int .i64))) v3), .row 0 false (.pair (.int .i64) (.pair (.int .i64) (.pair (.int .i64) .unit))) v4] }
def Fold_body (rec : Fold_H → Option Fold_R) : Fold_H → Option Fold_R
  | .l0 v0 v1 v2 v3 =>
    if (Decidable.decide (v2 < v1)) = true then
      if (Decidable.decide (0 ≤ v2)) = true then
        if (Decidable.decide (v2 < (↑v0.length : Int))) = true then
          if (Decidable.decide (0 ≤ (v0.getD v2.toNat (0, 0, 0, ())).fst)) = true then
            if (Decidable.decide ((v0.getD v2.toNat (0, 0, 0, ())).fst < (↑20 : Int))) = true then
              if (Decidable.decide (0 ≤ (v0.getD v2.toNat (0, 0, 0, ())).snd.fst)) = true then
                if (Decidable.decide ((v0.getD v2.toNat (0, 0, 0, ())).snd.fst < (↑20 : Int))) = true then
                  if (Decidable.decide (0 ≤ (v0.getD v2.toNat (0, 0, 0, ())).fst)) = true then
                    if (Decidable.decide ((v0.getD v2.toNat (0, 0, 0, ())).fst < (↑20 : Int))) = true then
                      if (Decidable.decide (0 ≤ (v0.getD v2.toNat (0, 0, 0, ())).snd.fst)) = true then
                        if (Decidable.decide ((v0.getD v2.toNat (0, 0, 0, ())).snd.fst < (↑20 : Int))) = true then
                          (rec (.l0 (v0) (v1) (IntKind.i64.wrap (v2 + 1)) (v3.set (Int.toNat (v0.getD v2.toNat (0, 0, 0, ())).fst) ((v3.getD (Int.toNat (v0.getD v2.toNat (0, 0, 0, ())).fst) (List.replicate 20 0)).set (Int.toNat (v0.getD v2.toNat (0, 0, 0, ())).snd.fst) (IntKind.i64.wrap ((v3.getD (Int.toNat (v0.getD v2.toNat (0, 0, 0, ())).fst) (List.replicate 20 0)).getD (Int.toNat (v0.getD v2.toNat (0, 0, 0, ())).snd.fst) 0 + (v0.getD v2.toNat (0, 0, 0, ())).snd.snd.fst)))))).bind some
                        else
                          none
                      else
                        none
                    else
                      none
                  else
                    none
                else
                  none
              else
                none
            else
              none
          else
            none
        else
          none
      else
        none
    else
      (rec (.l1 (0) (v3) (List.replicate 0 (0, 0, 0, ())))).bind some
  | .l1 v0 v1 v2 =>
    if (Decidable.decide (v0 < 20)) = true then
      (rec (.l2 (v0) (v0) (0) (v1) (v2))).bind some
    else
      some (v2, ())
  | .l2 v0 v1 v2 v3 v4 =>
    if (Decidable.decide (v2 < 20)) = true then
      if (Decidable.decide (0 ≤ v0)) = true then
        if (Decidable.decide (v0 < (↑20 : Int))) = true then
          if (Decidable.decide (0 ≤ v2)) = true then
            if (Decidable.decide (v2 < (↑20 : Int))) = true then
              if (Decidable.decide (0 ≤ v2)) = true then
                if (Decidable.decide (v2 < (↑20 : Int))) = true then
                  if (Decidable.decide (0 ≤ v0)) = true then
                    if (Decidable.decide (v0 < (↑20 : Int))) = true then
                      if (Decidable.decide (IntKind.i64.wrap ((v3.getD v0.toNat (List.replicate 20 0)).getD v2.toNat 0 - (v3.getD v2.toNat (List.replicate 20 0)).getD v0.toNat 0) > 0)) = true then
                        if (Decidable.decide ((v4.length + ((List.replicate 1 (0, 0, 0, ())).set 0 (v0, v2, IntKind.i64.wrap ((v3.getD v0.toNat (List.replicate 20 0)).getD v2.toNat 0 - (v3.getD v2.toNat (List.replicate 20 0)).getD v0.toNat 0), ())).length) * 24 ≤ 140737488355328)) = true then
                          if (Decidable.decide (v4.length + ((List.replicate 1 (0, 0, 0, ())).set 0 (v0, v2, IntKind.i64.wrap ((v3.getD v0.toNat (List.replicate 20 0)).getD v2.toNat 0 - (v3.getD v2.toNat (List.replicate 20 0)).getD v0.toNat 0), ())).length ≤ 9223372036854775807)) = true then
                            (rec (.l2 (v0) (v1) (IntKind.i64.wrap (v2 + 1)) (v3) (v4 ++ (List.replicate 1 (0, 0, 0, ())).set 0 (v0, v2, IntKind.i64.wrap ((v3.getD v0.toNat (List.replicate 20 0)).getD v2.toNat 0 - (v3.getD v2.toNat (List.replicate 20 0)).getD v0.toNat 0), ())))).bind some
                          else
                            none
                        else
                          none
                      else
                        (rec (.l2 (v0) (v1) (IntKind.i64.wrap (v2 + 1)) (v3) (v4))).bind some
                    else
                      none
                  else
                    none
                else
                  none
              else
                none
            else
              none
          else
            none
        else
          none
      else
        none
    else
      (rec (.l1 (IntKind.i64.wrap (v1 + 1)) (v3) (v4))).bind some
def Fold_start (rec : Fold_H → Option Fold_R) (x0 : (List (Int × (Int × (Int × Unit))))) : Option Fold_R :=
  (areDebts_fn x0).bind fun y0 =>
    if (!y0.fst) = true then
      some ([], ())
    else
      (rec (.l0 (x0) ((↑x0.length : Int)) (0) (List.replicate 20 (List.replicate 20 0)))).bind some
def Fold_go : Nat → Fold_H → Option Fold_R
  | 0, _ => none
  | k + 1, h => Fold_body (Fold_go k) h
def Fold_k (k : Nat) (x0 : (List (Int × (Int × (Int × Unit))))) : Option Fold_R := Fold_start (Fold_go k) x0
def Fold_fn (x0 : (List (Int × (Int × (Int × Unit))))) : Option Fold_R := Fold_k (1000) x0
noncomputable def Fold_sig : Sig := { ps := Fold_ps, outs := Fold_outs, fn := fun x => Fold_fn (x.1) }
theorem Fold_l0 (rec : Cfg → Option Fold_sig.R.D) (v0 : List (Int × Int × Int × Unit)) (v1 : Int) (v2 : Int) (v3 : List (List Int)) : (ev Fold_env Fold_anns Fold_sig rec 20000 (Fold_cfg (.l0 v0 v1 v2 v3))).run = Fold_body (fun h => rec (Fold_cfg h)) (.l0 v0 v1 v2 v3) := by kernel_rfl
theorem Fold_l1 (rec : Cfg → Option Fold_sig.R.D) (v0 : Int) (v1 : List (List Int)) (v2 : List (Int × Int × Int × Unit)) : (ev Fold_env Fold_anns Fold_sig rec 20000 (Fold_cfg (.l1 v0 v1 v2))).run = Fold_body (fun h => rec (Fold_cfg h)) (.l1 v0 v1 v2) := by kernel_rfl
theorem Fold_l2 (rec : Cfg → Option Fold_sig.R.D) (v0 : Int) (v1 : Int) (v2 : Int) (v3 : List (List Int)) (v4 : List (Int × Int × Int × Unit)) : (ev Fold_env Fold_anns Fold_sig rec 20000 (Fold_cfg (.l2 v0 v1 v2 v3 v4))).run = Fold_body (fun h => rec (Fold_cfg h)) (.l2 v0 v1 v2 v3 v4) := by kernel_rfl
theorem Fold_begin (rec : Cfg → Option Fold_sig.R.D) (x0 : (List (Int × (Int × (Int × Unit))))) : (ev Fold_env Fold_anns Fold_sig rec 20000 (entry Fold_sig 9 Try.f9 (bodyOf Try.f9) (x0, ()))).run = Fold_start (fun h => rec (Fold_cfg h)) x0 := by kernel_rfl
theorem Fold_tab_ok : Fold_tab.ok Try.prog = true := by decide +kernel
theorem Fold_env_ok : Fold_env.Ok Try.prog where
  mixed := by decide +kernel
  tab := Fold_tab_ok
  fns := by
    intro p hp
    simp only [Fold_env, List.mem_cons, List.not_mem_nil, or_false] at hp
    subst hp
    · exact ⟨Try.func9, by decide +kernel⟩
  sigs := by
    intro p hp
    simp only [Fold_env, List.mem_cons, List.not_mem_nil, or_false] at hp
    subst hp
    · exact ⟨areDebts_meets, _, Try.func22, by decide +kernel⟩
theorem Fold_run (k : Nat) (h : Fold_H) : Om Fold_env Fold_anns Fold_sig 20000 k (Fold_cfg h) = Fold_go k h :=
  Om_go (sg := Fold_sig) (cfg := Fold_cfg) (body := Fold_body) (go := Fold_go) (fun _ => rfl) (fun _ _ => rfl) (fun rec h => by
  cases h with
  | l0 v0 v1 v2 v3 => exact Fold_l0 rec v0 v1 v2 v3
  | l1 v0 v1 v2 => exact Fold_l1 rec v0 v1 v2
  | l2 v0 v1 v2 v3 v4 => exact Fold_l2 rec v0 v1 v2 v3 v4) k h
theorem Fold_meets : Meets Try.prog 9 Fold_sig := by
  refine meets (anns := Fold_anns) (N := 20000) Fold_env_ok Try.func9 (body := bodyOf Try.f9) (by rfl) ?_
  rintro ⟨x0, ⟨⟩⟩ r hr
  refine ⟨1000, ?_⟩
  show (ev Fold_env Fold_anns Fold_sig (Om Fold_env Fold_anns Fold_sig 20000 (1000)) 20000 (entry Fold_sig 9 Try.f9 (bodyOf Try.f9) (x0, ()))).run = some r
  rw [Fold_begin]
  have e : (fun h => Om Fold_env Fold_anns Fold_sig 20000 (1000) (Fold_cfg h)) = Fold_go (1000) := funext fun h => Fold_run _ h
  rw [e]
  exact hr
end Go.Proofs.Ytbpfllifhpdlfaa.Ev
