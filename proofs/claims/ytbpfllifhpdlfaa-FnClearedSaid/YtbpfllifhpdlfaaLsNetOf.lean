import Derived.Test.YtbpfllifhpdlfaaE25
import Derived.Test.YtbpfllifhpdlfaaProg
import Derived.Test.YtbpfllifhpdlfaaLDebtsOk
namespace Go.Proofs.Ytbpfllifhpdlfaa.Ev
open Go
set_option linter.unusedVariables false
set_option linter.unusedSimpArgs false
set_option maxRecDepth 100000
def sNetOf_tab : TTab := [⟨3, (.int .i64), 0⟩, ⟨4, .bool, 0⟩, ⟨24, (.slice (.pair (.int .i64) (.pair (.int .i64) (.pair (.int .i64) .unit)))), 24⟩, ⟨25, (.slice (.int .i64)), 8⟩, ⟨33, (.pair (.int .i64) (.pair (.int .i64) (.pair (.int .i64) .unit))), 0⟩]
noncomputable def sNetOf_env : Env := { tab := sNetOf_tab, fns := [(10, Try.f10)], sigs := [(27, DebtsOk_sig)] }
def sNetOf_anns : List Ann := [⟨10, 5, [0, 3, 4], []⟩]
abbrev sNetOf_ps : List Par := [.lent (.slice (.pair (.int .i64) (.pair (.int .i64) (.pair (.int .i64) .unit))))]
abbrev sNetOf_outs : Outs := .one (.own (.int .i64))
abbrev sNetOf_R : Type := ((List Int) × Unit)
inductive sNetOf_H where
  | l0 (v0 : List (Int × Int × Int × Unit)) (v1 : Int) (v2 : List Int)
noncomputable def sNetOf_cfg : sNetOf_H → Cfg
  | .l0 v0 v1 v2 => { fr := { fn := 10, fb := 0, ss := [(.pv true (.slice (.pair (.int .i64) (.pair (.int .i64) (.pair (.int .i64) .unit)))) v0), .undef, .undef, (.row 0 0), (.pv false (.int .i64) v1), .undef, .undef, .undef, .undef, .undef, .undef, .undef, .undef, .undef, .undef, .undef, .undef, .undef, .undef, .undef, .undef, .undef, .undef, .undef, .undef, .undef, .undef, .undef, .undef, .undef, .undef, .undef, .undef, .undef, .undef, .undef, .undef, .undef, .undef, .undef, .undef, .undef, .undef, .undef, .undef, .undef, .undef, .undef, .undef, .undef, .undef, .undef, .undef, .undef, .undef, .undef, .undef, .undef], todo := todoAt (bodyOf Try.f10) [false, false, false, true, false, true] [] }, cs := [], ob := ofList [.row 0 false (.int .i64) v2] }
def sNetOf_body (rec : sNetOf_H → Option sNetOf_R) : sNetOf_H → Option sNetOf_R
  | .l0 v0 v1 v2 =>
    if (Decidable.decide (v1 < (↑v0.length : Int))) = true then
      if (Decidable.decide (0 ≤ v1)) = true then
        if (Decidable.decide (v1 < (↑v0.length : Int))) = true then
          if (Decidable.decide (0 ≤ v1)) = true then
            if (Decidable.decide (v1 < (↑v0.length : Int))) = true then
              if (Decidable.decide (0 ≤ (v0.getD v1.toNat (0, 0, 0, ())).fst)) = true then
                if (Decidable.decide ((v0.getD v1.toNat (0, 0, 0, ())).fst < (↑v2.length : Int))) = true then
                  if (Decidable.decide (0 ≤ v1)) = true then
                    if (Decidable.decide (v1 < (↑v0.length : Int))) = true then
                      if (Decidable.decide (0 ≤ (v0.getD v1.toNat (0, 0, 0, ())).fst)) = true then
                        if (Decidable.decide ((v0.getD v1.toNat (0, 0, 0, ())).fst < (↑v2.length : Int))) = true then
                          if (Decidable.decide (0 ≤ v1)) = true then
                            if (Decidable.decide (v1 < (↑v0.length : Int))) = true then
                              if (Decidable.decide (0 ≤ v1)) = true then
                                if (Decidable.decide (v1 < (↑v0.length : Int))) = true then
                                  if (Decidable.decide (0 ≤ (v0.getD v1.toNat (0, 0, 0, ())).snd.fst)) = true then
                                    if (Decidable.decide ((v0.getD v1.toNat (0, 0, 0, ())).snd.fst < (↑(v2.set (Int.toNat (v0.getD v1.toNat (0, 0, 0, ())).fst) (IntKind.i64.wrap (v2.getD (Int.toNat (v0.getD v1.toNat (0, 0, 0, ())).fst) 0 - (v0.getD v1.toNat (0, 0, 0, ())).snd.snd.fst))).length : Int))) = true then
                                      if (Decidable.decide (0 ≤ v1)) = true then
                                        if (Decidable.decide (v1 < (↑v0.length : Int))) = true then
                                          if (Decidable.decide (0 ≤ (v0.getD v1.toNat (0, 0, 0, ())).snd.fst)) = true then
                                            if (Decidable.decide ((v0.getD v1.toNat (0, 0, 0, ())).snd.fst < (↑(v2.set (Int.toNat (v0.getD v1.toNat (0, 0, 0, ())).fst) (IntKind.i64.wrap (v2.getD (Int.toNat (v0.getD v1.toNat (0, 0, 0, ())).fst) 0 - (v0.getD v1.toNat (0, 0, 0, ())).snd.snd.fst))).length : Int))) = true then
                                              (rec (.l0 (v0) (IntKind.i64.wrap (v1 + 1)) ((v2.set (Int.toNat (v0.getD v1.toNat (0, 0, 0, ())).fst) (IntKind.i64.wrap (v2.getD (Int.toNat (v0.getD v1.toNat (0, 0, 0, ())).fst) 0 - (v0.getD v1.toNat (0, 0, 0, ())).snd.snd.fst))).set (Int.toNat (v0.getD v1.toNat (0, 0, 0, ())).snd.fst) (IntKind.i64.wrap ((v2.set (Int.toNat (v0.getD v1.toNat (0, 0, 0, ())).fst) (IntKind.i64.wrap (v2.getD (Int.toNat (v0.getD v1.toNat (0, 0, 0, ())).fst) 0 - (v0.getD v1.toNat (0, 0, 0, ())).snd.snd.fst))).getD (Int.toNat (v0.getD v1.toNat (0, 0, 0, ())).snd.fst) 0 + (v0.getD v1.toNat (0, 0, 0, ())).snd.snd.fst))))).bind some
                                            else
                                              none
                                          else
                                            none
                                        else
                                          none
                                      else
                                        none
                                    else
                                      none
                                  else
                                    none
                                else
                                  none
                              else
                                none
                            else
                              none
                          else
                            none
                        else
                          none
                      else
                        none
                    else
                      none
                  else
                    none
                else
                  none
              else
                none
            else
              none
          else
            none
        else
          none
      else
        none
    else
      some (v2, ())
def sNetOf_start (rec : sNetOf_H → Option sNetOf_R) (x0 : (List (Int × (Int × (Int × Unit))))) : Option sNetOf_R :=
  (DebtsOk_fn x0).bind fun y0 =>
    if (!y0.fst) = true then
      some ([], ())
    else
      (rec (.l0 (x0) (0) (List.replicate (Int.toNat 20) 0))).bind some
def sNetOf_go : Nat → sNetOf_H → Option sNetOf_R
  | 0, _ => none
  | k + 1, h => sNetOf_body (sNetOf_go k) h
def sNetOf_k (k : Nat) (x0 : (List (Int × (Int × (Int × Unit))))) : Option sNetOf_R := sNetOf_start (sNetOf_go k) x0
def sNetOf_fn (x0 : (List (Int × (Int × (Int × Unit))))) : Option sNetOf_R := sNetOf_k (x0.length + 1) x0
noncomputable def sNetOf_sig : Sig := { ps := sNetOf_ps, outs := sNetOf_outs, fn := fun x => sNetOf_fn (x.1) }
theorem sNetOf_l0 (rec : Cfg → Option sNetOf_sig.R.D) (v0 : List (Int × Int × Int × Unit)) (v1 : Int) (v2 : List Int) : (ev sNetOf_env sNetOf_anns sNetOf_sig rec 20000 (sNetOf_cfg (.l0 v0 v1 v2))).run = sNetOf_body (fun h => rec (sNetOf_cfg h)) (.l0 v0 v1 v2) := by kernel_rfl
theorem sNetOf_begin (rec : Cfg → Option sNetOf_sig.R.D) (x0 : (List (Int × (Int × (Int × Unit))))) : (ev sNetOf_env sNetOf_anns sNetOf_sig rec 20000 (entry sNetOf_sig 10 Try.f10 (bodyOf Try.f10) (x0, ()))).run = sNetOf_start (fun h => rec (sNetOf_cfg h)) x0 := by kernel_rfl
theorem sNetOf_tab_ok : sNetOf_tab.ok Try.prog = true := by decide +kernel
theorem sNetOf_env_ok : sNetOf_env.Ok Try.prog where
  mixed := by decide +kernel
  tab := sNetOf_tab_ok
  fns := by
    intro p hp
    simp only [sNetOf_env, List.mem_cons, List.not_mem_nil, or_false] at hp
    subst hp
    · exact ⟨Try.func10, by decide +kernel⟩
  sigs := by
    intro p hp
    simp only [sNetOf_env, List.mem_cons, List.not_mem_nil, or_false] at hp
    subst hp
    · exact ⟨DebtsOk_meets, _, Try.func27, by decide +kernel⟩
theorem sNetOf_run (k : Nat) (h : sNetOf_H) : Om sNetOf_env sNetOf_anns sNetOf_sig 20000 k (sNetOf_cfg h) = sNetOf_go k h :=
  Om_go (sg := sNetOf_sig) (cfg := sNetOf_cfg) (body := sNetOf_body) (go := sNetOf_go) (fun _ => rfl) (fun _ _ => rfl) (fun rec h => by
  cases h with
  | l0 v0 v1 v2 => exact sNetOf_l0 rec v0 v1 v2) k h
theorem sNetOf_meets : Meets Try.prog 10 sNetOf_sig := by
  refine meets (anns := sNetOf_anns) (N := 20000) sNetOf_env_ok Try.func10 (body := bodyOf Try.f10) (by rfl) ?_
  rintro ⟨x0, ⟨⟩⟩ r hr
  refine ⟨x0.length + 1, ?_⟩
  show (ev sNetOf_env sNetOf_anns sNetOf_sig (Om sNetOf_env sNetOf_anns sNetOf_sig 20000 (x0.length + 1)) 20000 (entry sNetOf_sig 10 Try.f10 (bodyOf Try.f10) (x0, ()))).run = some r
  rw [sNetOf_begin]
  have e : (fun h => Om sNetOf_env sNetOf_anns sNetOf_sig 20000 (x0.length + 1) (sNetOf_cfg h)) = sNetOf_go (x0.length + 1) := funext fun h => sNetOf_run _ h
  rw [e]
  exact hr
end Go.Proofs.Ytbpfllifhpdlfaa.Ev
