import Derived.Test.YtbpfllifhpdlfaaE25
import Derived.Test.YtbpfllifhpdlfaaProg
import Derived.Test.YtbpfllifhpdlfaaLareDebts
import Derived.Test.YtbpfllifhpdlfaaLnetOf
import Derived.Test.YtbpfllifhpdlfaaLIndex
import Derived.Test.YtbpfllifhpdlfaaLMin
import Derived.Test.YtbpfllifhpdlfaaLMax
namespace Go.Proofs.Ytbpfllifhpdlfaa.Ev
open Go
set_option linter.unusedVariables false
set_option linter.unusedSimpArgs false
set_option maxRecDepth 100000
def ClearAll_tab : TTab := [⟨3, (.int .i64), 0⟩, ⟨4, .bool, 0⟩, ⟨24, (.slice (.pair (.int .i64) (.pair (.int .i64) (.pair (.int .i64) .unit)))), 24⟩, ⟨25, (.slice (.int .i64)), 8⟩, ⟨33, (.pair (.int .i64) (.pair (.int .i64) (.pair (.int .i64) .unit))), 0⟩]
noncomputable def ClearAll_env : Env := { tab := ClearAll_tab, fns := [(8, Try.f8)], sigs := [(22, areDebts_sig), (23, netOf_sig), (24, Index_sig), (25, Min_sig), (26, Max_sig)] }
def ClearAll_anns : List Ann := [⟨8, 5, [3, 4], []⟩]
abbrev ClearAll_ps : List Par := [.lent (.slice (.pair (.int .i64) (.pair (.int .i64) (.pair (.int .i64) .unit))))]
abbrev ClearAll_outs : Outs := .one (.own (.pair (.int .i64) (.pair (.int .i64) (.pair (.int .i64) .unit))))
abbrev ClearAll_R : Type := ((List (Int × (Int × (Int × Unit)))) × Unit)
inductive ClearAll_H where
  | l0 (v0 : List Int) (v1 : List (Int × Int × Int × Unit))
noncomputable def ClearAll_cfg : ClearAll_H → Cfg
  | .l0 v0 v1 => { fr := { fn := 8, fb := 0, ss := [.undef, .undef, .undef, (.row 0 0), (.row 1 0), .undef, .undef, .undef, .undef, .undef, .undef, .undef, .undef, .undef, .undef, .undef, .undef, .undef, .undef, .undef, .undef, .undef, .undef, .undef, .undef, .undef, .undef, .undef, .undef, .undef, .undef, .undef, .undef, .undef, .undef, .undef, .undef, .undef, .undef, .undef, .undef, .undef, .undef, .undef, .undef, .undef, .undef, .undef, .undef, .undef, .undef, .undef, .undef, .undef, .undef, .undef], todo := todoAt (bodyOf Try.f8) [false, false, false, false, true] [] }, cs := [], ob := ofList [.row 0 false (.int .i64) v0, .row 0 false (.pair (.int .i64) (.pair (.int .i64) (.pair (.int .i64) .unit))) v1] }
def ClearAll_body (rec : ClearAll_H → Option ClearAll_R) : ClearAll_H → Option ClearAll_R
  | .l0 v0 v1 =>
    (Min_fn v0).bind fun y2 =>
      (Index_fn v0 y2.fst).bind fun y3 =>
        (Max_fn v0).bind fun y4 =>
          (Index_fn v0 y4.fst).bind fun y5 =>
            if (Decidable.decide (0 ≤ y3.fst)) = true then
              if (Decidable.decide (y3.fst < (↑v0.length : Int))) = true then
                if (Decidable.decide (0 ≤ y5.fst)) = true then
                  if (Decidable.decide (y5.fst < (↑v0.length : Int))) = true then
                    if ((if Bool.false = Bool.true then if v0.getD (Int.toNat y5.fst) 0 > IntKind.i64.wrap (0 - v0.getD (Int.toNat y3.fst) 0) then v0.getD (Int.toNat y5.fst) 0 else IntKind.i64.wrap (0 - v0.getD (Int.toNat y3.fst) 0) else if v0.getD (Int.toNat y5.fst) 0 < IntKind.i64.wrap (0 - v0.getD (Int.toNat y3.fst) 0) then v0.getD (Int.toNat y5.fst) 0 else IntKind.i64.wrap (0 - v0.getD (Int.toNat y3.fst) 0)) == 0) = true then
                      some (v1, ())
                    else
                      if (Decidable.decide (0 ≤ y3.fst)) = true then
                        if (Decidable.decide (y3.fst < (↑v0.length : Int))) = true then
                          if (Decidable.decide (0 ≤ y3.fst)) = true then
                            if (Decidable.decide (y3.fst < (↑v0.length : Int))) = true then
                              if (Decidable.decide (0 ≤ y5.fst)) = true then
                                if (Decidable.decide (y5.fst < (↑(v0.set (Int.toNat y3.fst) (IntKind.i64.wrap (v0.getD (Int.toNat y3.fst) 0 + if Bool.false = Bool.true then if v0.getD (Int.toNat y5.fst) 0 > IntKind.i64.wrap (0 - v0.getD (Int.toNat y3.fst) 0) then v0.getD (Int.toNat y5.fst) 0 else IntKind.i64.wrap (0 - v0.getD (Int.toNat y3.fst) 0) else if v0.getD (Int.toNat y5.fst) 0 < IntKind.i64.wrap (0 - v0.getD (Int.toNat y3.fst) 0) then v0.getD (Int.toNat y5.fst) 0 else IntKind.i64.wrap (0 - v0.getD (Int.toNat y3.fst) 0)))).length : Int))) = true then
                                  if (Decidable.decide (0 ≤ y5.fst)) = true then
                                    if (Decidable.decide (y5.fst < (↑(v0.set (Int.toNat y3.fst) (IntKind.i64.wrap (v0.getD (Int.toNat y3.fst) 0 + if Bool.false = Bool.true then if v0.getD (Int.toNat y5.fst) 0 > IntKind.i64.wrap (0 - v0.getD (Int.toNat y3.fst) 0) then v0.getD (Int.toNat y5.fst) 0 else IntKind.i64.wrap (0 - v0.getD (Int.toNat y3.fst) 0) else if v0.getD (Int.toNat y5.fst) 0 < IntKind.i64.wrap (0 - v0.getD (Int.toNat y3.fst) 0) then v0.getD (Int.toNat y5.fst) 0 else IntKind.i64.wrap (0 - v0.getD (Int.toNat y3.fst) 0)))).length : Int))) = true then
                                      if (Decidable.decide ((v1.length + ((List.replicate 1 (0, 0, 0, ())).set 0 (y3.fst, y5.fst, if Bool.false = Bool.true then if v0.getD (Int.toNat y5.fst) 0 > IntKind.i64.wrap (0 - v0.getD (Int.toNat y3.fst) 0) then v0.getD (Int.toNat y5.fst) 0 else IntKind.i64.wrap (0 - v0.getD (Int.toNat y3.fst) 0) else if v0.getD (Int.toNat y5.fst) 0 < IntKind.i64.wrap (0 - v0.getD (Int.toNat y3.fst) 0) then v0.getD (Int.toNat y5.fst) 0 else IntKind.i64.wrap (0 - v0.getD (Int.toNat y3.fst) 0), ())).length) * 24 ≤ 140737488355328)) = true then
                                        if (Decidable.decide (v1.length + ((List.replicate 1 (0, 0, 0, ())).set 0 (y3.fst, y5.fst, if Bool.false = Bool.true then if v0.getD (Int.toNat y5.fst) 0 > IntKind.i64.wrap (0 - v0.getD (Int.toNat y3.fst) 0) then v0.getD (Int.toNat y5.fst) 0 else IntKind.i64.wrap (0 - v0.getD (Int.toNat y3.fst) 0) else if v0.getD (Int.toNat y5.fst) 0 < IntKind.i64.wrap (0 - v0.getD (Int.toNat y3.fst) 0) then v0.getD (Int.toNat y5.fst) 0 else IntKind.i64.wrap (0 - v0.getD (Int.toNat y3.fst) 0), ())).length ≤ 9223372036854775807)) = true then
                                          (rec (.l0 ((v0.set (Int.toNat y3.fst) (IntKind.i64.wrap (v0.getD (Int.toNat y3.fst) 0 + if Bool.false = Bool.true then if v0.getD (Int.toNat y5.fst) 0 > IntKind.i64.wrap (0 - v0.getD (Int.toNat y3.fst) 0) then v0.getD (Int.toNat y5.fst) 0 else IntKind.i64.wrap (0 - v0.getD (Int.toNat y3.fst) 0) else if v0.getD (Int.toNat y5.fst) 0 < IntKind.i64.wrap (0 - v0.getD (Int.toNat y3.fst) 0) then v0.getD (Int.toNat y5.fst) 0 else IntKind.i64.wrap (0 - v0.getD (Int.toNat y3.fst) 0)))).set (Int.toNat y5.fst) (IntKind.i64.wrap ((v0.set (Int.toNat y3.fst) (IntKind.i64.wrap (v0.getD (Int.toNat y3.fst) 0 + if Bool.false = Bool.true then if v0.getD (Int.toNat y5.fst) 0 > IntKind.i64.wrap (0 - v0.getD (Int.toNat y3.fst) 0) then v0.getD (Int.toNat y5.fst) 0 else IntKind.i64.wrap (0 - v0.getD (Int.toNat y3.fst) 0) else if v0.getD (Int.toNat y5.fst) 0 < IntKind.i64.wrap (0 - v0.getD (Int.toNat y3.fst) 0) then v0.getD (Int.toNat y5.fst) 0 else IntKind.i64.wrap (0 - v0.getD (Int.toNat y3.fst) 0)))).getD (Int.toNat y5.fst) 0 - if Bool.false = Bool.true then if v0.getD (Int.toNat y5.fst) 0 > IntKind.i64.wrap (0 - v0.getD (Int.toNat y3.fst) 0) then v0.getD (Int.toNat y5.fst) 0 else IntKind.i64.wrap (0 - v0.getD (Int.toNat y3.fst) 0) else if v0.getD (Int.toNat y5.fst) 0 < IntKind.i64.wrap (0 - v0.getD (Int.toNat y3.fst) 0) then v0.getD (Int.toNat y5.fst) 0 else IntKind.i64.wrap (0 - v0.getD (Int.toNat y3.fst) 0)))) (v1 ++ (List.replicate 1 (0, 0, 0, ())).set 0 (y3.fst, y5.fst, if Bool.false = Bool.true then if v0.getD (Int.toNat y5.fst) 0 > IntKind.i64.wrap (0 - v0.getD (Int.toNat y3.fst) 0) then v0.getD (Int.toNat y5.fst) 0 else IntKind.i64.wrap (0 - v0.getD (Int.toNat y3.fst) 0) else if v0.getD (Int.toNat y5.fst) 0 < IntKind.i64.wrap (0 - v0.getD (Int.toNat y3.fst) 0) then v0.getD (Int.toNat y5.fst) 0 else IntKind.i64.wrap (0 - v0.getD (Int.toNat y3.fst) 0), ())))).bind some
                                        else
                                          none
                                      else
                                        none
                                    else
                                      none
                                  else
                                    none
                                else
                                  none
                              else
                                none
                            else
                              none
                          else
                            none
                        else
                          none
                      else
                        none
                  else
                    none
                else
                  none
              else
                none
            else
              none
def ClearAll_start (rec : ClearAll_H → Option ClearAll_R) (x0 : (List (Int × (Int × (Int × Unit))))) : Option ClearAll_R :=
  (areDebts_fn x0).bind fun y0 =>
    if (!y0.fst) = true then
      some ([], ())
    else
      (netOf_fn x0).bind fun y1 =>
        (rec (.l0 (y1.fst) (List.replicate 0 (0, 0, 0, ())))).bind some
def ClearAll_go : Nat → ClearAll_H → Option ClearAll_R
  | 0, _ => none
  | k + 1, h => ClearAll_body (ClearAll_go k) h
def ClearAll_k (k : Nat) (x0 : (List (Int × (Int × (Int × Unit))))) : Option ClearAll_R := ClearAll_start (ClearAll_go k) x0
def ClearAll_fn (x0 : (List (Int × (Int × (Int × Unit))))) : Option ClearAll_R := ClearAll_k (1000) x0
noncomputable def ClearAll_sig : Sig := { ps := ClearAll_ps, outs := ClearAll_outs, fn := fun x => ClearAll_fn (x.1) }
theorem ClearAll_l0 (rec : Cfg → Option ClearAll_sig.R.D) (v0 : List Int) (v1 : List (Int × Int × Int × Unit)) : (ev ClearAll_env ClearAll_anns ClearAll_sig rec 20000 (ClearAll_cfg (.l0 v0 v1))).run = ClearAll_body (fun h => rec (ClearAll_cfg h)) (.l0 v0 v1) := by kernel_rfl
theorem ClearAll_begin (rec : Cfg → Option ClearAll_sig.R.D) (x0 : (List (Int × (Int × (Int × Unit))))) : (ev ClearAll_env ClearAll_anns ClearAll_sig rec 20000 (entry ClearAll_sig 8 Try.f8 (bodyOf Try.f8) (x0, ()))).run = ClearAll_start (fun h => rec (ClearAll_cfg h)) x0 := by kernel_rfl
theorem ClearAll_tab_ok : ClearAll_tab.ok Try.prog = true := by decide +kernel
theorem ClearAll_env_ok : ClearAll_env.Ok Try.prog where
  mixed := by decide +kernel
  tab := ClearAll_tab_ok
  fns := by
    intro p hp
    simp only [ClearAll_env, List.mem_cons, List.not_mem_nil, or_false] at hp
    subst hp
    · exact ⟨Try.func8, by decide +kernel⟩
  sigs := by
    intro p hp
    simp only [ClearAll_env, List.mem_cons, List.not_mem_nil, or_false] at hp
    rcases hp with rfl | rfl | rfl | rfl | rfl
    · exact ⟨areDebts_meets, _, Try.func22, by decide +kernel⟩
    · exact ⟨netOf_meets, _, Try.func23, by decide +kernel⟩
    · exact ⟨Index_meets, _, Try.func24, by decide +kernel⟩
    · exact ⟨Min_meets, _, Try.func25, by decide +kernel⟩
    · exact ⟨Max_meets, _, Try.func26, by decide +kernel⟩
theorem ClearAll_run (k : Nat) (h : ClearAll_H) : Om ClearAll_env ClearAll_anns ClearAll_sig 20000 k (ClearAll_cfg h) = ClearAll_go k h :=
  Om_go (sg := ClearAll_sig) (cfg := ClearAll_cfg) (body := ClearAll_body) (go := ClearAll_go) (fun _ => rfl) (fun _ _ => rfl) (fun rec h => by
  cases h with
  | l0 v0 v1 => exact ClearAll_l0 rec v0 v1) k h
theorem ClearAll_meets : Meets Try.prog 8 ClearAll_sig := by
  refine meets (anns := ClearAll_anns) (N := 20000) ClearAll_env_ok Try.func8 (body := bodyOf Try.f8) (by rfl) ?_
  rintro ⟨x0, ⟨⟩⟩ r hr
  refine ⟨1000, ?_⟩
  show (ev ClearAll_env ClearAll_anns ClearAll_sig (Om ClearAll_env ClearAll_anns ClearAll_sig 20000 (1000)) 20000 (entry ClearAll_sig 8 Try.f8 (bodyOf Try.f8) (x0, ()))).run = some r
  rw [ClearAll_begin]
  have e : (fun h => Om ClearAll_env ClearAll_anns ClearAll_sig 20000 (1000) (ClearAll_cfg h)) = ClearAll_go (1000) := funext fun h => ClearAll_run _ h
  rw [e]
  exact hr
end Go.Proofs.Ytbpfllifhpdlfaa.Ev
