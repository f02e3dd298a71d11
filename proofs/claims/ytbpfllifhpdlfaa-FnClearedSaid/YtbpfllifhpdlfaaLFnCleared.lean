import Derived.Test.YtbpfllifhpdlfaaE25
import Derived.Test.YtbpfllifhpdlfaaProg
import Derived.Test.YtbpfllifhpdlfaaLbig
import Derived.Test.YtbpfllifhpdlfaaLDrawRightDebts
import Derived.Test.YtbpfllifhpdlfaaLiNetOf
import Derived.Test.YtbpfllifhpdlfaaLClearAll
import Derived.Test.YtbpfllifhpdlfaaLFold
import Derived.Test.YtbpfllifhpdlfaaLsNetOf
import Derived.Test.YtbpfllifhpdlfaaLiDebtsOk
import Derived.Test.YtbpfllifhpdlfaaLsameInts
namespace Go.Proofs.Ytbpfllifhpdlfaa.Ev
open Go
set_option linter.unusedVariables false
set_option linter.unusedSimpArgs false
set_option maxRecDepth 100000
def FnCleared_tab : TTab := [⟨3, (.int .i64), 0⟩, ⟨4, .bool, 0⟩, ⟨22, (.slice (.int .u8)), 1⟩, ⟨24, (.slice (.pair (.int .i64) (.pair (.int .i64) (.pair (.int .i64) .unit)))), 24⟩, ⟨25, (.slice (.int .i64)), 8⟩, ⟨33, (.pair (.int .i64) (.pair (.int .i64) (.pair (.int .i64) .unit))), 0⟩]
noncomputable def FnCleared_env : Env := { tab := FnCleared_tab, fns := [(3, Try.f3)], sigs := [(5, big_sig), (6, DrawRightDebts_sig), (7, iNetOf_sig), (8, ClearAll_sig), (9, Fold_sig), (10, sNetOf_sig), (11, iDebtsOk_sig), (12, sameInts_sig)] }
def FnCleared_anns : List Ann := [⟨3, 14, [5, 6, 7, 9, 10, 11], []⟩, ⟨3, 20, [5, 6, 7, 9, 10, 11, 12], []⟩, ⟨3, 25, [6, 7, 9, 10, 13], []⟩]
abbrev FnCleared_ps : List Par := [.leak (.slice (.int .u8))]
abbrev FnCleared_outs : Outs := .one (.pure .bool)
abbrev FnCleared_R : Type := (Bool × Unit)
inductive FnCleared_H where
  | l0 (v0 : Int) (v1 : Int) (v2 : Int) (v3 : List Int) (v4 : List (Int × Int × Int × Unit)) (v5 : List (Int × Int × Int × Unit))
  | l1 (v0 : Int) (v1 : Int) (v2 : Int) (v3 : Int) (v4 : List Int) (v5 : List (Int × Int × Int × Unit)) (v6 : List (Int × Int × Int × Unit))
  | l2 (v0 : Int) (v1 : Int) (v2 : Int) (v3 : List (Int × Int × Int × Unit)) (v4 : List (Int × Int × Int × Unit))
noncomputable def FnCleared_cfg : FnCleared_H → Cfg
  | .l0 v0 v1 v2 v3 v4 v5 => { fr := { fn := 3, fb := 0, ss := [.undef, .undef, .undef, .undef, .undef, (.row 0 0), (.row 1 0), (.row 2 0), .undef, (.pv false (.int .i64) v0), (.pv false (.int .i64) v1), (.pv false (.int .i64) v2), .undef, .undef, .undef, .undef, .undef, .undef, .undef, .undef, .undef, .undef, .undef, .undef, .undef, .undef, .undef, .undef, .undef, .undef, .undef, .undef, .undef, .undef, .undef, .undef, .undef, .undef, .undef, .undef, .undef, .undef, .undef, .undef, .undef, .undef, .undef, .undef, .undef, .undef, .undef, .undef, .undef, .undef, .undef, .undef, .undef, .undef, .undef, .undef, .undef, .undef, .undef, .undef, .undef, .undef, .undef, .undef, .undef, .undef, .undef, .undef, .undef, .undef, .undef, .undef, .undef, .undef, .undef, .undef, .undef, .undef, .undef, .undef, .undef, .undef, .undef, .undef, .undef, .undef, .undef, .undef, .undef, .undef, .undef, .undef, .undef, .undef, .undef, .undef, .undef, .undef, .undef, .undef, .undef, .undef, .undef, .undef, .undef, .undef, .undef, .undef, .undef, .undef, .undef, .undef, .undef, .undef, .undef, .undef, .undef, .undef, .undef, .undef, .undef, .undef, .undef, .undef, .undef, .undef, .undef, .undef, .undef, .undef, .undef, .undef, .undef, .undef, .undef, .undef, .undef, .undef, .undef, .undef, .undef, .undef, .undef, .undef, .undef, .undef, .undef, .undef, .undef, .undef, .undef, .undef, .undef, .undef, .undef, .undef, .undef, .undef, .undef, .undef, .undef, .undef, .undef, .undef, .undef, .undef, .undef, .undef, .undef], todo := todoAt (bodyOf Try.f3) [false, false, false, false, false, false, false, false, false, false, true, false, true] [] }, cs := [], ob := ofList [.row 0 false (.int .i64) v3, .row 0 false (.pair (.int .i64) (.pair (.int .i64) (.pair (.int .i64) .unit))) v4, .row 0 false (.pair (.int .i64) (.pair (.int .i64) (.pair (.int .i64) .unit))) v5] }
  | .l1 v0 v1 v2 v3 v4 v5 v6 => { fr := { fn := 3, fb := 0, ss := [.undef, .undef, .undef, .undef, .undef, (.row 0 0), (.row 1 0), (.row 2 0), .undef, (.pv false (.int .i64) v0), (.pv false (.int .i64) v1), (.pv false (.int .i64) v2), (.pv false (.int .i64) v3), .undef, .undef, .undef, .undef, .undef, .undef, .undef, .undef, .undef, .undef, .undef, .undef, .undef, .undef, .undef, .undef, .undef, .undef, .undef, .undef, .undef, .undef, .undef, .undef, .undef, .undef, .undef, .undef, .undef, .undef, .undef, .undef, .undef, .undef, .undef, .undef, .undef, .undef, .undef, .undef, .undef, .undef, .undef, .undef, .undef, .undef, .undef, .undef, .undef, .undef, .undef, .undef, .undef, .undef, .undef, .undef, .undef, .undef, .undef, .undef, .undef, .undef, .undef, .undef, .undef, .undef, .undef, .undef, .undef, .undef, .undef, .undef, .undef, .undef, .undef, .undef, .undef, .undef, .undef, .undef, .undef, .undef, .undef, .undef, .undef, .undef, .undef, .undef, .undef, .undef, .undef, .undef, .undef, .undef, .undef, .undef, .undef, .undef, .undef, .undef, .undef, .undef, .undef, .undef, .undef, .undef, .undef, .undef, .undef, .undef, .undef, .undef, .undef, .undef, .undef, .undef, .undef, .undef, .undef, .undef, .undef, .undef, .undef, .undef, .undef, .undef, .undef, .undef, .undef, .undef, .undef, .undef, .undef, .undef, .undef, .undef, .undef, .undef, .undef, .undef, .undef, .undef, .undef, .undef, .undef, .undef, .undef, .undef, .undef, .undef, .undef, .undef, .undef, .undef, .undef, .undef, .undef, .undef, .undef, .undef], todo := todoAt (bodyOf Try.f3) [false, false, false, false, false, false, false, false, false, false, true, false, true, true, false, true, true, false, false, false, true] [] }, cs := [], ob := ofList [.row 0 false (.int .i64) v4, .row 0 false (.pair (.int .i64) (.pair (.int .i64) (.pair (.int .i64) .unit))) v5, .row 0 false (.pair (.int .i64) (.pair (.int .i64) (.pair (.int .i64) .unit))) v6] }
  | .l2 v0 v1 v2 v3 v4 => { fr := { fn := 3, fb := 0, ss := [.undef, .undef, .undef, .undef, .undef, .undef, (.row 0 0), (.row 1 0), .undef, (.pv false (.int .i64) v0), (.pv false (.int .i64) v1), .undef, .undef, (.pv false (.int .i64) v2), .undef, .undef, .undef, .undef, .undef, .undef, .undef, .undef, .undef, .undef, .undef, .undef, .undef, .undef, .undef, .undef, .undef, .undef, .undef, .undef, .undef, .undef, .undef, .undef, .undef, .undef, .undef, .undef, .undef, .undef, .undef, .undef, .undef, .undef, .undef, .undef, .undef, .undef, .undef, .undef, .undef, .undef, .undef, .undef, .undef, .undef, .undef, .undef, .undef, .undef, .undef, .undef, .undef, .undef, .undef, .undef, .undef, .undef, .undef, .undef, .undef, .undef, .undef, .undef, .undef, .undef, .undef, .undef, .undef, .undef, .undef, .undef, .undef, .undef, .undef, .undef, .undef, .undef, .undef, .undef, .undef, .undef, .undef, .undef, .undef, .undef, .undef, .undef, .undef, .undef, .undef, .undef, .undef, .undef, .undef, .undef, .undef, .undef, .undef, .undef, .undef, .undef, .undef, .undef, .undef, .undef, .undef, .undef, .undef, .undef, .undef, .undef, .undef, .undef, .undef, .undef, .undef, .undef, .undef, .undef, .undef, .undef, .undef, .undef, .undef, .undef, .undef, .undef, .undef, .undef, .undef, .undef, .undef, .undef, .undef, .undef, .undef, .undef, .undef, .undef, .undef, .undef, .undef, .undef, .undef, .undef, .undef, .undef, .undef, .undef, .undef, .undef, .undef, .undef, .undef, .undef, .undef, .undef, .undef], todo := todoAt (bodyOf Try.f3) [false, false, false, false, false, false, false, false, false, false, false, true, false, true] [] }, cs := [], ob := ofList [.row 0 false (.pair (.int .i64) (.pair (.int .i64) (.pair (.int .i64) .unit))) v3, .row 0 false (.pair (.int .i64) (.pair (.int .i64) (.pair (.int .i64) .unit))) v4] }
def FnCleared_body (rec : FnCleared_H → Option FnCleared_R) : FnCleared_H → Option FnCleared_R
  | .l0 v0 v1 v2 v3 v4 v5 =>
    if (Decidable.decide (v2 < (↑v3.length : Int))) = true then
      if (Decidable.decide (0 ≤ v2)) = true then
        if (Decidable.decide (v2 < (↑v3.length : Int))) = true then
          if (Decidable.decide (0 ≤ v2)) = true then
            if (Decidable.decide (v2 < (↑v3.length : Int))) = true then
              if (v3.getD v2.toNat 0 != 0) = true then
                (rec (.l1 (IntKind.i64.wrap (v0 + v3.getD v2.toNat 0)) (IntKind.i64.wrap (v1 + 1)) (v2) (0) (v3) (v4) (v5))).bind some
              else
                (rec (.l1 (IntKind.i64.wrap (v0 + v3.getD v2.toNat 0)) (v1) (v2) (0) (v3) (v4) (v5))).bind some
            else
              none
          else
            none
        else
          none
      else
        none
    else
      (rec (.l2 (v0) (v1) (1) (v4) (v5))).bind some
  | .l1 v0 v1 v2 v3 v4 v5 v6 =>
    if (Decidable.decide (v3 < (↑v5.length : Int))) = true then
      if (Decidable.decide (0 ≤ v3)) = true then
        if (Decidable.decide (v3 < (↑v5.length : Int))) = true then
          if ((v5.getD v3.toNat (0, 0, 0, ())).fst == v2) = true then
            if (Decidable.decide (0 ≤ v2)) = true then
              if (Decidable.decide (v2 < (↑v4.length : Int))) = true then
                if (Decidable.decide (v4.getD v2.toNat 0 ≥ 0)) = true then
                  some (Bool.false, ())
                else
                  if (Decidable.decide (0 ≤ v3)) = true then
                    if (Decidable.decide (v3 < (↑v5.length : Int))) = true then
                      if ((v5.getD v3.toNat (0, 0, 0, ())).snd.fst == v2) = true then
                        if (Decidable.decide (0 ≤ v2)) = true then
                          if (Decidable.decide (v2 < (↑v4.length : Int))) = true then
                            if (Decidable.decide (v4.getD v2.toNat 0 ≤ 0)) = true then
                              some (Bool.false, ())
                            else
                              (rec (.l1 (v0) (v1) (v2) (IntKind.i64.wrap (v3 + 1)) (v4) (v5) (v6))).bind some
                          else
                            none
                        else
                          none
                      else
                        (rec (.l1 (v0) (v1) (v2) (IntKind.i64.wrap (v3 + 1)) (v4) (v5) (v6))).bind some
                    else
                      none
                  else
                    none
              else
                none
            else
              none
          else
            if (Decidable.decide (0 ≤ v3)) = true then
              if (Decidable.decide (v3 < (↑v5.length : Int))) = true then
                if ((v5.getD v3.toNat (0, 0, 0, ())).snd.fst == v2) = true then
                  if (Decidable.decide (0 ≤ v2)) = true then
                    if (Decidable.decide (v2 < (↑v4.length : Int))) = true then
                      if (Decidable.decide (v4.getD v2.toNat 0 ≤ 0)) = true then
                        some (Bool.false, ())
                      else
                        (rec (.l1 (v0) (v1) (v2) (IntKind.i64.wrap (v3 + 1)) (v4) (v5) (v6))).bind some
                    else
                      none
                  else
                    none
                else
                  (rec (.l1 (v0) (v1) (v2) (IntKind.i64.wrap (v3 + 1)) (v4) (v5) (v6))).bind some
              else
                none
            else
              none
        else
          none
      else
        none
    else
      (rec (.l0 (v0) (v1) (IntKind.i64.wrap (v2 + 1)) (v4) (v5) (v6))).bind some
  | .l2 v0 v1 v2 v3 v4 =>
    if (Decidable.decide (v2 < (↑v4.length : Int))) = true then
      if (Decidable.decide (0 ≤ IntKind.i64.wrap (v2 - 1))) = true then
        if (Decidable.decide (IntKind.i64.wrap (v2 - 1) < (↑v4.length : Int))) = true then
          if (Decidable.decide (0 ≤ v2)) = true then
            if (Decidable.decide (v2 < (↑v4.length : Int))) = true then
              if (Decidable.decide ((v4.getD (IntKind.i64.wrap (v2 - 1)).toNat (0, 0, 0, ())).fst > (v4.getD v2.toNat (0, 0, 0, ())).fst)) = true then
                some (Bool.false, ())
              else
                if ((v4.getD (IntKind.i64.wrap (v2 - 1)).toNat (0, 0, 0, ())).fst == (v4.getD v2.toNat (0, 0, 0, ())).fst) = true then
                  if (Decidable.decide ((v4.getD (IntKind.i64.wrap (v2 - 1)).toNat (0, 0, 0, ())).snd.fst ≥ (v4.getD v2.toNat (0, 0, 0, ())).snd.fst)) = true then
                    some (Bool.false, ())
                  else
                    (rec (.l2 (v0) (v1) (IntKind.i64.wrap (v2 + 1)) (v3) (v4))).bind some
                else
                  (rec (.l2 (v0) (v1) (IntKind.i64.wrap (v2 + 1)) (v3) (v4))).bind some
            else
              none
          else
            none
        else
          none
      else
        none
    else
      if (v0 == 0) = true then
        if (v1 == 0) = true then
          if ((↑v3.length : Int) == 0) = true then
            some (Bool.true, ())
          else
            some (Decidable.decide ((↑v3.length : Int) < v1), ())
        else
          some (Decidable.decide ((↑v3.length : Int) < v1), ())
      else
        some (Bool.false, ())
def FnCleared_start (rec : FnCleared_H → Option FnCleared_R) (x0 : (List Int)) : Option FnCleared_R :=
  (big_fn x0).bind fun y0 =>
    if (y0.fst) = true then
      some (Bool.true, ())
    else
      (DrawRightDebts_fn x0).bind fun y1 =>
        (iNetOf_fn y1.fst.fst).bind fun y2 =>
          (ClearAll_fn y1.fst.fst).bind fun y3 =>
            (Fold_fn y1.fst.fst).bind fun y4 =>
              (sNetOf_fn y1.fst.fst).bind fun y5 =>
                (iDebtsOk_fn y1.fst.fst).bind fun y6 =>
                  if (!y6.fst) = true then
                    some (Bool.false, ())
                  else
                    (sameInts_fn y2.fst y5.fst).bind fun y7 =>
                      if (!y7.fst) = true then
                        some (Bool.false, ())
                      else
                        if ((↑(List.length y2.fst) : Int) != 20) = true then
                          some (Bool.false, ())
                        else
                          (iDebtsOk_fn y3.fst).bind fun y8 =>
                            if (!y8.fst) = true then
                              some (Bool.false, ())
                            else
                              (iDebtsOk_fn y4.fst).bind fun y9 =>
                                if (!y9.fst) = true then
                                  some (Bool.false, ())
                                else
                                  (iNetOf_fn y3.fst).bind fun y10 =>
                                    (sameInts_fn y10.fst y2.fst).bind fun y11 =>
                                      if (!y11.fst) = true then
                                        some (Bool.false, ())
                                      else
                                        (iNetOf_fn y4.fst).bind fun y12 =>
                                          (sameInts_fn y12.fst y2.fst).bind fun y13 =>
                                            if (!y13.fst) = true then
                                              some (Bool.false, ())
                                            else
                                              (rec (.l0 (0) (0) (0) (y2.fst) (y3.fst) (y4.fst))).bind some
def FnCleared_go : Nat → FnCleared_H → Option FnCleared_R
  | 0, _ => none
  | k + 1, h => FnCleared_body (FnCleared_go k) h
def FnCleared_k (k : Nat) (x0 : (List Int)) : Option FnCleared_R := FnCleared_start (FnCleared_go k) x0
def FnCleared_fn (x0 : (List Int)) : Option FnCleared_R := FnCleared_k (100000) x0
noncomputable def FnCleared_sig : Sig := { ps := FnCleared_ps, outs := FnCleared_outs, fn := fun x => FnCleared_fn (x.1) }
theorem FnCleared_l0 (rec : Cfg → Option FnCleared_sig.R.D) (v0 : Int) (v1 : Int) (v2 : Int) (v3 : List Int) (v4 : List (Int × Int × Int × Unit)) (v5 : List (Int × Int × Int × Unit)) : (ev FnCleared_env FnCleared_anns FnCleared_sig rec 20000 (FnCleared_cfg (.l0 v0 v1 v2 v3 v4 v5))).run = FnCleared_body (fun h => rec (FnCleared_cfg h)) (.l0 v0 v1 v2 v3 v4 v5) := by kernel_rfl
theorem FnCleared_l1 (rec : Cfg → Option FnCleared_sig.R.D) (v0 : Int) (v1 : Int) (v2 : Int) (v3 : Int) (v4 : List Int) (v5 : List (Int × Int × Int × Unit)) (v6 : List (Int × Int × Int × Unit)) : (ev FnCleared_env FnCleared_anns FnCleared_sig rec 20000 (FnCleared_cfg (.l1 v0 v1 v2 v3 v4 v5 v6))).run = FnCleared_body (fun h => rec (FnCleared_cfg h)) (.l1 v0 v1 v2 v3 v4 v5 v6) := by kernel_rfl
theorem FnCleared_l2 (rec : Cfg → Option FnCleared_sig.R.D) (v0 : Int) (v1 : Int) (v2 : Int) (v3 : List (Int × Int × Int × Unit)) (v4 : List (Int × Int × Int × Unit)) : (ev FnCleared_env FnCleared_anns FnCleared_sig rec 20000 (FnCleared_cfg (.l2 v0 v1 v2 v3 v4))).run = FnCleared_body (fun h => rec (FnCleared_cfg h)) (.l2 v0 v1 v2 v3 v4) := by kernel_rfl
theorem FnCleared_begin (rec : Cfg → Option FnCleared_sig.R.D) (x0 : (List Int)) : (ev FnCleared_env FnCleared_anns FnCleared_sig rec 20000 (entry FnCleared_sig 3 Try.f3 (bodyOf Try.f3) (x0, ()))).run = FnCleared_start (fun h => rec (FnCleared_cfg h)) x0 := by kernel_rfl
theorem FnCleared_tab_ok : FnCleared_tab.ok Try.prog = true := by decide +kernel
theorem FnCleared_env_ok : FnCleared_env.Ok Try.prog where
  mixed := by decide +kernel
  tab := FnCleared_tab_ok
  fns := by
    intro p hp
    simp only [FnCleared_env, List.mem_cons, List.not_mem_nil, or_false] at hp
    subst hp
    · exact ⟨Try.func3, by decide +kernel⟩
  sigs := by
    intro p hp
    simp only [FnCleared_env, List.mem_cons, List.not_mem_nil, or_false] at hp
    rcases hp with rfl | rfl | rfl | rfl | rfl | rfl | rfl | rfl
    · exact ⟨big_meets, _, Try.func5, by decide +kernel⟩
    · exact ⟨DrawRightDebts_meets, _, Try.func6, by decide +kernel⟩
    · exact ⟨iNetOf_meets, _, Try.func7, by decide +kernel⟩
    · exact ⟨ClearAll_meets, _, Try.func8, by decide +kernel⟩
    · exact ⟨Fold_meets, _, Try.func9, by decide +kernel⟩
    · exact ⟨sNetOf_meets, _, Try.func10, by decide +kernel⟩
    · exact ⟨iDebtsOk_meets, _, Try.func11, by decide +kernel⟩
    · exact ⟨sameInts_meets, _, Try.func12, by decide +kernel⟩
theorem FnCleared_run (k : Nat) (h : FnCleared_H) : Om FnCleared_env FnCleared_anns FnCleared_sig 20000 k (FnCleared_cfg h) = FnCleared_go k h :=
  Om_go (sg := FnCleared_sig) (cfg := FnCleared_cfg) (body := FnCleared_body) (go := FnCleared_go) (fun _ => rfl) (fun _ _ => rfl) (fun rec h => by
  cases h with
  | l0 v0 v1 v2 v3 v4 v5 => exact FnCleared_l0 rec v0 v1 v2 v3 v4 v5
  | l1 v0 v1 v2 v3 v4 v5 v6 => exact FnCleared_l1 rec v0 v1 v2 v3 v4 v5 v6
  | l2 v0 v1 v2 v3 v4 => exact FnCleared_l2 rec v0 v1 v2 v3 v4) k h
theorem FnCleared_meets : Meets Try.prog 3 FnCleared_sig := by
  refine meets (anns := FnCleared_anns) (N := 20000) FnCleared_env_ok Try.func3 (body := bodyOf Try.f3) (by rfl) ?_
  rintro ⟨x0, ⟨⟩⟩ r hr
  refine ⟨100000, ?_⟩
  show (ev FnCleared_env FnCleared_anns FnCleared_sig (Om FnCleared_env FnCleared_anns FnCleared_sig 20000 (100000)) 20000 (entry FnCleared_sig 3 Try.f3 (bodyOf Try.f3) (x0, ()))).run = some r
  rw [FnCleared_begin]
  have e : (fun h => Om FnCleared_env FnCleared_anns FnCleared_sig 20000 (100000) (FnCleared_cfg h)) = FnCleared_go (100000) := funext fun h => FnCleared_run _ h
  rw [e]
  exact hr
end Go.Proofs.Ytbpfllifhpdlfaa.Ev
