import Derived.Test.YtbpfllifhpdlfaaE25
import Derived.Test.YtbpfllifhpdlfaaProg
import Derived.Test.YtbpfllifhpdlfaaLl01Below
import Derived.Test.YtbpfllifhpdlfaaLl01Size
namespace Go.Proofs.Ytbpfllifhpdlfaa.Ev
open Go
set_option linter.unusedVariables false
set_option linter.unusedSimpArgs false
set_option maxRecDepth 100000
def l20DrawRight_tab : TTab := [⟨3, (.int .i64), 0⟩, ⟨4, .bool, 0⟩, ⟨22, (.slice (.int .u8)), 1⟩, ⟨24, (.slice (.pair (.int .i64) (.pair (.int .i64) (.pair (.int .i64) .unit)))), 24⟩, ⟨33, (.pair (.int .i64) (.pair (.int .i64) (.pair (.int .i64) .unit))), 0⟩, ⟨38, .opq, 0⟩]
noncomputable def l20DrawRight_env : Env := { tab := l20DrawRight_tab, fns := [(20, Try.f20)], sigs := [(32, l01Below_sig), (33, l01Size_sig)] }
def l20DrawRight_anns : List Ann := [⟨20, 3, [0, 5, 6], []⟩]
abbrev l20DrawRight_ps : List Par := [.mbox (.pair (.slice (.int .u8)) (.pair (.int .i64) (.pair (.int .i64) .unit))), .lent (.slice (.int .u8))]
abbrev l20DrawRight_outs : Outs := .one (.own (.pair (.int .i64) (.pair (.int .i64) (.pair (.int .i64) .unit))))
abbrev l20DrawRight_R : Type := ((List (Int × (Int × (Int × Unit)))) × (((List Int) × (Int × (Int × Unit))) × Unit))
inductive l20DrawRight_H where
  | l0 (v0 : Int) (v1 : List Int × Int × Int × Unit) (v2 : List (Int × Int × Int × Unit))
noncomputable def l20DrawRight_cfg : l20DrawRight_H → Cfg
  | .l0 v0 v1 v2 => { fr := { fn := 20, fb := 0, ss := [(.bptr 0 []), .undef, .undef, .undef, .undef, (.row 1 0), (.pv false (.int .i64) v0), .undef, .undef, .undef, .undef, .undef, .undef, .undef, .undef, .undef, .undef, .undef, .undef, .undef, .undef, .undef, .undef, .undef, .undef, .undef, .undef, .undef, .undef, .undef, .undef, .undef, .undef, .undef, .undef], todo := todoAt (bodyOf Try.f20) [false, false, true, false, true] [] }, cs := [], ob := ofList [.box (.pair (.slice (.int .u8)) (.pair (.int .i64) (.pair (.int .i64) .unit))) (.pv false (.pair (.slice (.int .u8)) (.pair (.int .i64) (.pair (.int .i64) .unit))) v1), .row 0 false (.pair (.int .i64) (.pair (.int .i64) (.pair (.int .i64) .unit))) v2] }
def l20DrawRight_body (rec : l20DrawRight_H → Option l20DrawRight_R) : l20DrawRight_H → Option l20DrawRight_R
  | .l0 v0 v1 v2 =>
    if (Decidable.decide (v0 > 0)) = true then
      (l01Below_fn v1 5).bind fun y2 =>
        (l01Below_fn y2.snd.fst 4).bind fun y3 =>
          (l01Below_fn y3.snd.fst 20).bind fun y4 =>
            if (Decidable.decide ((v2.length + ((List.replicate 1 (0, 0, 0, ())).set 0 (y2.fst, (IntKind.i64.wrap (IntKind.i64.wrap (y2.fst + 1) + y3.fst)).tmod 5, IntKind.i64.wrap (1 + y4.fst), ())).length) * 24 ≤ 140737488355328)) = true then
              if (Decidable.decide (v2.length + ((List.replicate 1 (0, 0, 0, ())).set 0 (y2.fst, (IntKind.i64.wrap (IntKind.i64.wrap (y2.fst + 1) + y3.fst)).tmod 5, IntKind.i64.wrap (1 + y4.fst), ())).length ≤ 9223372036854775807)) = true then
                (rec (.l0 (IntKind.i64.wrap (v0 - 1)) (y4.snd.fst) (v2 ++ (List.replicate 1 (0, 0, 0, ())).set 0 (y2.fst, (IntKind.i64.wrap (IntKind.i64.wrap (y2.fst + 1) + y3.fst)).tmod 5, IntKind.i64.wrap (1 + y4.fst), ())))).bind some
              else
                none
            else
              none
    else
      some (v2, v1, ())
def l20DrawRight_start (rec : l20DrawRight_H → Option l20DrawRight_R) (x0 : ((List Int) × (Int × (Int × Unit)))) (x1 : (List Int)) : Option l20DrawRight_R :=
  (l01Size_fn x1 16).bind fun y0 =>
    (l01Below_fn x0 (IntKind.i64.wrap (2 + y0.fst))).bind fun y1 =>
      (rec (.l0 (y1.fst) (y1.snd.fst) (List.replicate 0 (0, 0, 0, ())))).bind some
def l20DrawRight_go : Nat → l20DrawRight_H → Option l20DrawRight_R
  | 0, _ => none
  | k + 1, h => l20DrawRight_body (l20DrawRight_go k) h
def l20DrawRight_k (k : Nat) (x0 : ((List Int) × (Int × (Int × Unit)))) (x1 : (List Int)) : Option l20DrawRight_R := l20DrawRight_start (l20DrawRight_go k) x0 x1
def l20DrawRight_fn (x0 : ((List Int) × (Int × (Int × Unit)))) (x1 : (List Int)) : Option l20DrawRight_R := l20DrawRight_k (1000) x0 x1
noncomputable def l20DrawRight_sig : Sig := { ps := l20DrawRight_ps, outs := l20DrawRight_outs, fn := fun x => l20DrawRight_fn (x.1) (x.2.1) }
theorem l20DrawRight_l0 (rec : Cfg → Option l20DrawRight_sig.R.D) (v0 : Int) (v1 : List Int × Int × Int × Unit) (v2 : List (Int × Int × Int × Unit)) : (ev l20DrawRight_env l20DrawRight_anns l20DrawRight_sig rec 20000 (l20DrawRight_cfg (.l0 v0 v1 v2))).run = l20DrawRight_body (fun h => rec (l20DrawRight_cfg h)) (.l0 v0 v1 v2) := by kernel_rfl
theorem l20DrawRight_begin (rec : Cfg → Option l20DrawRight_sig.R.D) (x0 : ((List Int) × (Int × (Int × Unit)))) (x1 : (List Int)) : (ev l20DrawRight_env l20DrawRight_anns l20DrawRight_sig rec 20000 (entry l20DrawRight_sig 20 Try.f20 (bodyOf Try.f20) (x0, x1, ()))).run = l20DrawRight_start (fun h => rec (l20DrawRight_cfg h)) x0 x1 := by kernel_rfl
theorem l20DrawRight_tab_ok : l20DrawRight_tab.ok Try.prog = true := by decide +kernel
theorem l20DrawRight_env_ok : l20DrawRight_env.Ok Try.prog where
  mixed := by decide +kernel
  tab := l20DrawRight_tab_ok
  fns := by
    intro p hp
    simp only [l20DrawRight_env, List.mem_cons, List.not_mem_nil, or_false] at hp
    subst hp
    · exact ⟨Try.func20, by decide +kernel⟩
  sigs := by
    intro p hp
    simp only [l20DrawRight_env, List.mem_cons, List.not_mem_nil, or_false] at hp
    rcases hp with rfl | rfl
    · exact ⟨l01Below_meets, _, Try.func32, by decide +kernel⟩
    · exact ⟨l01Size_meets, _, Try.func33, by decide +kernel⟩
theorem l20DrawRight_run (k : Nat) (h : l20DrawRight_H) : Om l20DrawRight_env l20DrawRight_anns l20DrawRight_sig 20000 k (l20DrawRight_cfg h) = l20DrawRight_go k h :=
  Om_go (sg := l20DrawRight_sig) (cfg := l20DrawRight_cfg) (body := l20DrawRight_body) (go := l20DrawRight_go) (fun _ => rfl) (fun _ _ => rfl) (fun rec h => by
  cases h with
  | l0 v0 v1 v2 => exact l20DrawRight_l0 rec v0 v1 v2) k h
theorem l20DrawRight_meets : Meets Try.prog 20 l20DrawRight_sig := by
  refine meets (anns := l20DrawRight_anns) (N := 20000) l20DrawRight_env_ok Try.func20 (body := bodyOf Try.f20) (by rfl) ?_
  rintro ⟨x0, x1, ⟨⟩⟩ r hr
  refine ⟨1000, ?_⟩
  show (ev l20DrawRight_env l20DrawRight_anns l20DrawRight_sig (Om l20DrawRight_env l20DrawRight_anns l20DrawRight_sig 20000 (1000)) 20000 (entry l20DrawRight_sig 20 Try.f20 (bodyOf Try.f20) (x0, x1, ()))).run = some r
  rw [l20DrawRight_begin]
  have e : (fun h => Om l20DrawRight_env l20DrawRight_anns l20DrawRight_sig 20000 (1000) (l20DrawRight_cfg h)) = l20DrawRight_go (1000) := funext fun h => l20DrawRight_run _ h
  rw [e]
  exact hr
end Go.Proofs.Ytbpfllifhpdlfaa.Ev
