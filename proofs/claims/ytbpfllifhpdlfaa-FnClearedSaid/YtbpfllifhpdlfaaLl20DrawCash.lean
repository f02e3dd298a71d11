import Derived.Test.YtbpfllifhpdlfaaE25
import Derived.Test.YtbpfllifhpdlfaaProg
import Derived.Test.YtbpfllifhpdlfaaLl01Below
import Derived.Test.YtbpfllifhpdlfaaLl01PickInt
namespace Go.Proofs.Ytbpfllifhpdlfaa.Ev
open Go
set_option linter.unusedVariables false
set_option linter.unusedSimpArgs false
set_option maxRecDepth 100000
def l20DrawCash_tab : TTab := [⟨3, (.int .i64), 0⟩, ⟨4, .bool, 0⟩, ⟨25, (.slice (.int .i64)), 8⟩, ⟨38, .opq, 0⟩]
noncomputable def l20DrawCash_env : Env := { tab := l20DrawCash_tab, fns := [(21, Try.f21)], sigs := [(32, l01Below_sig), (34, l01PickInt_sig)] }
def l20DrawCash_anns : List Ann := [⟨21, 3, [0, 3, 4], []⟩]
abbrev l20DrawCash_ps : List Par := [.mbox (.pair (.slice (.int .u8)) (.pair (.int .i64) (.pair (.int .i64) .unit)))]
abbrev l20DrawCash_outs : Outs := .one (.own (.int .i64))
abbrev l20DrawCash_R : Type := ((List Int) × (((List Int) × (Int × (Int × Unit))) × Unit))
inductive l20DrawCash_H where
  | l0 (v0 : Int) (v1 : List Int × Int × Int × Unit) (v2 : List Int)
noncomputable def l20DrawCash_cfg : l20DrawCash_H → Cfg
  | .l0 v0 v1 v2 => { fr := { fn := 21, fb := 0, ss := [(.bptr 0 []), .undef, .undef, (.row 1 0), (.pv false (.int .i64) v0), .undef, .undef, .undef, .undef, .undef, .undef, .undef, .undef, .undef, .undef, .undef, .undef, .undef, .undef, .undef, .undef], todo := todoAt (bodyOf Try.f21) [false, false, true, false, true] [] }, cs := [], ob := ofList [.box (.pair (.slice (.int .u8)) (.pair (.int .i64) (.pair (.int .i64) .unit))) (.pv false (.pair (.slice (.int .u8)) (.pair (.int .i64) (.pair (.int .i64) .unit))) v1), .row 0 false (.int .i64) v2] }
def l20DrawCash_body (rec : l20DrawCash_H → Option l20DrawCash_R) : l20DrawCash_H → Option l20DrawCash_R
  | .l0 v0 v1 v2 =>
    if (Decidable.decide (v0 < 5)) = true then
      (l01Below_fn v1 12).bind fun y0 =>
        (l01Below_fn y0.snd.fst 40).bind fun y1 =>
          (l01PickInt_fn y1.snd.fst (((((List.replicate 4 0).set 0 0).set 1 0).set 2 y0.fst).set 3 y1.fst)).bind fun y2 =>
            if (Decidable.decide (0 ≤ v0)) = true then
              if (Decidable.decide (v0 < (↑v2.length : Int))) = true then
                (rec (.l0 (IntKind.i64.wrap (v0 + 1)) (y2.snd.fst) (v2.set v0.toNat y2.fst))).bind some
              else
                none
            else
              none
    else
      some (v2, v1, ())
def l20DrawCash_start (rec : l20DrawCash_H → Option l20DrawCash_R) (x0 : ((List Int) × (Int × (Int × Unit)))) : Option l20DrawCash_R :=
  (rec (.l0 (0) (x0) (List.replicate (Int.toNat 20) 0))).bind some
def l20DrawCash_go : Nat → l20DrawCash_H → Option l20DrawCash_R
  | 0, _ => none
  | k + 1, h => l20DrawCash_body (l20DrawCash_go k) h
def l20DrawCash_k (k : Nat) (x0 : ((List Int) × (Int × (Int × Unit)))) : Option l20DrawCash_R := l20DrawCash_start (l20DrawCash_go k) x0
def l20DrawCash_fn (x0 : ((List Int) × (Int × (Int × Unit)))) : Option l20DrawCash_R := l20DrawCash_k (10) x0
noncomputable def l20DrawCash_sig : Sig := { ps := l20DrawCash_ps, outs := l20DrawCash_outs, fn := fun x => l20DrawCash_fn (x.1) }
theorem l20DrawCash_l0 (rec : Cfg → Option l20DrawCash_sig.R.D) (v0 : Int) (v1 : List Int × Int × Int × Unit) (v2 : List Int) : (ev l20DrawCash_env l20DrawCash_anns l20DrawCash_sig rec 20000 (l20DrawCash_cfg (.l0 v0 v1 v2))).run = l20DrawCash_body (fun h => rec (l20DrawCash_cfg h)) (.l0 v0 v1 v2) := by kernel_rfl
theorem l20DrawCash_begin (rec : Cfg → Option l20DrawCash_sig.R.D) (x0 : ((List Int) × (Int × (Int × Unit)))) : (ev l20DrawCash_env l20DrawCash_anns l20DrawCash_sig rec 20000 (entry l20DrawCash_sig 21 Try.f21 (bodyOf Try.f21) (x0, ()))).run = l20DrawCash_start (fun h => rec (l20DrawCash_cfg h)) x0 := by kernel_rfl
theorem l20DrawCash_tab_ok : l20DrawCash_tab.ok Try.prog = true := by decide +kernel
theorem l20DrawCash_env_ok : l20DrawCash_env.Ok Try.prog where
  mixed := by decide +kernel
  tab := l20DrawCash_tab_ok
  fns := by
    intro p hp
    simp only [l20DrawCash_env, List.mem_cons, List.not_mem_nil, or_false] at hp
    subst hp
    · exact ⟨Try.func21, by decide +kernel⟩
  sigs := by
    intro p hp
    simp only [l20DrawCash_env, List.mem_cons, List.not_mem_nil, or_false] at hp
    rcases hp with rfl | rfl
    · exact ⟨l01Below_meets, _, Try.func32, by decide +kernel⟩
    · exact ⟨l01PickInt_meets, _, Try.func34, by decide +kernel⟩
theorem l20DrawCash_run (k : Nat) (h : l20DrawCash_H) : Om l20DrawCash_env l20DrawCash_anns l20DrawCash_sig 20000 k (l20DrawCash_cfg h) = l20DrawCash_go k h :=
  Om_go (sg := l20DrawCash_sig) (cfg := l20DrawCash_cfg) (body := l20DrawCash_body) (go := l20DrawCash_go) (fun _ => rfl) (fun _ _ => rfl) (fun rec h => by
  cases h with
  | l0 v0 v1 v2 => exact l20DrawCash_l0 rec v0 v1 v2) k h
theorem l20DrawCash_meets : Meets Try.prog 21 l20DrawCash_sig := by
  refine meets (anns := l20DrawCash_anns) (N := 20000) l20DrawCash_env_ok Try.func21 (body := bodyOf Try.f21) (by rfl) ?_
  rintro ⟨x0, ⟨⟩⟩ r hr
  refine ⟨10, ?_⟩
  show (ev l20DrawCash_env l20DrawCash_anns l20DrawCash_sig (Om l20DrawCash_env l20DrawCash_anns l20DrawCash_sig 20000 (10)) 20000 (entry l20DrawCash_sig 21 Try.f21 (bodyOf Try.f21) (x0, ()))).run = some r
  rw [l20DrawCash_begin]
  have e : (fun h => Om l20DrawCash_env l20DrawCash_anns l20DrawCash_sig 20000 (10) (l20DrawCash_cfg h)) = l20DrawCash_go (10) := funext fun h => l20DrawCash_run _ h
  rw [e]
  exact hr
end Go.Proofs.Ytbpfllifhpdlfaa.Ev
