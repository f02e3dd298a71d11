import Derived.Test.YtbpfllifhpdlfaaE25
import Derived.Test.YtbpfllifhpdlfaaProg
import Derived.Test.YtbpfllifhpdlfaaLl01Below
namespace Go.Proofs.Ytbpfllifhpdlfaa.Ev
open Go
set_option linter.unusedVariables false
set_option linter.unusedSimpArgs false
set_option maxRecDepth 100000
def l01PickInt_tab : TTab := [⟨3, (.int .i64), 0⟩, ⟨25, (.slice (.int .i64)), 8⟩, ⟨38, .opq, 0⟩]
noncomputable def l01PickInt_env : Env := { tab := l01PickInt_tab, fns := [(34, Try.f34)], sigs := [(32, l01Below_sig)] }
def l01PickInt_anns : List Ann := []
abbrev l01PickInt_ps : List Par := [.mbox (.pair (.slice (.int .u8)) (.pair (.int .i64) (.pair (.int .i64) .unit))), .lent (.slice (.int .i64))]
abbrev l01PickInt_outs : Outs := .one (.pure (.int .i64))
abbrev l01PickInt_R : Type := (Int × (((List Int) × (Int × (Int × Unit))) × Unit))
inductive l01PickInt_H where
  | none
noncomputable def l01PickInt_cfg : l01PickInt_H → Cfg
  | .none => { fr := { fn := 0, fb := 0, ss := [], todo := [] }, cs := [], ob := fun _ => none }
def l01PickInt_body (rec : l01PickInt_H → Option l01PickInt_R) : l01PickInt_H → Option l01PickInt_R
  | .none => none
def l01PickInt_start (rec : l01PickInt_H → Option l01PickInt_R) (x0 : ((List Int) × (Int × (Int × Unit)))) (x1 : (List Int)) : Option l01PickInt_R :=
  (l01Below_fn x0 (↑x1.length : Int)).bind fun y0 =>
    if (Decidable.decide (0 ≤ y0.fst)) = true then
      if (Decidable.decide (y0.fst < (↑x1.length : Int))) = true then
        some (x1.getD (Int.toNat y0.fst) 0, y0.snd.fst, ())
      else
        none
    else
      none
def l01PickInt_go : Nat → l01PickInt_H → Option l01PickInt_R
  | 0, _ => none
  | k + 1, h => l01PickInt_body (l01PickInt_go k) h
def l01PickInt_k (k : Nat) (x0 : ((List Int) × (Int × (Int × Unit)))) (x1 : (List Int)) : Option l01PickInt_R := l01PickInt_start (l01PickInt_go k) x0 x1
def l01PickInt_fn (x0 : ((List Int) × (Int × (Int × Unit)))) (x1 : (List Int)) : Option l01PickInt_R := l01PickInt_k (1) x0 x1
noncomputable def l01PickInt_sig : Sig := { ps := l01PickInt_ps, outs := l01PickInt_outs, fn := fun x => l01PickInt_fn (x.1) (x.2.1) }
theorem l01PickInt_begin (rec : Cfg → Option l01PickInt_sig.R.D) (x0 : ((List Int) × (Int × (Int × Unit)))) (x1 : (List Int)) : (ev l01PickInt_env l01PickInt_anns l01PickInt_sig rec 20000 (entry l01PickInt_sig 34 Try.f34 (bodyOf Try.f34) (x0, x1, ()))).run = l01PickInt_start (fun h => rec (l01PickInt_cfg h)) x0 x1 := by kernel_rfl
theorem l01PickInt_tab_ok : l01PickInt_tab.ok Try.prog = true := by decide +kernel
theorem l01PickInt_env_ok : l01PickInt_env.Ok Try.prog where
  mixed := by decide +kernel
  tab := l01PickInt_tab_ok
  fns := by
    intro p hp
    simp only [l01PickInt_env, List.mem_cons, List.not_mem_nil, or_false] at hp
    subst hp
    · exact ⟨Try.func34, by decide +kernel⟩
  sigs := by
    intro p hp
    simp only [l01PickInt_env, List.mem_cons, List.not_mem_nil, or_false] at hp
    subst hp
    · exact ⟨l01Below_meets, _, Try.func32, by decide +kernel⟩
theorem l01PickInt_meets : Meets Try.prog 34 l01PickInt_sig := by
  refine meets (anns := l01PickInt_anns) (N := 20000) l01PickInt_env_ok Try.func34 (body := bodyOf Try.f34) (by rfl) ?_
  rintro ⟨x0, x1, ⟨⟩⟩ r hr
  refine ⟨1, ?_⟩
  show (ev l01PickInt_env l01PickInt_anns l01PickInt_sig (Om l01PickInt_env l01PickInt_anns l01PickInt_sig 20000 (1)) 20000 (entry l01PickInt_sig 34 Try.f34 (bodyOf Try.f34) (x0, x1, ()))).run = some r
  rw [l01PickInt_begin]
  exact hr
end Go.Proofs.Ytbpfllifhpdlfaa.Ev
