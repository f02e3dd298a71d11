import Derived.Test.YtbpfllifhpdlfaaE25
import Derived.Test.YtbpfllifhpdlfaaProg
namespace Go.Proofs.Ytbpfllifhpdlfaa.Ev
open Go
set_option linter.unusedVariables false
set_option linter.unusedSimpArgs false
set_option maxRecDepth 100000
def l01Size_tab : TTab := [⟨3, (.int .i64), 0⟩, ⟨4, .bool, 0⟩, ⟨22, (.slice (.int .u8)), 1⟩]
noncomputable def l01Size_env : Env := { tab := l01Size_tab, fns := [(33, Try.f33)], sigs := [] }
def l01Size_anns : List Ann := []
abbrev l01Size_ps : List Par := [.lent (.slice (.int .u8)), .lent (.int .i64)]
abbrev l01Size_outs : Outs := .one (.pure (.int .i64))
abbrev l01Size_R : Type := (Int × Unit)
inductive l01Size_H where
  | none
noncomputable def l01Size_cfg : l01Size_H → Cfg
  | .none => { fr := { fn := 0, fb := 0, ss := [], todo := [] }, cs := [], ob := fun _ => none }
def l01Size_body (rec : l01Size_H → Option l01Size_R) : l01Size_H → Option l01Size_R
  | .none => none
def l01Size_start (rec : l01Size_H → Option l01Size_R) (x0 : (List Int)) (x1 : Int) : Option l01Size_R :=
  if (Decidable.decide (IntKind.i64.wrap (2 + IntKind.i64.wrap ((↑x0.length : Int).tdiv 16)) > x1)) = true then
    some (x1, ())
  else
    some (IntKind.i64.wrap (2 + IntKind.i64.wrap ((↑x0.length : Int).tdiv 16)), ())
def l01Size_go : Nat → l01Size_H → Option l01Size_R
  | 0, _ => none
  | k + 1, h => l01Size_body (l01Size_go k) h
def l01Size_k (k : Nat) (x0 : (List Int)) (x1 : Int) : Option l01Size_R := l01Size_start (l01Size_go k) x0 x1
def l01Size_fn (x0 : (List Int)) (x1 : Int) : Option l01Size_R := l01Size_k (1) x0 x1
noncomputable def l01Size_sig : Sig := { ps := l01Size_ps, outs := l01Size_outs, fn := fun x => l01Size_fn (x.1) (x.2.1) }
theorem l01Size_begin (rec : Cfg → Option l01Size_sig.R.D) (x0 : (List Int)) (x1 : Int) : (ev l01Size_env l01Size_anns l01Size_sig rec 20000 (entry l01Size_sig 33 Try.f33 (bodyOf Try.f33) (x0, x1, ()))).run = l01Size_start (fun h => rec (l01Size_cfg h)) x0 x1 := by kernel_rfl
theorem l01Size_tab_ok : l01Size_tab.ok Try.prog = true := by decide +kernel
theorem l01Size_env_ok : l01Size_env.Ok Try.prog where
  mixed := by decide +kernel
  tab := l01Size_tab_ok
  fns := by
    intro p hp
    simp only [l01Size_env, List.mem_cons, List.not_mem_nil, or_false] at hp
    subst hp
    · exact ⟨Try.func33, by decide +kernel⟩
  sigs := by
    intro p hp
    simp only [l01Size_env, List.mem_cons, List.not_mem_nil, or_false] at hp
theorem l01Size_meets : Meets Try.prog 33 l01Size_sig := by
  refine meets (anns := l01Size_anns) (N := 20000) l01Size_env_ok Try.func33 (body := bodyOf Try.f33) (by rfl) ?_
  rintro ⟨x0, x1, ⟨⟩⟩ r hr
  refine ⟨1, ?_⟩
  show (ev l01Size_env l01Size_anns l01Size_sig (Om l01Size_env l01Size_anns l01Size_sig 20000 (1)) 20000 (entry l01Size_sig 33 Try.f33 (bodyOf Try.f33) (x0, x1, ()))).run = some r
  rw [l01Size_begin]
  exact hr
end Go.Proofs.Ytbpfllifhpdlfaa.Ev
