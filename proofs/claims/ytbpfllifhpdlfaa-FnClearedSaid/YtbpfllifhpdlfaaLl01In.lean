import Derived.Test.YtbpfllifhpdlfaaE25
import Derived.Test.YtbpfllifhpdlfaaProg
namespace Go.Proofs.Ytbpfllifhpdlfaa.Ev
open Go
set_option linter.unusedVariables false
set_option linter.unusedSimpArgs false
set_option maxRecDepth 100000
def l01In_tab : TTab := [⟨3, (.int .i64), 0⟩, ⟨4, .bool, 0⟩]
noncomputable def l01In_env : Env := { tab := l01In_tab, fns := [(28, Try.f28)], sigs := [] }
def l01In_anns : List Ann := []
abbrev l01In_ps : List Par := [.lent (.int .i64), .lent (.int .i64), .lent (.int .i64)]
abbrev l01In_outs : Outs := .one (.pure .bool)
abbrev l01In_R : Type := (Bool × Unit)
inductive l01In_H where
  | none
noncomputable def l01In_cfg : l01In_H → Cfg
  | .none => { fr := { fn := 0, fb := 0, ss := [], todo := [] }, cs := [], ob := fun _ => none }
def l01In_body (rec : l01In_H → Option l01In_R) : l01In_H → Option l01In_R
  | .none => none
def l01In_start (rec : l01In_H → Option l01In_R) (x0 : Int) (x1 : Int) (x2 : Int) : Option l01In_R :=
  if (Decidable.decide (x1 ≤ x0)) = true then
    some (Decidable.decide (x0 ≤ x2), ())
  else
    some (Bool.false, ())
def l01In_go : Nat → l01In_H → Option l01In_R
  | 0, _ => none
  | k + 1, h => l01In_body (l01In_go k) h
def l01In_k (k : Nat) (x0 : Int) (x1 : Int) (x2 : Int) : Option l01In_R := l01In_start (l01In_go k) x0 x1 x2
def l01In_fn (x0 : Int) (x1 : Int) (x2 : Int) : Option l01In_R := l01In_k (1) x0 x1 x2
noncomputable def l01In_sig : Sig := { ps := l01In_ps, outs := l01In_outs, fn := fun x => l01In_fn (x.1) (x.2.1) (x.2.2.1) }
theorem l01In_begin (rec : Cfg → Option l01In_sig.R.D) (x0 : Int) (x1 : Int) (x2 : Int) : (ev l01In_env l01In_anns l01In_sig rec 20000 (entry l01In_sig 28 Try.f28 (bodyOf Try.f28) (x0, x1, x2, ()))).run = l01In_start (fun h => rec (l01In_cfg h)) x0 x1 x2 := by kernel_rfl
theorem l01In_tab_ok : l01In_tab.ok Try.prog = true := by decide +kernel
theorem l01In_env_ok : l01In_env.Ok Try.prog where
  mixed := by decide +kernel
  tab := l01In_tab_ok
  fns := by
    intro p hp
    simp only [l01In_env, List.mem_cons, List.not_mem_nil, or_false] at hp
    subst hp
    · exact ⟨Try.func28, by decide +kernel⟩
  sigs := by
    intro p hp
    simp only [l01In_env, List.mem_cons, List.not_mem_nil, or_false] at hp
theorem l01In_meets : Meets Try.prog 28 l01In_sig := by
  refine meets (anns := l01In_anns) (N := 20000) l01In_env_ok Try.func28 (body := bodyOf Try.f28) (by rfl) ?_
  rintro ⟨x0, x1, x2, ⟨⟩⟩ r hr
  refine ⟨1, ?_⟩
  show (ev l01In_env l01In_anns l01In_sig (Om l01In_env l01In_anns l01In_sig 20000 (1)) 20000 (entry l01In_sig 28 Try.f28 (bodyOf Try.f28) (x0, x1, x2, ()))).run = some r
  rw [l01In_begin]
  exact hr
end Go.Proofs.Ytbpfllifhpdlfaa.Ev
