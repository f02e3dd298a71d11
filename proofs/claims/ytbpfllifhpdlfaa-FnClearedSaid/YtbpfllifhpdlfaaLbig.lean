import Derived.Test.YtbpfllifhpdlfaaE25
import Derived.Test.YtbpfllifhpdlfaaProg
namespace Go.Proofs.Ytbpfllifhpdlfaa.Ev
open Go
set_option linter.unusedVariables false
set_option linter.unusedSimpArgs false
set_option maxRecDepth 100000
def big_tab : TTab := [⟨3, (.int .i64), 0⟩, ⟨4, .bool, 0⟩, ⟨22, (.slice (.int .u8)), 1⟩]
noncomputable def big_env : Env := { tab := big_tab, fns := [(5, Try.f5)], sigs := [] }
def big_anns : List Ann := []
abbrev big_ps : List Par := [.lent (.slice (.int .u8))]
abbrev big_outs : Outs := .one (.pure .bool)
abbrev big_R : Type := (Bool × Unit)
inductive big_H where
  | none
noncomputable def big_cfg : big_H → Cfg
  | .none => { fr := { fn := 0, fb := 0, ss := [], todo := [] }, cs := [], ob := fun _ => none }
def big_body (rec : big_H → Option big_R) : big_H → Option big_R
  | .none => none
def big_start (rec : big_H → Option big_R) (x0 : (List Int)) : Option big_R :=
  some (Decidable.decide ((↑x0.length : Int) > 1048576), ())
def big_go : Nat → big_H → Option big_R
  | 0, _ => none
  | k + 1, h => big_body (big_go k) h
def big_k (k : Nat) (x0 : (List Int)) : Option big_R := big_start (big_go k) x0
def big_fn (x0 : (List Int)) : Option big_R := big_k (1) x0
noncomputable def big_sig : Sig := { ps := big_ps, outs := big_outs, fn := fun x => big_fn (x.1) }
theorem big_begin (rec : Cfg → Option big_sig.R.D) (x0 : (List Int)) : (ev big_env big_anns big_sig rec 20000 (entry big_sig 5 Try.f5 (bodyOf Try.f5) (x0, ()))).run = big_start (fun h => rec (big_cfg h)) x0 := by kernel_rfl
theorem big_tab_ok : big_tab.ok Try.prog = true := by decide +kernel
theorem big_env_ok : big_env.Ok Try.prog where
  mixed := by decide +kernel
  tab := big_tab_ok
  fns := by
    intro p hp
    simp only [big_env, List.mem_cons, List.not_mem_nil, or_false] at hp
    subst hp
    · exact ⟨Try.func5, by decide +kernel⟩
  sigs := by
    intro p hp
    simp only [big_env, List.mem_cons, List.not_mem_nil, or_false] at hp
theorem big_meets : Meets Try.prog 5 big_sig := by
  refine meets (anns := big_anns) (N := 20000) big_env_ok Try.func5 (body := bodyOf Try.f5) (by rfl) ?_
  rintro ⟨x0, ⟨⟩⟩ r hr
  refine ⟨1, ?_⟩
  show (ev big_env big_anns big_sig (Om big_env big_anns big_sig 20000 (1)) 20000 (entry big_sig 5 Try.f5 (bodyOf Try.f5) (x0, ()))).run = some r
  rw [big_begin]
  exact hr
end Go.Proofs.Ytbpfllifhpdlfaa.Ev
