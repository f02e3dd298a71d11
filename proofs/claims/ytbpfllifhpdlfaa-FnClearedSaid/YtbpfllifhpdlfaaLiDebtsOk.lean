import Derived.Test.YtbpfllifhpdlfaaE25
import Derived.Test.YtbpfllifhpdlfaaProg
import Derived.Test.YtbpfllifhpdlfaaLareDebts
namespace Go.Proofs.Ytbpfllifhpdlfaa.Ev
open Go
set_option linter.unusedVariables false
set_option linter.unusedSimpArgs false
set_option maxRecDepth 100000
def iDebtsOk_tab : TTab := [⟨4, .bool, 0⟩, ⟨24, (.slice (.pair (.int .i64) (.pair (.int .i64) (.pair (.int .i64) .unit)))), 24⟩]
noncomputable def iDebtsOk_env : Env := { tab := iDebtsOk_tab, fns := [(11, Try.f11)], sigs := [(22, areDebts_sig)] }
def iDebtsOk_anns : List Ann := []
abbrev iDebtsOk_ps : List Par := [.lent (.slice (.pair (.int .i64) (.pair (.int .i64) (.pair (.int .i64) .unit))))]
abbrev iDebtsOk_outs : Outs := .one (.pure .bool)
abbrev iDebtsOk_R : Type := (Bool × Unit)
inductive iDebtsOk_H where
  | none
noncomputable def iDebtsOk_cfg : iDebtsOk_H → Cfg
  | .none => { fr := { fn := 0, fb := 0, ss := [], todo := [] }, cs := [], ob := fun _ => none }
def iDebtsOk_body (rec : iDebtsOk_H → Option iDebtsOk_R) : iDebtsOk_H → Option iDebtsOk_R
  | .none => none
def iDebtsOk_start (rec : iDebtsOk_H → Option iDebtsOk_R) (x0 : (List (Int × (Int × (Int × Unit))))) : Option iDebtsOk_R :=
  (areDebts_fn x0).bind fun y0 =>
    some (y0.fst, ())
def iDebtsOk_go : Nat → iDebtsOk_H → Option iDebtsOk_R
  | 0, _ => none
  | k + 1, h => iDebtsOk_body (iDebtsOk_go k) h
def iDebtsOk_k (k : Nat) (x0 : (List (Int × (Int × (Int × Unit))))) : Option iDebtsOk_R := iDebtsOk_start (iDebtsOk_go k) x0
def iDebtsOk_fn (x0 : (List (Int × (Int × (Int × Unit))))) : Option iDebtsOk_R := iDebtsOk_k (1) x0
noncomputable def iDebtsOk_sig : Sig := { ps := iDebtsOk_ps, outs := iDebtsOk_outs, fn := fun x => iDebtsOk_fn (x.1) }
theorem iDebtsOk_begin (rec : Cfg → Option iDebtsOk_sig.R.D) (x0 : (List (Int × (Int × (Int × Unit))))) : (ev iDebtsOk_env iDebtsOk_anns iDebtsOk_sig rec 20000 (entry iDebtsOk_sig 11 Try.f11 (bodyOf Try.f11) (x0, ()))).run = iDebtsOk_start (fun h => rec (iDebtsOk_cfg h)) x0 := by kernel_rfl
theorem iDebtsOk_tab_ok : iDebtsOk_tab.ok Try.prog = true := by decide +kernel
theorem iDebtsOk_env_ok : iDebtsOk_env.Ok Try.prog where
  mixed := by decide +kernel
  tab := iDebtsOk_tab_ok
  fns := by
    intro p hp
    simp only [iDebtsOk_env, List.mem_cons, List.not_mem_nil, or_false] at hp
    subst hp
    · exact ⟨Try.func11, by decide +kernel⟩
  sigs := by
    intro p hp
    simp only [iDebtsOk_env, List.mem_cons, List.not_mem_nil, or_false] at hp
    subst hp
    · exact ⟨areDebts_meets, _, Try.func22, by decide +kernel⟩
theorem iDebtsOk_meets : Meets Try.prog 11 iDebtsOk_sig := by
  refine meets (anns := iDebtsOk_anns) (N := 20000) iDebtsOk_env_ok Try.func11 (body := bodyOf Try.f11) (by rfl) ?_
  rintro ⟨x0, ⟨⟩⟩ r hr
  refine ⟨1, ?_⟩
  show (ev iDebtsOk_env iDebtsOk_anns iDebtsOk_sig (Om iDebtsOk_env iDebtsOk_anns iDebtsOk_sig 20000 (1)) 20000 (entry iDebtsOk_sig 11 Try.f11 (bodyOf Try.f11) (x0, ()))).run = some r
  rw [iDebtsOk_begin]
  exact hr
end Go.Proofs.Ytbpfllifhpdlfaa.Ev
