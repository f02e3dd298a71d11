import Derived.Test.YtbpfllifhpdlfaaE25
import Derived.Test.YtbpfllifhpdlfaaProg
import Derived.Test.YtbpfllifhpdlfaaLareDebts
import Derived.Test.YtbpfllifhpdlfaaLnetOf
namespace Go.Proofs.Ytbpfllifhpdlfaa.Ev
open Go
set_option linter.unusedVariables false
set_option linter.unusedSimpArgs false
set_option maxRecDepth 100000
def iNetOf_tab : TTab := [⟨4, .bool, 0⟩, ⟨24, (.slice (.pair (.int .i64) (.pair (.int .i64) (.pair (.int .i64) .unit)))), 24⟩, ⟨25, (.slice (.int .i64)), 8⟩]
noncomputable def iNetOf_env : Env := { tab := iNetOf_tab, fns := [(7, Try.f7)], sigs := [(22, areDebts_sig), (23, netOf_sig)] }
def iNetOf_anns : List Ann := []
abbrev iNetOf_ps : List Par := [.lent (.slice (.pair (.int .i64) (.pair (.int .i64) (.pair (.int .i64) .unit))))]
abbrev iNetOf_outs : Outs := .one (.own (.int .i64))
abbrev iNetOf_R : Type := ((List Int) × Unit)
inductive iNetOf_H where
  | none
noncomputable def iNetOf_cfg : iNetOf_H → Cfg
  | .none => { fr := { fn := 0, fb := 0, ss := [], todo := [] }, cs := [], ob := fun _ => none }
def iNetOf_body (rec : iNetOf_H → Option iNetOf_R) : iNetOf_H → Option iNetOf_R
  | .none => none
def iNetOf_start (rec : iNetOf_H → Option iNetOf_R) (x0 : (List (Int × (Int × (Int × Unit))))) : Option iNetOf_R :=
  (areDebts_fn x0).bind fun y0 =>
    if (!y0.fst) = true then
      some ([], ())
    else
      (netOf_fn x0).bind fun y1 =>
        some (y1.fst, ())
def iNetOf_go : Nat → iNetOf_H → Option iNetOf_R
  | 0, _ => none
  | k + 1, h => iNetOf_body (iNetOf_go k) h
def iNetOf_k (k : Nat) (x0 : (List (Int × (Int × (Int × Unit))))) : Option iNetOf_R := iNetOf_start (iNetOf_go k) x0
def iNetOf_fn (x0 : (List (Int × (Int × (Int × Unit))))) : Option iNetOf_R := iNetOf_k (1) x0
noncomputable def iNetOf_sig : Sig := { ps := iNetOf_ps, outs := iNetOf_outs, fn := fun x => iNetOf_fn (x.1) }
theorem iNetOf_begin (rec : Cfg → Option iNetOf_sig.R.D) (x0 : (List (Int × (Int × (Int × Unit))))) : (ev iNetOf_env iNetOf_anns iNetOf_sig rec 20000 (entry iNetOf_sig 7 Try.f7 (bodyOf Try.f7) (x0, ()))).run = iNetOf_start (fun h => rec (iNetOf_cfg h)) x0 := by kernel_rfl
theorem iNetOf_tab_ok : iNetOf_tab.ok Try.prog = true := by decide +kernel
theorem iNetOf_env_ok : iNetOf_env.Ok Try.prog where
  mixed := by decide +kernel
  tab := iNetOf_tab_ok
  fns := by
    intro p hp
    simp only [iNetOf_env, List.mem_cons, List.not_mem_nil, or_false] at hp
    subst hp
    · exact ⟨Try.func7, by decide +kernel⟩
  sigs := by
    intro p hp
    simp only [iNetOf_env, List.mem_cons, List.not_mem_nil, or_false] at hp
    rcases hp with rfl | rfl
    · exact ⟨areDebts_meets, _, Try.func22, by decide +kernel⟩
    · exact ⟨netOf_meets, _, Try.func23, by decide +kernel⟩
theorem iNetOf_meets : Meets Try.prog 7 iNetOf_sig := by
  refine meets (anns := iNetOf_anns) (N := 20000) iNetOf_env_ok Try.func7 (body := bodyOf Try.f7) (by rfl) ?_
  rintro ⟨x0, ⟨⟩⟩ r hr
  refine ⟨1, ?_⟩
  show (ev iNetOf_env iNetOf_anns iNetOf_sig (Om iNetOf_env iNetOf_anns iNetOf_sig 20000 (1)) 20000 (entry iNetOf_sig 7 Try.f7 (bodyOf Try.f7) (x0, ()))).run = some r
  rw [iNetOf_begin]
  exact hr
end Go.Proofs.Ytbpfllifhpdlfaa.Ev
