import Derived.Test.YtbpfllifhpdlfaaE25
import Derived.Test.YtbpfllifhpdlfaaProg
import Derived.Test.YtbpfllifhpdlfaaLl01New
import Derived.Test.YtbpfllifhpdlfaaLl20DrawRight
import Derived.Test.YtbpfllifhpdlfaaLl20DrawCash
namespace Go.Proofs.Ytbpfllifhpdlfaa.Ev
open Go
set_option linter.unusedVariables false
set_option linter.unusedSimpArgs false
set_option maxRecDepth 100000
def DrawRightDebts_tab : TTab := [⟨22, (.slice (.int .u8)), 1⟩, ⟨24, (.slice (.pair (.int .i64) (.pair (.int .i64) (.pair (.int .i64) .unit)))), 24⟩, ⟨25, (.slice (.int .i64)), 8⟩, ⟨38, .opq, 0⟩]
noncomputable def DrawRightDebts_env : Env := { tab := DrawRightDebts_tab, fns := [(6, Try.f6)], sigs := [(19, l01New_sig), (20, l20DrawRight_sig), (21, l20DrawCash_sig)] }
def DrawRightDebts_anns : List Ann := []
abbrev DrawRightDebts_ps : List Par := [.leak (.slice (.int .u8))]
abbrev DrawRightDebts_outs : Outs := .many [(.own (.pair (.int .i64) (.pair (.int .i64) (.pair (.int .i64) .unit)))), (.own (.int .i64))]
abbrev DrawRightDebts_R : Type := (((List (Int × (Int × (Int × Unit)))) × ((List Int) × Unit)) × Unit)
inductive DrawRightDebts_H where
  | none
noncomputable def DrawRightDebts_cfg : DrawRightDebts_H → Cfg
  | .none => { fr := { fn := 0, fb := 0, ss := [], todo := [] }, cs := [], ob := fun _ => none }
def DrawRightDebts_body (rec : DrawRightDebts_H → Option DrawRightDebts_R) : DrawRightDebts_H → Option DrawRightDebts_R
  | .none => none
def DrawRightDebts_start (rec : DrawRightDebts_H → Option DrawRightDebts_R) (x0 : (List Int)) : Option DrawRightDebts_R :=
  (l01New_fn x0).bind fun y0 =>
    (l20DrawRight_fn y0.fst x0).bind fun y1 =>
      (l20DrawCash_fn y1.snd.fst).bind fun y2 =>
        some ((y1.fst, y2.fst, ()), ())
def DrawRightDebts_go : Nat → DrawRightDebts_H → Option DrawRightDebts_R
  | 0, _ => none
  | k + 1, h => DrawRightDebts_body (DrawRightDebts_go k) h
def DrawRightDebts_k (k : Nat) (x0 : (List Int)) : Option DrawRightDebts_R := DrawRightDebts_start (DrawRightDebts_go k) x0
def DrawRightDebts_fn (x0 : (List Int)) : Option DrawRightDebts_R := DrawRightDebts_k (1) x0
noncomputable def DrawRightDebts_sig : Sig := { ps := DrawRightDebts_ps, outs := DrawRightDebts_outs, fn := fun x => DrawRightDebts_fn (x.1) }
theorem DrawRightDebts_begin (rec : Cfg → Option DrawRightDebts_sig.R.D) (x0 : (List Int)) : (ev DrawRightDebts_env DrawRightDebts_anns DrawRightDebts_sig rec 20000 (entry DrawRightDebts_sig 6 Try.f6 (bodyOf Try.f6) (x0, ()))).run = DrawRightDebts_start (fun h => rec (DrawRightDebts_cfg h)) x0 := by kernel_rfl
theorem DrawRightDebts_tab_ok : DrawRightDebts_tab.ok Try.prog = true := by decide +kernel
theorem DrawRightDebts_env_ok : DrawRightDebts_env.Ok Try.prog where
  mixed := by decide +kernel
  tab := DrawRightDebts_tab_ok
  fns := by
    intro p hp
    simp only [DrawRightDebts_env, List.mem_cons, List.not_mem_nil, or_false] at hp
    subst hp
    · exact ⟨Try.func6, by decide +kernel⟩
  sigs := by
    intro p hp
    simp only [DrawRightDebts_env, List.mem_cons, List.not_mem_nil, or_false] at hp
    rcases hp with rfl | rfl | rfl
    · exact ⟨l01New_meets, _, Try.func19, by decide +kernel⟩
    · exact ⟨l20DrawRight_meets, _, Try.func20, by decide +kernel⟩
    · exact ⟨l20DrawCash_meets, _, Try.func21, by decide +kernel⟩
theorem DrawRightDebts_meets : Meets Try.prog 6 DrawRightDebts_sig := by
  refine meets (anns := DrawRightDebts_anns) (N := 20000) DrawRightDebts_env_ok Try.func6 (body := bodyOf Try.f6) (by rfl) ?_
  rintro ⟨x0, ⟨⟩⟩ r hr
  refine ⟨1, ?_⟩
  show (ev DrawRightDebts_env DrawRightDebts_anns DrawRightDebts_sig (Om DrawRightDebts_env DrawRightDebts_anns DrawRightDebts_sig 20000 (1)) 20000 (entry DrawRightDebts_sig 6 Try.f6 (bodyOf Try.f6) (x0, ()))).run = some r
  rw [DrawRightDebts_begin]
  exact hr
end Go.Proofs.Ytbpfllifhpdlfaa.Ev
