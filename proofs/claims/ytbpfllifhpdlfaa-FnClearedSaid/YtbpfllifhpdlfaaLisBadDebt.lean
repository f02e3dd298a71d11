import Derived.Test.YtbpfllifhpdlfaaE25
import Derived.Test.YtbpfllifhpdlfaaProg
namespace Go.Proofs.Ytbpfllifhpdlfaa.Ev
open Go
set_option linter.unusedVariables false
set_option linter.unusedSimpArgs false
set_option maxRecDepth 100000
def isBadDebt_tab : TTab := [⟨3, (.int .i64), 0⟩, ⟨4, .bool, 0⟩, ⟨33, (.pair (.int .i64) (.pair (.int .i64) (.pair (.int .i64) .unit))), 0⟩]
noncomputable def isBadDebt_env : Env := { tab := isBadDebt_tab, fns := [(36, Try.f36)], sigs := [] }
def isBadDebt_anns : List Ann := []
abbrev isBadDebt_ps : List Par := [.lent (.pair (.int .i64) (.pair (.int .i64) (.pair (.int .i64) .unit)))]
abbrev isBadDebt_outs : Outs := .one (.pure .bool)
abbrev isBadDebt_R : Type := (Bool × Unit)
inductive isBadDebt_H where
  | none
noncomputable def isBadDebt_cfg : isBadDebt_H → Cfg
  | .none => { fr := { fn := 0, fb := 0, ss := [], todo := [] }, cs := [], ob := fun _ => none }
def isBadDebt_body (rec : isBadDebt_H → Option isBadDebt_R) : isBadDebt_H → Option isBadDebt_R
  | .none => none
def isBadDebt_start (rec : isBadDebt_H → Option isBadDebt_R) (x0 : (Int × (Int × (Int × Unit)))) : Option isBadDebt_R :=
  if (Decidable.decide (x0.fst < 0)) = true then
    some (Bool.true, ())
  else
    if (Decidable.decide (x0.fst ≥ 20)) = true then
      some (Bool.true, ())
    else
      if (Decidable.decide (x0.snd.fst < 0)) = true then
        some (Bool.true, ())
      else
        if (Decidable.decide (x0.snd.fst ≥ 20)) = true then
          some (Bool.true, ())
        else
          if (x0.fst == x0.snd.fst) = true then
            some (Bool.true, ())
          else
            if (Decidable.decide (x0.snd.snd.fst < 1)) = true then
              some (Bool.true, ())
            else
              some (Decidable.decide (x0.snd.snd.fst > 1000000000), ())
def isBadDebt_go : Nat → isBadDebt_H → Option isBadDebt_R
  | 0, _ => none
  | k + 1, h => isBadDebt_body (isBadDebt_go k) h
def isBadDebt_k (k : Nat) (x0 : (Int × (Int × (Int × Unit)))) : Option isBadDebt_R := isBadDebt_start (isBadDebt_go k) x0
def isBadDebt_fn (x0 : (Int × (Int × (Int × Unit)))) : Option isBadDebt_R := isBadDebt_k (1) x0
noncomputable def isBadDebt_sig : Sig := { ps := isBadDebt_ps, outs := isBadDebt_outs, fn := fun x => isBadDebt_fn (x.1) }
theorem isBadDebt_begin (rec : Cfg → Option isBadDebt_sig.R.D) (x0 : (Int × (Int × (Int × Unit)))) : (ev isBadDebt_env isBadDebt_anns isBadDebt_sig rec 20000 (entry isBadDebt_sig 36 Try.f36 (bodyOf Try.f36) (x0, ()))).run = isBadDebt_start (fun h => rec (isBadDebt_cfg h)) x0 := by kernel_rfl
theorem isBadDebt_tab_ok : isBadDebt_tab.ok Try.prog = true := by decide +kernel
theorem isBadDebt_env_ok : isBadDebt_env.Ok Try.prog where
  mixed := by decide +kernel
  tab := isBadDebt_tab_ok
  fns := by
    intro p hp
    simp only [isBadDebt_env, List.mem_cons, List.not_mem_nil, or_false] at hp
    subst hp
    · exact ⟨Try.func36, by decide +kernel⟩
  sigs := by
    intro p hp
    simp only [isBadDebt_env, List.mem_cons, List.not_mem_nil, or_false] at hp
theorem isBadDebt_meets : Meets Try.prog 36 isBadDebt_sig := by
  refine meets (anns := isBadDebt_anns) (N := 20000) isBadDebt_env_ok Try.func36 (body := bodyOf Try.f36) (by rfl) ?_
  rintro ⟨x0, ⟨⟩⟩ r hr
  refine ⟨1, ?_⟩
  show (ev isBadDebt_env isBadDebt_anns isBadDebt_sig (Om isBadDebt_env isBadDebt_anns isBadDebt_sig 20000 (1)) 20000 (entry isBadDebt_sig 36 Try.f36 (bodyOf Try.f36) (x0, ()))).run = some r
  rw [isBadDebt_begin]
  exact hr
end Go.Proofs.Ytbpfllifhpdlfaa.Ev
