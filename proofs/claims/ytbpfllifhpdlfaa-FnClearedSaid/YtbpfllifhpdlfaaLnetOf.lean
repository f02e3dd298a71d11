import Derived.Test.YtbpfllifhpdlfaaE25
import Derived.Test.YtbpfllifhpdlfaaProg
namespace Go.Proofs.Ytbpfllifhpdlfaa.Ev
open Go
set_option linter.unusedVariables false
set_option linter.unusedSimpArgs false
set_option maxRecDepth 100000
def netOf_tab : TTab := [⟨3, (.int .i64), 0⟩, ⟨24, (.slice (.pair (.int .i64) (.pair (.int .i64) (.pair (.int .i64) .unit)))), 24⟩, ⟨25, (.slice (.int .i64)), 8⟩, ⟨33, (.pair (.int .i64) (.pair (.int .i64) (.pair (.int .i64) .unit))), 0⟩]
noncomputable def netOf_env : Env := { tab := netOf_tab, fns := [(23, Try.f23)], sigs := [] }
def netOf_anns : List Ann := [⟨23, 3, [3, 7, 8, 9], []⟩]
abbrev netOf_ps : List Par := [.lent (.slice (.pair (.int .i64) (.pair (.int .i64) (.pair (.int .i64) .unit))))]
abbrev netOf_outs : Outs := .one (.own (.int .i64))
abbrev netOf_R : Type := ((List Int) × Unit)
inductive netOf_H where
  | l0 (v0 : List (Int × Int × Int × Unit)) (v1 : Int) (v2 : Int) (v3 : List Int)
noncomputable def netOf_cfg : netOf_H → Cfg
  | .l0 v0 v1 v2 v3 => { fr := { fn := 23, fb := 0, ss := [.undef, .undef, .undef, (.row 0 0), .undef, .undef, .undef, (.pv true (.slice (.pair (.int .i64) (.pair (.int .i64) (.pair (.int .i64) .unit)))) v0), (.pv false (.int .i64) v1), (.pv false (.int .i64) v2), .undef, .undef, .undef, .undef, .undef, .undef, .undef, .undef, .undef, .undef, .undef, .undef, .undef, .undef, .undef, .undef, .undef, .undef, .undef, .undef, .undef, .undef, .undef], todo := todoAt (bodyOf Try.f23) [false, false, true, false, true] [] }, cs := [], ob := ofList [.row 0 false (.int .i64) v3] }
def netOf_body (rec : netOf_H → Option netOf_R) : netOf_H → Option netOf_R
  | .l0 v0 v1 v2 v3 =>
    if (Decidable.decide (v2 < v1)) = true then
      if (Decidable.decide (0 ≤ v2)) = true then
        if (Decidable.decide (v2 < (↑v0.length : Int))) = true then
          if (Decidable.decide (0 ≤ (v0.getD v2.toNat (0, 0, 0, ())).fst)) = true then
            if (Decidable.decide ((v0.getD v2.toNat (0, 0, 0, ())).fst < (↑v3.length : Int))) = true then
              if (Decidable.decide (0 ≤ (v0.getD v2.toNat (0, 0, 0, ())).fst)) = true then
                if (Decidable.decide ((v0.getD v2.toNat (0, 0, 0, ())).fst < (↑v3.length : Int))) = true then
                  if (Decidable.decide (0 ≤ (v0.getD v2.toNat (0, 0, 0, ())).snd.fst)) = true then
                    if (Decidable.decide ((v0.getD v2.toNat (0, 0, 0, ())).snd.fst < (↑(v3.set (Int.toNat (v0.getD v2.toNat (0, 0, 0, ())).fst) (IntKind.i64.wrap (v3.getD (Int.toNat (v0.getD v2.toNat (0, 0, 0, ())).fst) 0 - (v0.getD v2.toNat (0, 0, 0, ())).snd.snd.fst))).length : Int))) = true then
                      if (Decidable.decide (0 ≤ (v0.getD v2.toNat (0, 0, 0, ())).snd.fst)) = true then
                        if (Decidable.decide ((v0.getD v2.toNat (0, 0, 0, ())).snd.fst < (↑(v3.set (Int.toNat (v0.getD v2.toNat (0, 0, 0, ())).fst) (IntKind.i64.wrap (v3.getD (Int.toNat (v0.getD v2.toNat (0, 0, 0, ())).fst) 0 - (v0.getD v2.toNat (0, 0, 0, ())).snd.snd.fst))).length : Int))) = true then
                          (rec (.l0 (v0) (v1) (IntKind.i64.wrap (v2 + 1)) ((v3.set (Int.toNat (v0.getD v2.toNat (0, 0, 0, ())).fst) (IntKind.i64.wrap (v3.getD (Int.toNat (v0.getD v2.toNat (0, 0, 0, ())).fst) 0 - (v0.getD v2.toNat (0, 0, 0, ())).snd.snd.fst))).set (Int.toNat (v0.getD v2.toNat (0, 0, 0, ())).snd.fst) (IntKind.i64.wrap ((v3.set (Int.toNat (v0.getD v2.toNat (0, 0, 0, ())).fst) (IntKind.i64.wrap (v3.getD (Int.toNat (v0.getD v2.toNat (0, 0, 0, ())).fst) 0 - (v0.getD v2.toNat (0, 0, 0, ())).snd.snd.fst))).getD (Int.toNat (v0.getD v2.toNat (0, 0, 0, ())).snd.fst) 0 + (v0.getD v2.toNat (0, 0, 0, ())).snd.snd.fst))))).bind some
                        else
                          none
                      else
                        none
                    else
                      none
                  else
                    none
                else
                  none
              else
                none
            else
              none
          else
            none
        else
          none
      else
        none
    else
      some (v3, ())
def netOf_start (rec : netOf_H → Option netOf_R) (x0 : (List (Int × (Int × (Int × Unit))))) : Option netOf_R :=
  (rec (.l0 (x0) ((↑x0.length : Int)) (0) (List.replicate (Int.toNat 20) 0))).bind some
def netOf_go : Nat → netOf_H → Option netOf_R
  | 0, _ => none
  | k + 1, h => netOf_body (netOf_go k) h
def netOf_k (k : Nat) (x0 : (List (Int × (Int × (Int × Unit))))) : Option netOf_R := netOf_start (netOf_go k) x0
def netOf_fn (x0 : (List (Int × (Int × (Int × Unit))))) : Option netOf_R := netOf_k (x0.length + 1) x0
noncomputable def netOf_sig : Sig := { ps := netOf_ps, outs := netOf_outs, fn := fun x => netOf_fn (x.1) }
theorem netOf_l0 (rec : Cfg → Option netOf_sig.R.D) (v0 : List (Int × Int × Int × Unit)) (v1 : Int) (v2 : Int) (v3 : List Int) : (ev netOf_env netOf_anns netOf_sig rec 20000 (netOf_cfg (.l0 v0 v1 v2 v3))).run = netOf_body (fun h => rec (netOf_cfg h)) (.l0 v0 v1 v2 v3) := by kernel_rfl
theorem netOf_begin (rec : Cfg → Option netOf_sig.R.D) (x0 : (List (Int × (Int × (Int × Unit))))) : (ev netOf_env netOf_anns netOf_sig rec 20000 (entry netOf_sig 23 Try.f23 (bodyOf Try.f23) (x0, ()))).run = netOf_start (fun h => rec (netOf_cfg h)) x0 := by kernel_rfl
theorem netOf_tab_ok : netOf_tab.ok Try.prog = true := by decide +kernel
theorem netOf_env_ok : netOf_env.Ok Try.prog where
  mixed := by decide +kernel
  tab := netOf_tab_ok
  fns := by
    intro p hp
    simp only [netOf_env, List.mem_cons, List.not_mem_nil, or_false] at hp
    subst hp
    · exact ⟨Try.func23, by decide +kernel⟩
  sigs := by
    intro p hp
    simp only [netOf_env, List.mem_cons, List.not_mem_nil, or_false] at hp
theorem netOf_run (k : Nat) (h : netOf_H) : Om netOf_env netOf_anns netOf_sig 20000 k (netOf_cfg h) = netOf_go k h :=
  Om_go (sg := netOf_sig) (cfg := netOf_cfg) (body := netOf_body) (go := netOf_go) (fun _ => rfl) (fun _ _ => rfl) (fun rec h => by
  cases h with
  | l0 v0 v1 v2 v3 => exact netOf_l0 rec v0 v1 v2 v3) k h
theorem netOf_meets : Meets Try.prog 23 netOf_sig := by
  refine meets (anns := netOf_anns) (N := 20000) netOf_env_ok Try.func23 (body := bodyOf Try.f23) (by rfl) ?_
  rintro ⟨x0, ⟨⟩⟩ r hr
  refine ⟨x0.length + 1, ?_⟩
  show (ev netOf_env netOf_anns netOf_sig (Om netOf_env netOf_anns netOf_sig 20000 (x0.length + 1)) 20000 (entry netOf_sig 23 Try.f23 (bodyOf Try.f23) (x0, ()))).run = some r
  rw [netOf_begin]
  have e : (fun h => Om netOf_env netOf_anns netOf_sig 20000 (x0.length + 1) (netOf_cfg h)) = netOf_go (x0.length + 1) := funext fun h => netOf_run _ h
  rw [e]
  exact hr
end Go.Proofs.Ytbpfllifhpdlfaa.Ev
