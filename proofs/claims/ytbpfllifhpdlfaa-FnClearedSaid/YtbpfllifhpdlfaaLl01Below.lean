import Derived.Test.YtbpfllifhpdlfaaE25
import Derived.Test.YtbpfllifhpdlfaaProg
import Derived.Test.YtbpfllifhpdlfaaLl01Byte
namespace Go.Proofs.Ytbpfllifhpdlfaa.Ev
open Go
set_option linter.unusedVariables false
set_option linter.unusedSimpArgs false
set_option maxRecDepth 100000
def l01Below_tab : TTab := [⟨3, (.int .i64), 0⟩, ⟨4, .bool, 0⟩, ⟨38, .opq, 0⟩]
noncomputable def l01Below_env : Env := { tab := l01Below_tab, fns := [(32, Try.f32)], sigs := [(38, l01Byte_sig)] }
def l01Below_anns : List Ann := []
abbrev l01Below_ps : List Par := [.mbox (.pair (.slice (.int .u8)) (.pair (.int .i64) (.pair (.int .i64) .unit))), .lent (.int .i64)]
abbrev l01Below_outs : Outs := .one (.pure (.int .i64))
abbrev l01Below_R : Type := (Int × (((List Int) × (Int × (Int × Unit))) × Unit))
inductive l01Below_H where
  | none
noncomputable def l01Below_cfg : l01Below_H → Cfg
  | .none => { fr := { fn := 0, fb := 0, ss := [], todo := [] }, cs := [], ob := fun _ => none }
def l01Below_body (rec : l01Below_H → Option l01Below_R) : l01Below_H → Option l01Below_R
  | .none => none
def l01Below_start (rec : l01Below_H → Option l01Below_R) (x0 : ((List Int) × (Int × (Int × Unit)))) (x1 : Int) : Option l01Below_R :=
  if (Decidable.decide (x1 ≤ 0)) = true then
    some (0, x0, ())
  else
    if (Decidable.decide (x1 ≤ 256)) = true then
      (l01Byte_fn x0).bind fun y0 =>
        if (Decidable.decide (x1 = 0)) = true then
          none
        else
          some (Int.tmod y0.fst x1, y0.snd.fst, ())
    else
      (l01Byte_fn x0).bind fun y1 =>
        (l01Byte_fn y1.snd.fst).bind fun y2 =>
          (l01Byte_fn y2.snd.fst).bind fun y3 =>
            if (Decidable.decide (x1 = 0)) = true then
              none
            else
              some ((IntKind.i64.wrap (IntKind.i64.wrap (IntKind.i64.wrap (y1.fst * 65536) + IntKind.i64.wrap (y2.fst * 256)) + y3.fst)).tmod x1, y3.snd.fst, ())
def l01Below_go : Nat → l01Below_H → Option l01Below_R
  | 0, _ => none
  | k + 1, h => l01Below_body (l01Below_go k) h
def l01Below_k (k : Nat) (x0 : ((List Int) × (Int × (Int × Unit)))) (x1 : Int) : Option l01Below_R := l01Below_start (l01Below_go k) x0 x1
def l01Below_fn (x0 : ((List Int) × (Int × (Int × Unit)))) (x1 : Int) : Option l01Below_R := l01Below_k (1) x0 x1
noncomputable def l01Below_sig : Sig := { ps := l01Below_ps, outs := l01Below_outs, fn := fun x => l01Below_fn (x.1) (x.2.1) }
theorem l01Below_begin (rec : Cfg → Option l01Below_sig.R.D) (x0 : ((List Int) × (Int × (Int × Unit)))) (x1 : Int) : (ev l01Below_env l01Below_anns l01Below_sig rec 20000 (entry l01Below_sig 32 Try.f32 (bodyOf Try.f32) (x0, x1, ()))).run = l01Below_start (fun h => rec (l01Below_cfg h)) x0 x1 := by kernel_rfl
theorem l01Below_tab_ok : l01Below_tab.ok Try.prog = true := by decide +kernel
theorem l01Below_env_ok : l01Below_env.Ok Try.prog where
  mixed := by decide +kernel
  tab := l01Below_tab_ok
  fns := by
    intro p hp
    simp only [l01Below_env, List.mem_cons, List.not_mem_nil, or_false] at hp
    subst hp
    · exact ⟨Try.func32, by decide +kernel⟩
  sigs := by
    intro p hp
    simp only [l01Below_env, List.mem_cons, List.not_mem_nil, or_false] at hp
    subst hp
    · exact ⟨l01Byte_meets, _, Try.func38, by decide +kernel⟩
theorem l01Below_meets : Meets Try.prog 32 l01Below_sig := by
  refine meets (anns := l01Below_anns) (N := 20000) l01Below_env_ok Try.func32 (body := bodyOf Try.f32) (by rfl) ?_
  rintro ⟨x0, x1, ⟨⟩⟩ r hr
  refine ⟨1, ?_⟩
  show (ev l01Below_env l01Below_anns l01Below_sig (Om l01Below_env l01Below_anns l01Below_sig 20000 (1)) 20000 (entry l01Below_sig 32 Try.f32 (bodyOf Try.f32) (x0, x1, ()))).run = some r
  rw [l01Below_begin]
  exact hr
end Go.Proofs.Ytbpfllifhpdlfaa.Ev
