import Derived.Test.YtbpfllifhpdlfaaE25
import Derived.Test.YtbpfllifhpdlfaaProg
namespace Go.Proofs.Ytbpfllifhpdlfaa.Ev
open Go
set_option linter.unusedVariables false
set_option linter.unusedSimpArgs false
set_option maxRecDepth 100000
def l01Byte_tab : TTab := [⟨3, (.int .i64), 0⟩, ⟨4, .bool, 0⟩, ⟨5, (.int .u8), 0⟩, ⟨22, (.slice (.int .u8)), 1⟩, ⟨38, .opq, 0⟩, ⟨50, (.pair (.slice (.int .u8)) (.pair (.int .i64) (.pair (.int .i64) .unit))), 0⟩]
noncomputable def l01Byte_env : Env := { tab := l01Byte_tab, fns := [(38, Try.f38)], sigs := [] }
def l01Byte_anns : List Ann := []
abbrev l01Byte_ps : List Par := [.mbox (.pair (.slice (.int .u8)) (.pair (.int .i64) (.pair (.int .i64) .unit)))]
abbrev l01Byte_outs : Outs := .one (.pure (.int .i64))
abbrev l01Byte_R : Type := (Int × (((List Int) × (Int × (Int × Unit))) × Unit))
inductive l01Byte_H where
  | none
noncomputable def l01Byte_cfg : l01Byte_H → Cfg
  | .none => { fr := { fn := 0, fb := 0, ss := [], todo := [] }, cs := [], ob := fun _ => none }
def l01Byte_body (rec : l01Byte_H → Option l01Byte_R) : l01Byte_H → Option l01Byte_R
  | .none => none
def l01Byte_start (rec : l01Byte_H → Option l01Byte_R) (x0 : ((List Int) × (Int × (Int × Unit)))) : Option l01Byte_R :=
  if (Decidable.decide (x0.snd.fst < (↑(List.length x0.fst) : Int))) = true then
    if (Decidable.decide (0 ≤ x0.snd.fst)) = true then
      if (Decidable.decide (x0.snd.fst < (↑(List.length x0.fst) : Int))) = true then
        some (Go.bits Go.BinOp.and IntKind.i64 (IntKind.i64.wrap (Go.bits Go.BinOp.and IntKind.i64 (Go.bits Go.BinOp.xor IntKind.i64 ((IntKind.i64.wrap (IntKind.i64.wrap (x0.snd.snd.fst * 6364136223846793005) + 1442695040888963407)).fdiv (2 ^ Min.min (Int.toNat 33) IntKind.i64.bits)) ((IntKind.i64.wrap (IntKind.i64.wrap (x0.snd.snd.fst * 6364136223846793005) + 1442695040888963407)).fdiv (2 ^ Min.min (Int.toNat 45) IntKind.i64.bits))) 255 + IntKind.i64.wrap (List.getD x0.fst (Int.toNat x0.snd.fst) 0))) 255, (x0.fst, IntKind.i64.wrap (x0.snd.fst + 1), IntKind.i64.wrap (IntKind.i64.wrap (x0.snd.snd.fst * 6364136223846793005) + 1442695040888963407), x0.snd.snd.snd), ())
      else
        none
    else
      none
  else
    some (Go.bits Go.BinOp.and IntKind.i64 (Go.bits Go.BinOp.xor IntKind.i64 ((IntKind.i64.wrap (IntKind.i64.wrap (x0.snd.snd.fst * 6364136223846793005) + 1442695040888963407)).fdiv (2 ^ Min.min (Int.toNat 33) IntKind.i64.bits)) ((IntKind.i64.wrap (IntKind.i64.wrap (x0.snd.snd.fst * 6364136223846793005) + 1442695040888963407)).fdiv (2 ^ Min.min (Int.toNat 45) IntKind.i64.bits))) 255, (x0.fst, x0.snd.fst, IntKind.i64.wrap (IntKind.i64.wrap (x0.snd.snd.fst * 6364136223846793005) + 1442695040888963407), x0.snd.snd.snd), ())
def l01Byte_go : Nat → l01Byte_H → Option l01Byte_R
  | 0, _ => none
  | k + 1, h => l01Byte_body (l01Byte_go k) h
def l01Byte_k (k : Nat) (x0 : ((List Int) × (Int × (Int × Unit)))) : Option l01Byte_R := l01Byte_start (l01Byte_go k) x0
def l01Byte_fn (x0 : ((List Int) × (Int × (Int × Unit)))) : Option l01Byte_R := l01Byte_k (1) x0
noncomputable def l01Byte_sig : Sig := { ps := l01Byte_ps, outs := l01Byte_outs, fn := fun x => l01Byte_fn (x.1) }
theorem l01Byte_begin (rec : Cfg → Option l01Byte_sig.R.D) (x0 : ((List Int) × (Int × (Int × Unit)))) : (ev l01Byte_env l01Byte_anns l01Byte_sig rec 20000 (entry l01Byte_sig 38 Try.f38 (bodyOf Try.f38) (x0, ()))).run = l01Byte_start (fun h => rec (l01Byte_cfg h)) x0 := by kernel_rfl
theorem l01Byte_tab_ok : l01Byte_tab.ok Try.prog = true := by decide +kernel
theorem l01Byte_env_ok : l01Byte_env.Ok Try.prog where
  mixed := by decide +kernel
  tab := l01Byte_tab_ok
  fns := by
    intro p hp
    simp only [l01Byte_env, List.mem_cons, List.not_mem_nil, or_false] at hp
    subst hp
    · exact ⟨Try.func38, by decide +kernel⟩
  sigs := by
    intro p hp
    simp only [l01Byte_env, List.mem_cons, List.not_mem_nil, or_false] at hp
theorem l01Byte_meets : Meets Try.prog 38 l01Byte_sig := by
  refine meets (anns := l01Byte_anns) (N := 20000) l01Byte_env_ok Try.func38 (body := bodyOf Try.f38) (by rfl) ?_
  rintro ⟨x0, ⟨⟩⟩ r hr
  refine ⟨1, ?_⟩
  show (ev l01Byte_env l01Byte_anns l01Byte_sig (Om l01Byte_env l01Byte_anns l01Byte_sig 20000 (1)) 20000 (entry l01Byte_sig 38 Try.f38 (bodyOf Try.f38) (x0, ()))).run = some r
  rw [l01Byte_begin]
  exact hr
end Go.Proofs.Ytbpfllifhpdlfaa.Ev
