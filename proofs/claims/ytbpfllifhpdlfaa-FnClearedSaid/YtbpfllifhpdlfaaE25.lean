/- Where a loop's head stands in a function's code, and where a call stands. -/
import Derived.Test.YtbpfllifhpdlfaaE19
namespace Go.Proofs.Ytbpfllifhpdlfaa.Ev
open Go
set_option linter.unusedVariables false
set_option linter.unusedSimpArgs false

def bodyOf (f : Func) : Code := f.body.getD .skip
def todoAt : Code → List Bool → List Item → List Item
  | .seq a b, true :: p, k => todoAt a p (.code b :: k)
  | .seq _ b, false :: p, k => todoAt b p k
  | .cond _ a _, true :: p, k => todoAt a p k
  | .cond _ _ b, false :: p, k => todoAt b p k
  | .block id b, _ :: p, k => todoAt b p (.inBlock id :: k)
  | .loop b, [], k => .code b :: .inLoop b :: k
  | .loop b, _ :: p, k => todoAt b p (.inLoop b :: k)
  | _, _, k => k
def callAt : Code → List Bool → Nat → List Item → List Item
  | .seq a b, true :: p, i, k => callAt a p i (.code b :: k)
  | .seq _ b, false :: p, i, k => callAt b p i k
  | .cond _ a _, true :: p, i, k => callAt a p i k
  | .cond _ _ b, false :: p, i, k => callAt b p i k
  | .block id b, _ :: p, i, k => callAt b p i (.inBlock id :: k)
  | .loop b, _ :: p, i, k => callAt b p i (.inLoop b :: k)
  | .region _ ops _, _, i, k => .inRegion ops ((List.range ops.size).drop i) :: k
  | _, _, _, k => k
/-- A function's run, told from head to head. -/
theorem Om_go {α : Type} {env : Env} {anns : List Ann} {sg : Sig} {N : Nat} {cfg : α → Cfg} {body : (α → Option sg.R.D) → α → Option sg.R.D} {go : Nat → α → Option sg.R.D}
    (h0 : ∀ h, go 0 h = none) (h1 : ∀ k h, go (k + 1) h = body (go k) h) (hs : ∀ (rec : Cfg → Option sg.R.D) h, (ev env anns sg rec N (cfg h)).run = body (fun h' => rec (cfg h')) h) : ∀ k h, Om env anns sg N k (cfg h) = go k h := by
  intro k
  induction k with
  | zero => intro h; rw [h0]; rfl
  | succ k ih =>
    intro h
    rw [h1]
    have : (fun h' => Om env anns sg N k (cfg h')) = go k := funext ih
    rw [← this]
    exact hs _ h
end Go.Proofs.Ytbpfllifhpdlfaa.Ev
