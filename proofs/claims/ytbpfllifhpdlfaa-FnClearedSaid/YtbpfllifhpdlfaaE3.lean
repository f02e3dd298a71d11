/- Parts of a value: reading one, turning one; a struct told part by part, or whole. -/
import Derived.Test.YtbpfllifhpdlfaaE2
namespace Go.Proofs.Ytbpfllifhpdlfaa.Ev
open Go
set_option linter.unusedVariables false
set_option linter.unusedSimpArgs false

theorem AVR.congr {X : Ctx} : ∀ {a : AV} {c c' : Cs}, (∀ j, j < a.sz → c' j = c j) → AVR X a c → AVR X a c' := by
  intro a
  induction a with
  | undef => intro c c' h r; trivial
  | pv m T x => intro c c' h r; exact Rep.congr h r
  | nilv => intro c c' h r; simp only [AVR] at r ⊢; rw [h 0 (by simp [AV.sz])]; exact r
  | row o v => intro c c' h r; simp only [AVR] at r ⊢; rw [h 0 (by simp [AV.sz])]; exact r
  | bptr o p => intro c c' h r; simp only [AVR] at r ⊢; rw [h 0 (by simp [AV.sz])]; exact r
  | rptr o v i p => intro c c' h r; simp only [AVR] at r ⊢; rw [h 0 (by simp [AV.sz])]; exact r
  | pp m T x => intro c c' h r; simp only [AVR] at r ⊢; rw [h 0 (by simp [AV.sz])]; exact r
  | fn f os => intro c c' h r; simp only [AVR] at r ⊢; rw [h 0 (by simp [AV.sz])]; exact r
  | unit => intro c c' h r; trivial
  | pair a b iha ihb =>
    intro c c' h r
    exact ⟨iha (fun j hj => h j (by simp only [AV.sz]; omega)) r.1, ihb (fun j hj => h _ (by simp only [AV.sz]; omega)) r.2⟩
  | tnil => intro c c' h r; exact r
  | tcons a b => intro c c' h r; exact r

theorem Rep.weaken {X : Ctx} (hij : ∀ b, X.I b → X.J b) {m : Bool} (m' : Bool) {T : Ty} {x : T.D} {c : Cs} (r : Rep X.w (X.set m) T x c) : Rep X.w (X.set (m || m')) T x c := by
  cases m
  · cases m'
    · exact r
    · exact r.mono hij
  · exact r
theorem Rep.weaken' {X : Ctx} (hij : ∀ b, X.I b → X.J b) {m : Bool} (m' : Bool) {T : Ty} {x : T.D} {c : Cs} (r : Rep X.w (X.set m) T x c) : Rep X.w (X.set (m' || m)) T x c := by
  rw [Bool.or_comm]; exact Rep.weaken hij m' r

/-- A value told whole as one of type T, if all its parts are plain data; and whether it may lead to what was lent. -/
def AV.pureAs : (T : Ty) → AV → Option (Bool × T.D)
  | .pair A B, .pair a b => match a.pureAs A, b.pureAs B with
    | some p, some q => some (p.1 || q.1, (p.2, q.2))
    | _, _ => none
  | .unit, .unit => some (false, ())
  | .slice _, .nilv => some (false, [])
  | T, .pv m T' x => if h : T' = T then some (m && !T'.flat, h ▸ x) else none
  | _, _ => none
theorem AV.pureAs_pv {T T' : Ty} {m : Bool} {x : T'.D} : AV.pureAs T (.pv m T' x) = if h : T' = T then some (m && !T'.flat, h ▸ x) else none := by
  cases T <;> rfl
theorem rep_flatm {X : Ctx} {m : Bool} {T : Ty} {x : T.D} {c : Cs} (r : Rep X.w (X.set m) T x c) : Rep X.w (X.set (m && !T.flat)) T x c := by
  cases hf : T.flat with
  | true => exact Rep.flat hf r
  | false => simpa [hf] using r
theorem AV.pureAs_ok {X : Ctx} (hij : ∀ b, X.I b → X.J b) : ∀ {T : Ty} {a : AV} {p : Bool × T.D} {c : Cs}, AVR X a c → a.pureAs T = some p → Rep X.w (X.set p.1) T p.2 c ∧ a.fits T = true := by
  intro T
  have hpv : ∀ {T T' : Ty} {m : Bool} {x : T'.D} {p : Bool × T.D} {c : Cs}, AVR X (.pv m T' x) c → AV.pureAs T (.pv m T' x) = some p → Rep X.w (X.set p.1) T p.2 c ∧ (AV.pv m T' x).fits T = true := by
    intro T T' m x p c r h
    rw [AV.pureAs_pv] at h
    split at h
    · rename_i e
      subst e
      simp only [Option.some.injEq] at h
      subst h
      exact ⟨rep_flatm r, by simp [AV.fits]⟩
    · exact absurd h (by simp)
  induction T with
  | pair A B iha ihb =>
    intro a p c r h
    cases a with
    | pv m T' x => exact hpv r h
    | pair a b =>
      simp only [AV.pureAs] at h
      cases ha : a.pureAs A with
      | none => simp [ha] at h
      | some pa =>
        cases hb : b.pureAs B with
        | none => simp [ha, hb] at h
        | some pb =>
          simp only [ha, hb, Option.some.injEq] at h
          subst h
          obtain ⟨ra, fa⟩ := iha r.1 ha
          obtain ⟨rb, fb⟩ := ihb r.2 hb
          rw [AV.fits_sz fa] at rb
          exact ⟨⟨Rep.weaken hij _ ra, Rep.weaken' hij _ rb⟩, by simp [AV.fits, fa, fb]⟩
    | _ => simp [AV.pureAs] at h
  | unit =>
    intro a p c r h
    cases a with
    | pv m T' x => exact hpv r h
    | unit => simp only [AV.pureAs, Option.some.injEq] at h; subst h; exact ⟨trivial, rfl⟩
    | _ => simp [AV.pureAs] at h
  | slice e ih =>
    intro a p c r h
    cases a with
    | pv m T' x => exact hpv r h
    | nilv =>
      simp only [AV.pureAs, Option.some.injEq] at h
      subst h
      exact ⟨⟨none, 0, r, Nat.le_refl _, fun hp => absurd hp (by simp)⟩, rfl⟩
    | _ => simp [AV.pureAs] at h
  | _ =>
    intro a p c r h
    cases a with
    | pv m T' x => exact hpv r h
    | _ => simp [AV.pureAs] at h

theorem getD_rep {w : World} {I : Bs} {e : Ty} {xs : List e.D} {f : Nat → Cs} (h : ∀ i (hi : i < xs.length), Rep w I e xs[i] (f i)) {i : Nat} (hi : i < xs.length) (z : e.D) : Rep w I e (xs.getD i z) (f i) := by
  have := h i hi
  rwa [List.getD_eq_getElem?_getD, List.getElem?_eq_getElem hi]

/-- The part at a path's end. -/
def AV.get : List Step → AV → Option AV
  | [], a => some a
  | .fst :: p, .pair a _ => AV.get p a
  | .snd :: p, .pair _ b => AV.get p b
  | .fst :: p, .pv m (.pair A _) x => AV.get p (.pv m A x.1)
  | .snd :: p, .pv m (.pair _ B) x => AV.get p (.pv m B x.2)
  | .ix i :: p, .pv m (.arr _ e) xs => AV.get p (.pv m e (xs.getD i e.zero))
  | _, _ => none
theorem AV.get_ok {X : Ctx} : ∀ {p : List Step} {a a' : AV} {T T' : Ty} {off : Nat} {c : Cs}, AVR X a c → a.fits T = true → Ty.at p T = some (off, T') → PathOk p T → AV.get p a = some a' → AVR X a' (shift c off) ∧ a'.fits T' = true := by
  intro p
  induction p with
  | nil =>
    intro a a' T T' off c r f h _ g
    simp only [Ty.at, Option.some.injEq, Prod.mk.injEq] at h
    obtain ⟨rfl, rfl⟩ := h
    simp only [AV.get, Option.some.injEq] at g
    subst g
    exact ⟨by rw [shift_zero]; exact r, f⟩
  | cons s p ih =>
    intro a a' T T' off c r f h ok g
    cases s with
    | fst =>
      cases T with
      | pair A B =>
        simp only [Ty.at] at h
        simp only [PathOk] at ok
        cases a with
        | pair a b =>
          simp only [AV.fits, Bool.and_eq_true] at f
          exact ih r.1 f.1 h ok g
        | pv m T0 x =>
          simp only [AV.fits, decide_eq_true_eq] at f
          subst f
          exact ih (a := .pv m A x.1) r.1 (by simp [AV.fits]) h ok g
        | _ => simp [AV.get] at g
      | _ => simp [Ty.at] at h
    | snd =>
      cases T with
      | pair A B =>
        simp only [Ty.at] at h
        simp only [PathOk] at ok
        cases hb : Ty.at p B with
        | none => simp [hb] at h
        | some q =>
          obtain ⟨o1, t1⟩ := q
          simp only [hb, Option.some.injEq, Prod.mk.injEq] at h
          obtain ⟨rfl, rfl⟩ := h
          rw [← shift_shift]
          cases a with
          | pair a b =>
            simp only [AV.fits, Bool.and_eq_true] at f
            rw [← AV.fits_sz f.1]
            exact ih r.2 f.2 hb ok g
          | pv m T0 x =>
            simp only [AV.fits, decide_eq_true_eq] at f
            subst f
            exact ih (a := .pv m B x.2) r.2 (by simp [AV.fits]) hb ok g
          | _ => simp [AV.get] at g
      | _ => simp [Ty.at] at h
    | ix i =>
      cases T with
      | arr n e =>
        simp only [Ty.at] at h
        simp only [PathOk] at ok
        cases hb : Ty.at p e with
        | none => simp [hb] at h
        | some q =>
          obtain ⟨o1, t1⟩ := q
          simp only [hb, Option.some.injEq, Prod.mk.injEq] at h
          obtain ⟨rfl, rfl⟩ := h
          rw [← shift_shift]
          cases a with
          | pv m T0 x =>
            simp only [AV.fits, decide_eq_true_eq] at f
            subst f
            obtain ⟨hl, r⟩ := r
            exact ih (a := .pv m e (x.getD i e.zero)) (getD_rep r (by omega) _) (by simp [AV.fits]) hb ok.2 g
          | pair a b => simp [AV.fits] at f
          | _ => simp [AV.get] at g
      | _ => simp [Ty.at] at h

theorem Ty.at_le : ∀ {p : List Step} {T T' : Ty} {off : Nat}, Ty.at p T = some (off, T') → PathOk p T → off + T'.sz ≤ T.sz := by
  intro p
  induction p with
  | nil =>
    intro T T' off h _
    simp only [Ty.at, Option.some.injEq, Prod.mk.injEq] at h
    obtain ⟨rfl, rfl⟩ := h
    omega
  | cons s p ih =>
    intro T T' off h ok
    cases s with
    | fst =>
      cases T with
      | pair A B => simp only [Ty.at] at h; simp only [PathOk] at ok; have := ih h ok; simp only [Ty.sz]; omega
      | _ => simp [Ty.at] at h
    | snd =>
      cases T with
      | pair A B =>
        simp only [Ty.at] at h
        simp only [PathOk] at ok
        cases hb : Ty.at p B with
        | none => simp [hb] at h
        | some q =>
          simp only [hb, Option.some.injEq, Prod.mk.injEq] at h
          obtain ⟨rfl, rfl⟩ := h
          have := ih hb ok
          simp only [Ty.sz]; omega
      | _ => simp [Ty.at] at h
    | ix i =>
      cases T with
      | arr n e =>
        simp only [Ty.at] at h
        simp only [PathOk] at ok
        cases hb : Ty.at p e with
        | none => simp [hb] at h
        | some q =>
          simp only [hb, Option.some.injEq, Prod.mk.injEq] at h
          obtain ⟨rfl, rfl⟩ := h
          have := ih hb ok.2
          have h1 : (i + 1) * e.sz ≤ n * e.sz := Nat.mul_le_mul_right _ ok.1
          rw [Nat.succ_mul] at h1
          simp only [Ty.sz]; omega
      | _ => simp [Ty.at] at h

/-- The value with another part at a path's end. -/
def AV.upd : List Step → AV → AV → Option AV
  | [], _, v => some v
  | .fst :: p, .pair a b, v => match AV.upd p a v with
    | some a' => some (.pair a' b)
    | none => none
  | .snd :: p, .pair a b, v => match AV.upd p b v with
    | some b' => some (.pair a b')
    | none => none
  | .fst :: p, .pv m (.pair A B) x, v => match AV.upd p (.pv m A x.1) v with
    | some a' => some (.pair a' (.pv m B x.2))
    | none => none
  | .snd :: p, .pv m (.pair A B) x, v => match AV.upd p (.pv m B x.2) v with
    | some b' => some (.pair (.pv m A x.1) b')
    | none => none
  | .ix i :: p, .pv m (.arr n e) xs, v => match AV.upd p (.pv m e (xs.getD i e.zero)) v with
    | some a => match a.pureAs e with
      | some q => some (.pv (m || q.1) (.arr n e) (xs.set i q.2))
      | none => none
    | none => none
  | _, _, _ => none

theorem AV.upd_ok {X : Ctx} (hij : ∀ b, X.I b → X.J b) : ∀ {p : List Step} {a v a' : AV} {T T' : Ty} {off : Nat} {c c' : Cs}, AVR X a c → a.fits T = true → Ty.at p T = some (off, T') → PathOk p T →
    v.fits T' = true → AVR X v (shift c' off) → (∀ j, j < T.sz → (j < off ∨ off + T'.sz ≤ j) → c' j = c j) → AV.upd p a v = some a' → AVR X a' c' ∧ a'.fits T = true := by
  intro p
  induction p with
  | nil =>
    intro a v a' T T' off c c' r f h _ fv rv hc g
    simp only [Ty.at, Option.some.injEq, Prod.mk.injEq] at h
    obtain ⟨rfl, rfl⟩ := h
    simp only [AV.upd, Option.some.injEq] at g
    subst g
    rw [shift_zero] at rv
    exact ⟨rv, fv⟩
  | cons s p ih =>
    intro a v a' T T' off c c' r f h ok fv rv hc g
    cases s with
    | fst =>
      cases T with
      | pair A B =>
        simp only [Ty.at] at h
        simp only [PathOk] at ok
        have hle := Ty.at_le h ok
        cases a with
        | pair a b =>
          simp only [AV.fits, Bool.and_eq_true] at f
          simp only [AV.upd] at g
          cases hu : AV.upd p a v with
          | none => simp [hu] at g
          | some a1 =>
            simp only [hu, Option.some.injEq] at g
            subst g
            obtain ⟨r1, f1⟩ := ih r.1 f.1 h ok fv rv (fun j hj ho => hc j (by simp only [Ty.sz]; omega) ho) hu
            refine ⟨⟨r1, ?_⟩, by simp [AV.fits, f1, f.2]⟩
            rw [AV.fits_sz f1]
            refine AVR.congr (fun j hj => ?_) r.2
            rw [AV.fits_sz f.2] at hj
            simp only [shift]
            rw [AV.fits_sz f.1]
            exact hc _ (by simp only [Ty.sz]; omega) (by omega)
        | pv m T0 x =>
          simp only [AV.fits, decide_eq_true_eq] at f
          subst f
          simp only [AV.upd] at g
          cases hu : AV.upd p (.pv m A x.1) v with
          | none => simp [hu] at g
          | some a1 =>
            simp only [hu, Option.some.injEq] at g
            subst g
            obtain ⟨r1, f1⟩ := ih (a := .pv m A x.1) r.1 (by simp [AV.fits]) h ok fv rv (fun j hj ho => hc j (by simp only [Ty.sz]; omega) ho) hu
            refine ⟨⟨r1, ?_⟩, by simp [AV.fits, f1]⟩
            rw [AV.fits_sz f1]
            refine Rep.congr (fun j hj => ?_) r.2
            simp only [shift]
            exact hc _ (by simp only [Ty.sz]; omega) (by omega)
        | _ => simp [AV.upd] at g
      | _ => simp [Ty.at] at h
    | snd =>
      cases T with
      | pair A B =>
        simp only [Ty.at] at h
        simp only [PathOk] at ok
        cases hb : Ty.at p B with
        | none => simp [hb] at h
        | some q =>
          obtain ⟨o1, t1⟩ := q
          simp only [hb, Option.some.injEq, Prod.mk.injEq] at h
          obtain ⟨rfl, rfl⟩ := h
          have hle := Ty.at_le hb ok
          rw [← shift_shift] at rv
          cases a with
          | pair a b =>
            simp only [AV.fits, Bool.and_eq_true] at f
            simp only [AV.upd] at g
            cases hu : AV.upd p b v with
            | none => simp [hu] at g
            | some b1 =>
              simp only [hu, Option.some.injEq] at g
              subst g
              have r2 := r.2
              rw [AV.fits_sz f.1] at r2
              obtain ⟨r1, f1⟩ := ih (c' := shift c' A.sz) r2 f.2 hb ok fv rv (fun j hj ho => hc _ (by simp only [Ty.sz]; omega) (by omega)) hu
              refine ⟨⟨AVR.congr (fun j hj => ?_) r.1, ?_⟩, by simp [AV.fits, f1, f.1]⟩
              · rw [AV.fits_sz f.1] at hj
                exact hc j (by simp only [Ty.sz]; omega) (by omega)
              · rw [AV.fits_sz f.1]; exact r1
          | pv m T0 x =>
            simp only [AV.fits, decide_eq_true_eq] at f
            subst f
            simp only [AV.upd] at g
            cases hu : AV.upd p (.pv m B x.2) v with
            | none => simp [hu] at g
            | some b1 =>
              simp only [hu, Option.some.injEq] at g
              subst g
              obtain ⟨r1, f1⟩ := ih (a := .pv m B x.2) (c' := shift c' A.sz) r.2 (by simp [AV.fits]) hb ok fv rv (fun j hj ho => hc _ (by simp only [Ty.sz]; omega) (by omega)) hu
              exact ⟨⟨Rep.congr (fun j hj => hc j (by simp only [Ty.sz]; omega) (by omega)) r.1, r1⟩, by simp [AV.fits, f1]⟩
          | _ => simp [AV.upd] at g
      | _ => simp [Ty.at] at h
    | ix i =>
      cases T with
      | arr n e =>
        simp only [Ty.at] at h
        simp only [PathOk] at ok
        cases hb : Ty.at p e with
        | none => simp [hb] at h
        | some q =>
          obtain ⟨o1, t1⟩ := q
          simp only [hb, Option.some.injEq, Prod.mk.injEq] at h
          obtain ⟨rfl, rfl⟩ := h
          have hle := Ty.at_le hb ok.2
          rw [← shift_shift] at rv
          cases a with
          | pv m T0 x =>
            simp only [AV.fits, decide_eq_true_eq] at f
            subst f
            simp only [AV.upd] at g
            cases hu : AV.upd p (.pv m e (x.getD i e.zero)) v with
            | none => simp only [hu] at g; exact absurd g (by simp)
            | some a1 =>
              simp only [hu] at g
              cases hp : a1.pureAs e with
              | none => simp [hp] at g
              | some q =>
                simp only [hp, Option.some.injEq] at g
                subst g
                obtain ⟨hl, r⟩ := r
                have hn : (i + 1) * e.sz ≤ n * e.sz := Nat.mul_le_mul_right _ ok.1
                rw [Nat.succ_mul] at hn
                obtain ⟨r1, f1⟩ := ih (a := .pv m e (x.getD i e.zero)) (c' := shift c' (i * e.sz)) (getD_rep r (by omega) _) (by simp [AV.fits]) hb ok.2 fv rv (fun j hj ho => by
                  refine hc _ ?_ (by omega)
                  simp only [Ty.sz]; omega) hu
                obtain ⟨rp, _⟩ := AV.pureAs_ok hij r1 hp
                refine ⟨⟨by simp [hl], fun k hk => ?_⟩, by simp [AV.fits]⟩
                simp only [List.length_set] at hk
                by_cases hki : k = i
                · subst hki
                  rw [List.getElem_set_self]
                  exact Rep.weaken' hij _ rp
                · rw [List.getElem_set_ne (Ne.symm hki)]
                  refine Rep.weaken hij _ (Rep.congr (fun j hj => ?_) (r k hk))
                  have hk1 : (k + 1) * e.sz ≤ n * e.sz := Nat.mul_le_mul_right _ (by omega)
                  rw [Nat.succ_mul] at hk1
                  simp only [shift]
                  refine hc _ (by simp only [Ty.sz]; omega) ?_
                  rcases Nat.lt_or_gt_of_ne hki with h1 | h1
                  · have h2 : (k + 1) * e.sz ≤ i * e.sz := Nat.mul_le_mul_right _ h1
                    rw [Nat.succ_mul] at h2
                    left; omega
                  · have h2 : (i + 1) * e.sz ≤ k * e.sz := Nat.mul_le_mul_right _ h1
                    rw [Nat.succ_mul] at h2
                    right; omega
          | pair a b => simp [AV.fits] at f
          | _ => simp [AV.upd] at g
      | _ => simp [Ty.at] at h
end Go.Proofs.Ytbpfllifhpdlfaa.Ev
