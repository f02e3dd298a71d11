/- At a loop's head: what is no longer needed is forgotten, and the objects are numbered anew. -/
import Derived.Test.YtbpfllifhpdlfaaE17
namespace Go.Proofs.Ytbpfllifhpdlfaa.Ev
open Go
set_option linter.unusedVariables false
set_option linter.unusedSimpArgs false

def memB (l : List Nat) (n : Nat) : Bool := l.any (Nat.beq n)
/-- Slots that are not listed are forgotten. -/
def keepS (keep : List Nat) : Nat → List AV → List AV
  | _, [] => []
  | i, a :: r => (bif memB keep i then a else .undef) :: keepS keep (i + 1) r
def posOf : List Nat → Nat → Nat → Option Nat
  | [], _, _ => none
  | x :: r, o, i => bif Nat.beq x o then some i else posOf r o (i + 1)
theorem posOf_ok : ∀ {l : List Nat} {o i j : Nat}, posOf l o i = some j → i ≤ j ∧ l[j - i]? = some o := by
  intro l
  induction l with
  | nil => intro o i j h; simp [posOf] at h
  | cons x r ih =>
    intro o i j h
    simp only [posOf] at h
    cases e : Nat.beq x o with
    | true =>
      rw [e] at h
      simp only [cond_true, Option.some.injEq] at h
      subst h
      exact ⟨Nat.le_refl _, by simp [Nat.eq_of_beq_eq_true e]⟩
    | false =>
      rw [e] at h
      obtain ⟨h1, h2⟩ := ih h
      refine ⟨by omega, ?_⟩
      have : j - i = (j - (i + 1)) + 1 := by omega
      rw [this]
      simpa using h2
def mapPos (ids : List Nat) : List Nat → Option (List Nat)
  | [] => some []
  | o :: r => match posOf ids o 0, mapPos ids r with
    | some i, some l => some (i :: l)
    | _, _ => none
/-- A value with its objects' new numbers; all versions begin anew. -/
def AV.ren (s : Objs) (ids : List Nat) : AV → Option AV
  | .row o v => match s o, posOf ids o 0 with
    | some (.row v' _ _ _), some i => if Nat.beq v v' = true then some (.row i 0) else none
    | some (.imm v' _ _ _), some i => if Nat.beq v v' = true then some (.row i 0) else none
    | _, _ => none
  | .bptr o p => match posOf ids o 0 with
    | some i => some (.bptr i p)
    | none => none
  | .rptr o v j p => match s o, posOf ids o 0 with
    | some (.row v' _ _ _), some i => if Nat.beq v v' = true then some (.rptr i 0 j p) else none
    | _, _ => none
  | .fn g os => match mapPos ids os with
    | some l => some (.fn g l)
    | none => none
  | .pair a b => match a.ren s ids, b.ren s ids with
    | some x, some y => some (.pair x y)
    | _, _ => none
  | .tcons a b => match a.ren s ids, b.ren s ids with
    | some x, some y => some (.tcons x y)
    | _, _ => none
  | .pv m T x => some (.pv (m && !T.flat) T x)
  | a => some a
def renObj (s : Objs) (ids : List Nat) : AObj → Option AObj
  | .box T a => match a.ren s ids with
    | some a' => some (.box T a')
    | none => none
  | .row _ m T xs => some (.row 0 m T xs)
  | .imm _ m T xs => some (.imm 0 m T xs)
def renAt (s : Objs) (ids : List Nat) (o : Nat) : Option AObj := match s o with
  | some ob => renObj s ids ob
  | none => none
def renObjs (s : Objs) (ids : List Nat) : Objs := fun i => match ids[i]? with
  | some o => renAt s ids o
  | none => none
def ofList (l : List AObj) : Objs := fun i => l[i]?
def renL (s : Objs) (ids : List Nat) : List Nat → List AObj
  | [] => []
  | o :: r => match renAt s ids o with
    | some a => a :: renL s ids r
    | none => renL s ids r
def renS (s : Objs) (ids : List Nat) : List AV → List AV
  | [] => []
  | a :: r => (match a.ren s ids with
    | some x => x
    | none => .undef) :: renS s ids r
def renF (s : Objs) (ids : List Nat) (b : AFr) : AFr := { b with ss := renS s ids b.ss }
def allSome (s : Objs) (ids : List Nat) : List Nat → Bool
  | [] => true
  | o :: r => (renAt s ids o).isSome && allSome s ids r
/-- The objects that are still led to, in order. -/
def refs (s : Objs) : AV → List Nat
  | .row o v => bif (AV.row o v).cur s then [o] else []
  | .bptr o _ => [o]
  | .rptr o v i p => bif (AV.rptr o v i p).cur s then [o] else []
  | .fn _ os => os
  | .pair a b => refs s a ++ refs s b
  | .tcons a b => refs s a ++ refs s b
  | _ => []
def reach (s : Objs) : Nat → List Nat → List Nat → List Nat
  | 0, acc, _ => acc
  | _ + 1, acc, [] => acc
  | n + 1, acc, o :: r => bif memB acc o then reach s n acc r else reach s n (acc ++ [o]) ((match s o with
    | some (.box _ a) => refs s a
    | _ => []) ++ r)
def refsL (s : Objs) : List AV → List Nat
  | [] => []
  | a :: r => refs s a ++ refsL s r
def refsF (s : Objs) : List AFr → List Nat
  | [] => []
  | b :: r => refsL s b.ss ++ refsF s r
def upto : Nat → List Nat
  | 0 => []
  | n + 1 => upto n ++ [n]
theorem upto_get : ∀ {n i : Nat}, i < n → (upto n)[i]? = some i := by
  intro n
  induction n with
  | zero => intro i h; omega
  | succ n ih =>
    intro i h
    have hl : (upto n).length = n := by
      clear ih h
      induction n with
      | zero => rfl
      | succ n ih => simp [upto, ih]
    simp only [upto]
    by_cases e : i < n
    · rw [List.getElem?_append_left (by omega)]; exact ih e
    · obtain rfl : i = n := by omega
      rw [List.getElem?_append_right (by omega), hl]
      simp
/-- The numbering; the first n objects keep their numbers. -/
def ren (n : Nat) (c : Cfg) : Option Cfg :=
  let ids := reach c.ob 1000 (upto n) (refsL c.ob c.fr.ss ++ refsF c.ob c.cs)
  if nodupB ids && allSome c.ob ids ids && (ids.take n == upto n) then
    some { fr := renF c.ob ids c.fr, cs := c.cs.map (renF c.ob ids), ob := ofList (renL c.ob ids ids) }
  else none

section
variable {P : Program} {E : Fix} {X : Ctx}

def renX (X : Ctx) (ids : List Nat) : Ctx := { w := X.w, I := X.I, J := X.J, objs := renObjs X.objs ids, φ := fun i => X.φ (ids.getD i 0) }
theorem renObjs_at {s : Objs} {ids : List Nat} {i o : Nat} (h : ids[i]? = some o) : renObjs s ids i = renAt s ids o := by simp [renObjs, h]
theorem renX_φ {ids : List Nat} {i o : Nat} (h : ids[i]? = some o) : (renX X ids).φ i = X.φ o := by simp [renX, List.getD_eq_getElem?_getD, h]
theorem allSome_ok {s : Objs} {ids : List Nat} : ∀ {l : List Nat}, allSome s ids l = true → ∀ o, o ∈ l → ∃ ob ob', s o = some ob ∧ renObj s ids ob = some ob' := by
  intro l
  induction l with
  | nil => intro _ o ho; exact absurd ho (by simp)
  | cons x r ih =>
    intro h o ho
    simp only [allSome, Bool.and_eq_true] at h
    rcases List.mem_cons.1 ho with e | e
    · subst e
      have h1 := h.1
      unfold renAt at h1
      split at h1
      · rename_i ob hob
        obtain ⟨ob', h2⟩ := Option.isSome_iff_exists.1 h1
        exact ⟨ob, ob', hob, h2⟩
      · simp at h1
    · exact ih h.2 o e

theorem mapPos_ok {ids : List Nat} : ∀ {os l : List Nat}, mapPos ids os = some l → l.length = os.length ∧ ∀ (k i : Nat), l[k]? = some i → ∃ o : Nat, os[k]? = some o ∧ ids[i]? = some o := by
  intro os
  induction os with
  | nil => intro l h; simp only [mapPos, Option.some.injEq] at h; subst h; exact ⟨rfl, fun k i h => by simp at h⟩
  | cons o os ih =>
    intro l h
    simp only [mapPos] at h
    split at h
    · rename_i i l' hi hl
      simp only [Option.some.injEq] at h
      subst h
      obtain ⟨h1, h2⟩ := ih hl
      have := (posOf_ok hi).2
      refine ⟨by simp [h1], fun k j hk => ?_⟩
      cases k with
      | zero => simp at hk; subst hk; exact ⟨o, rfl, by simpa using this⟩
      | succ k => simpa using h2 k j (by simpa using hk)
    · exact absurd h (by simp)
theorem ren_fits {s : Objs} {ids : List Nat} : ∀ {a a' : AV} {T : Ty}, a.ren s ids = some a' → a.fits T = true → a'.fits T = true ∧ a'.sz = a.sz ∧ a'.isAgg = a.isAgg := by
  intro a
  induction a with
  | row o v =>
    intro a' T h f
    simp only [AV.ren] at h
    split at h
    · split at h
      · simp only [Option.some.injEq] at h; subst h; exact ⟨by cases T <;> exact f, rfl, rfl⟩
      · exact absurd h (by simp)
    · split at h
      · simp only [Option.some.injEq] at h; subst h; exact ⟨by cases T <;> exact f, rfl, rfl⟩
      · exact absurd h (by simp)
    · exact absurd h (by simp)
  | bptr o p =>
    intro a' T h f
    simp only [AV.ren] at h
    split at h
    · simp only [Option.some.injEq] at h; subst h; exact ⟨by cases T <;> exact f, rfl, rfl⟩
    · exact absurd h (by simp)
  | rptr o v i p =>
    intro a' T h f
    simp only [AV.ren] at h
    split at h
    · split at h
      · simp only [Option.some.injEq] at h; subst h; exact ⟨by cases T <;> exact f, rfl, rfl⟩
      · exact absurd h (by simp)
    · exact absurd h (by simp)
  | fn g os =>
    intro a' T h f
    simp only [AV.ren] at h
    split at h
    · simp only [Option.some.injEq] at h; subst h; exact ⟨by cases T <;> exact f, rfl, rfl⟩
    · exact absurd h (by simp)
  | pair a b iha ihb =>
    intro a' T h f
    simp only [AV.ren] at h
    split at h
    · rename_i x y hx hy
      simp only [Option.some.injEq] at h
      subst h
      cases T with
      | pair A B =>
        simp only [AV.fits, Bool.and_eq_true] at f
        obtain ⟨f1, s1, _⟩ := iha hx f.1
        obtain ⟨f2, s2, _⟩ := ihb hy f.2
        exact ⟨by simp [AV.fits, f1, f2], by simp [AV.sz, s1, s2], rfl⟩
      | _ => simp [AV.fits] at f
    · exact absurd h (by simp)
  | tcons a b => intro a' T h f; cases T <;> simp [AV.fits] at f
  | _ => intro a' T h f; simp only [AV.ren, Option.some.injEq] at h; subst h; exact ⟨by cases T <;> exact f, rfl, rfl⟩
theorem ren_sz {s : Objs} {ids : List Nat} : ∀ {a a' : AV}, a.ren s ids = some a' → a'.sz = a.sz ∧ a'.isAgg = a.isAgg := by
  intro a
  induction a with
  | row o v =>
    intro a' h
    simp only [AV.ren] at h
    split at h
    · split at h
      · simp only [Option.some.injEq] at h; subst h; exact ⟨rfl, rfl⟩
      · exact absurd h (by simp)
    · split at h
      · simp only [Option.some.injEq] at h; subst h; exact ⟨rfl, rfl⟩
      · exact absurd h (by simp)
    · exact absurd h (by simp)
  | bptr o p =>
    intro a' h
    simp only [AV.ren] at h
    split at h
    · simp only [Option.some.injEq] at h; subst h; exact ⟨rfl, rfl⟩
    · exact absurd h (by simp)
  | rptr o v i p =>
    intro a' h
    simp only [AV.ren] at h
    split at h
    · split at h
      · simp only [Option.some.injEq] at h; subst h; exact ⟨rfl, rfl⟩
      · exact absurd h (by simp)
    · exact absurd h (by simp)
  | fn g os =>
    intro a' h
    simp only [AV.ren] at h
    split at h
    · simp only [Option.some.injEq] at h; subst h; exact ⟨rfl, rfl⟩
    · exact absurd h (by simp)
  | pair a b iha ihb =>
    intro a' h
    simp only [AV.ren] at h
    split at h
    · rename_i x y hx hy
      simp only [Option.some.injEq] at h
      subst h
      exact ⟨by simp [AV.sz, (iha hx).1, (ihb hy).1], rfl⟩
    · exact absurd h (by simp)
  | tcons a b iha ihb =>
    intro a' h
    simp only [AV.ren] at h
    split at h
    · simp only [Option.some.injEq] at h; subst h; exact ⟨rfl, rfl⟩
    · exact absurd h (by simp)
  | _ => intro a' h; simp only [AV.ren, Option.some.injEq] at h; subst h; exact ⟨rfl, rfl⟩
theorem AVR.ren {ids : List Nat} (hall : ∀ o, o ∈ ids → ∃ ob ob', X.objs o = some ob ∧ renObj X.objs ids ob = some ob') : ∀ {a a' : AV} {c : Cs}, AVR X a c → a.ren X.objs ids = some a' → AVR (renX X ids) a' c := by
  have hat : ∀ o i, posOf ids o 0 = some i → ids[i]? = some o := fun o i h => by simpa using (posOf_ok h).2
  have hobj : ∀ o i, ids[i]? = some o → ∃ ob ob', X.objs o = some ob ∧ renObj X.objs ids ob = some ob' ∧ (renX X ids).objs i = some ob' := fun o i h => by
    obtain ⟨ob, ob', h1, h2⟩ := hall o (List.mem_of_getElem? h)
    refine ⟨ob, ob', h1, h2, ?_⟩
    show renObjs X.objs ids i = _
    rw [renObjs_at h]
    unfold renAt
    rw [h1]
    exact h2
  intro a
  induction a with
  | row o v =>
    intro a' c r h
    simp only [AV.ren] at h
    simp only [AVR] at r
    split at h
    · rename_i v' m T xs i ho hp
      split at h
      · rename_i hv
        obtain rfl := Nat.eq_of_beq_eq_true hv
        simp only [Option.some.injEq] at h
        subst h
        rw [ho] at r
        obtain ⟨ob, ob', h1, h2, h3⟩ := hobj o i (hat o i hp)
        rw [ho] at h1
        obtain rfl := Option.some.inj h1
        simp only [renObj, Option.some.injEq] at h2
        subst h2
        simp only [AVR, h3, renX_φ (hat o i hp)]
        exact ⟨Nat.le_refl _, fun _ => r.2 rfl⟩
      · exact absurd h (by simp)
    · rename_i v' m T xs i ho hp
      split at h
      · rename_i hv
        obtain rfl := Nat.eq_of_beq_eq_true hv
        simp only [Option.some.injEq] at h
        subst h
        rw [ho] at r
        obtain ⟨ob, ob', h1, h2, h3⟩ := hobj o i (hat o i hp)
        rw [ho] at h1
        obtain rfl := Option.some.inj h1
        simp only [renObj, Option.some.injEq] at h2
        subst h2
        simp only [AVR, h3, renX_φ (hat o i hp)]
        exact ⟨Nat.le_refl _, fun _ => r.2 rfl⟩
      · exact absurd h (by simp)
    · exact absurd h (by simp)
  | bptr o p =>
    intro a' c r h
    simp only [AV.ren] at h
    simp only [AVR] at r
    split at h
    · rename_i i hp
      simp only [Option.some.injEq] at h
      subst h
      obtain ⟨ob, ob', h1, h2, h3⟩ := hobj o i (hat o i hp)
      rw [h1] at r
      cases ob with
      | box T b =>
        simp only [renObj] at h2
        split at h2
        · simp only [Option.some.injEq] at h2
          subst h2
          simp only [AVR, h3, renX_φ (hat o i hp)]
          exact r
        · exact absurd h2 (by simp)
      | row _ _ _ _ => exact r.elim
      | imm _ _ _ _ => exact r.elim
    · exact absurd h (by simp)
  | rptr o v j p =>
    intro a' c r h
    simp only [AV.ren] at h
    simp only [AVR] at r
    split at h
    · rename_i v' m T xs i ho hp
      split at h
      · rename_i hv
        obtain rfl := Nat.eq_of_beq_eq_true hv
        simp only [Option.some.injEq] at h
        subst h
        rw [ho] at r
        obtain ⟨ob, ob', h1, h2, h3⟩ := hobj o i (hat o i hp)
        rw [ho] at h1
        obtain rfl := Option.some.inj h1
        simp only [renObj, Option.some.injEq] at h2
        subst h2
        simp only [AVR, h3, renX_φ (hat o i hp)]
        exact ⟨Nat.le_refl _, fun _ => r.2 rfl⟩
      · exact absurd h (by simp)
    · exact absurd h (by simp)
  | fn g os =>
    intro a' c r h
    simp only [AV.ren] at h
    split at h
    · rename_i l hl
      simp only [Option.some.injEq] at h
      subst h
      obtain ⟨r1, r2⟩ := r
      obtain ⟨k1, k2⟩ := mapPos_ok hl
      refine ⟨?_, fun i hi => ?_⟩
      · rw [r1]
        congr 3
        refine List.ext_getElem? fun k => ?_
        simp only [List.getElem?_map]
        by_cases hk : k < l.length
        · have e := List.getElem?_eq_getElem hk
          obtain ⟨o, ho1, ho2⟩ := k2 k _ e
          rw [ho1, e]
          simp only [Option.map_some, renX_φ ho2]
        · rw [List.getElem?_eq_none (by omega), List.getElem?_eq_none (by omega)]
          rfl
      · obtain ⟨k, hk, rfl⟩ := List.getElem_of_mem hi
        obtain ⟨o, ho1, ho2⟩ := k2 k _ (List.getElem?_eq_getElem hk)
        obtain ⟨T, b, hb⟩ := r2 o (List.mem_of_getElem? ho1)
        obtain ⟨ob, ob', h1, h2, h3⟩ := hobj o _ ho2
        rw [hb] at h1
        obtain rfl := Option.some.inj h1
        simp only [renObj] at h2
        split at h2
        · simp only [Option.some.injEq] at h2
          subst h2
          exact ⟨_, _, h3⟩
        · exact absurd h2 (by simp)
    · exact absurd h (by simp)
  | pair a b iha ihb =>
    intro a' c r h
    simp only [AV.ren] at h
    split at h
    · rename_i x y hx hy
      simp only [Option.some.injEq] at h
      subst h
      refine ⟨iha r.1 hx, ?_⟩
      rw [(ren_sz hx).1]
      exact ihb r.2 hy
    · exact absurd h (by simp)
  | tcons a b => intro a' c r h; exact r.elim
  | tnil => intro a' c r h; exact r.elim
  | undef => intro a' c r h; simp only [AV.ren, Option.some.injEq] at h; subst h; trivial
  | pv m T x => intro a' c r h; simp only [AV.ren, Option.some.injEq] at h; subst h; exact rep_flatm r
  | nilv => intro a' c r h; simp only [AV.ren, Option.some.injEq] at h; subst h; exact r
  | pp m T x => intro a' c r h; simp only [AV.ren, Option.some.injEq] at h; subst h; exact r
  | unit => intro a' c r h; simp only [AV.ren, Option.some.injEq] at h; subst h; exact r
theorem TupR.ren {ids : List Nat} (hall : ∀ o, o ∈ ids → ∃ ob ob', X.objs o = some ob ∧ renObj X.objs ids ob = some ob') : ∀ {a a' : AV} {vs : List Value}, TupR X a vs → a.ren X.objs ids = some a' → TupR (renX X ids) a' vs := by
  intro a
  induction a with
  | tnil => intro a' vs r h; simp only [AV.ren, Option.some.injEq] at h; subst h; exact r
  | tcons a b iha ihb =>
    intro a' vs r h
    simp only [AV.ren] at h
    split at h
    · rename_i x y hx hy
      simp only [Option.some.injEq] at h
      subst h
      obtain ⟨v, s, e, h1, h2⟩ := r
      obtain ⟨z1, z2⟩ := ren_sz hx
      exact ⟨v, s, e, ⟨h1.1.trans z2.symm, h1.2.1.trans z1.symm, h1.2.2.ren hall hx⟩, ihb h2 hy⟩
    · exact absurd h (by simp)
  | _ => intro a' vs r h; exact r.elim
theorem SlotR.ren {ids : List Nat} (hall : ∀ o, o ∈ ids → ∃ ob ob', X.objs o = some ob ∧ renObj X.objs ids ob = some ob') {a a' : AV} {v : Value} (r : SlotR X a v) (h : a.ren X.objs ids = some a') : SlotR (renX X ids) a' v := by
  have hval : ValR X a v → SlotR (renX X ids) a' v := fun k => by
    obtain ⟨z1, z2⟩ := ren_sz h
    exact slot_of_val ⟨k.1.trans z2.symm, k.2.1.trans z1.symm, k.2.2.ren hall h⟩
  cases a with
  | undef => simp only [AV.ren, Option.some.injEq] at h; subst h; trivial
  | tnil => simp only [AV.ren, Option.some.injEq] at h; subst h; exact r
  | tcons x y =>
    obtain ⟨vs, e, ht⟩ := r
    have := TupR.ren hall ht h
    subst e
    exact tup_slot this
  | _ => exact hval r
theorem renS_ok {ids : List Nat} (hall : ∀ o, o ∈ ids → ∃ ob ob', X.objs o = some ob ∧ renObj X.objs ids ob = some ob') {ss : List AV} {ts : Array Value} (h : SlotsR X ss ts) : SlotsR (renX X ids) (renS X.objs ids ss) ts := by
  have aux : ∀ (ss : List AV), (renS X.objs ids ss).length = ss.length ∧ ∀ i, (renS X.objs ids ss).getD i .undef = match (ss.getD i .undef).ren X.objs ids with | some x => x | none => .undef := by
    intro ss
    induction ss with
    | nil => exact ⟨rfl, fun i => rfl⟩
    | cons a r ih =>
      refine ⟨by simp [renS, ih.1], fun i => ?_⟩
      cases i with
      | zero => rfl
      | succ i => simpa [renS] using ih.2 i
  obtain ⟨h1, h2⟩ := aux ss
  refine ⟨h1.trans h.1, fun i => ?_⟩
  rw [h2]
  split
  · rename_i x hx; exact (h.2 i).ren hall hx
  · trivial
theorem keepS_ok {keep : List Nat} {ss : List AV} {ts : Array Value} (h : SlotsR X ss ts) : SlotsR X (keepS keep 0 ss) ts := by
  have aux : ∀ (ss : List AV) (k : Nat), (keepS keep k ss).length = ss.length ∧ ∀ i, (keepS keep k ss).getD i .undef = ss.getD i .undef ∨ (keepS keep k ss).getD i .undef = .undef := by
    intro ss
    induction ss with
    | nil => intro k; exact ⟨rfl, fun i => .inl rfl⟩
    | cons a r ih =>
      intro k
      refine ⟨by simp [keepS, (ih (k + 1)).1], fun i => ?_⟩
      cases i with
      | zero =>
        simp only [keepS]
        cases memB keep k
        · right; rfl
        · left; rfl
      | succ i => simpa [keepS] using (ih (k + 1)).2 i
  obtain ⟨h1, h2⟩ := aux ss 0
  refine ⟨h1.trans h.1, fun i => ?_⟩
  rcases h2 i with e | e
  · rw [e]; exact h.2 i
  · rw [e]; trivial

theorem Fits.ren (F : Fits E X) {ids : List Nat} (hnd : ids.Nodup) (hall : ∀ o, o ∈ ids → ∃ ob ob', X.objs o = some ob ∧ renObj X.objs ids ob = some ob') : Fits E (renX X ids) := by
  have hobj : ∀ i ob', (renX X ids).objs i = some ob' → ∃ o ob, ids[i]? = some o ∧ X.objs o = some ob ∧ renObj X.objs ids ob = some ob' := fun i ob' h => by
    have h' : renObjs X.objs ids i = some ob' := h
    unfold renObjs at h'
    split at h'
    · rename_i o ho
      obtain ⟨ob, ob2, h1, h2⟩ := hall o (List.mem_of_getElem? ho)
      refine ⟨o, ob, ho, h1, ?_⟩
      unfold renAt at h'
      rw [h1] at h'
      exact h'
    · exact absurd h' (by simp)
  have hown : ∀ i b, Own (renX X ids).objs (renX X ids).φ i b → ∃ o, ids[i]? = some o ∧ Own X.objs X.φ o b := fun i b h => by
    cases hi : (renX X ids).objs i with
    | none => unfold Own at h; rw [hi] at h; exact h.elim
    | some ob' =>
      obtain ⟨o, ob, h1, h2, h3⟩ := hobj i ob' hi
      refine ⟨o, h1, ?_⟩
      unfold Own at h ⊢
      rw [hi, renX_φ h1] at h
      rw [h2]
      cases ob with
      | box T a =>
        simp only [renObj] at h3
        split at h3
        · simp only [Option.some.injEq] at h3; subst h3; exact h
        · exact absurd h3 (by simp)
      | row v m T xs => simp only [renObj, Option.some.injEq] at h3; subst h3; exact h
      | imm v m T xs => simp only [renObj, Option.some.injEq] at h3; subst h3; exact h
  refine ⟨F.keep, fun i ob' hi => ?_, fun i j b h1 h2 => ?_, fun i b h => ?_, fun i b h => ?_, fun i v m T xs hi hn => ?_, F.ij, F.jlt, F.i0, F.iw, F.j0, F.jw⟩
  · obtain ⟨o, ob, h1, h2, h3⟩ := hobj i ob' hi
    rw [renX_φ h1]
    have hr := F.objs o ob h2
    cases ob with
    | box T a =>
      simp only [renObj] at h3
      split at h3
      · rename_i a' ha
        simp only [Option.some.injEq] at h3
        subst h3
        obtain ⟨k1, k2, k3⟩ := hr
        exact ⟨(ren_fits ha k1).1, k2, k3.ren hall ha⟩
      · exact absurd h3 (by simp)
    | row v m T xs => simp only [renObj, Option.some.injEq] at h3; subst h3; exact hr
    | imm v m T xs => simp only [renObj, Option.some.injEq] at h3; subst h3; exact hr
  · obtain ⟨o, e1, k1⟩ := hown i b h1
    obtain ⟨o', e2, k2⟩ := hown j b h2
    have := F.dist o o' b k1 k2
    subst this
    obtain ⟨hi, e3⟩ := List.getElem?_eq_some_iff.1 e1
    obtain ⟨hj, e4⟩ := List.getElem?_eq_some_iff.1 e2
    exact (List.getElem_inj hnd).1 (e3.trans e4.symm)
  · obtain ⟨o, _, k1⟩ := hown i b h
    exact F.ownJ o b k1
  · obtain ⟨o, _, k1⟩ := hown i b h
    exact F.ownw o b k1
  · obtain ⟨o, ob, h1, h2, h3⟩ := hobj i _ hi
    rw [renX_φ h1] at hn ⊢
    cases ob with
    | box T' a =>
      simp only [renObj] at h3
      split at h3
      · cases h3
      · exact absurd h3 (by simp)
    | row v' m' T' xs' => exact F.rown o _ _ _ _ h2 hn
    | imm v' m' T' xs' => simp only [renObj] at h3; cases h3

theorem MB.ren {ids : List Nat} (hall : ∀ o, o ∈ ids → ∃ ob ob', X.objs o = some ob ∧ renObj X.objs ids ob = some ob') : ∀ (ps : List Par) (n : Nat) (bs : List Nat), (∀ i, n ≤ i → i < n + mCount ps → ids[i]? = some i) → MB X ps n bs → MB (renX X ids) ps n bs := by
  intro ps
  induction ps with
  | nil => intro n bs _ k; exact k
  | cons p ps ih =>
    intro n bs hid k
    cases p with
    | lent T => exact ih n bs hid k
    | leak T => exact ih n bs hid k
    | mbox T =>
      obtain ⟨b, r, e, h1, ⟨a, h2⟩, h3⟩ := k
      have hn := hid n (Nat.le_refl _) (by simp only [mCount]; omega)
      refine ⟨b, r, e, by rw [renX_φ hn]; exact h1, ?_, ih (n + 1) r (fun i hi hi2 => hid i (by omega) (by simp only [mCount]; omega)) h3⟩
      obtain ⟨ob, ob', k1, k2⟩ := hall n (List.mem_of_getElem? hn)
      rw [h2] at k1
      obtain rfl := Option.some.inj k1
      have k2' := k2
      simp only [renObj] at k2
      split at k2
      · rename_i a' _
        refine ⟨a', ?_⟩
        show renObjs X.objs ids n = _
        rw [renObjs_at hn]
        unfold renAt
        rw [h2]
        simp only [Option.some.injEq] at k2
        rw [k2]
        exact k2'
      · exact absurd k2 (by simp)

theorem renL_eq {s : Objs} {ids : List Nat} : ∀ {l : List Nat}, allSome s ids l = true → ∀ i : Nat, (renL s ids l)[i]? = match l[i]? with
  | some o => renAt s ids o
  | none => none := by
  intro l
  induction l with
  | nil => intro _ i; rfl
  | cons o r ih =>
    intro h i
    simp only [allSome, Bool.and_eq_true] at h
    obtain ⟨a, ha⟩ := Option.isSome_iff_exists.1 h.1
    simp only [renL, ha]
    cases i with
    | zero => simp [ha]
    | succ i => simpa using ih h.2 i
theorem ofList_eq {s : Objs} {ids : List Nat} (h : allSome s ids ids = true) : ofList (renL s ids ids) = renObjs s ids := by
  funext i
  exact renL_eq h i
theorem ren_ok {c c' : Cfg} {ts : Array Value} {fs : List Frame} (S : Sim E X c ts fs) {ps : List Par} {bs : List Nat} (hMB : MB X ps 0 bs) (h : ren (mCount ps) c = some c') :
    ∃ X', X'.w = X.w ∧ Sim E X' c' ts fs ∧ MB X' ps 0 bs ∧ c'.fr.todo = c.fr.todo ∧ c'.fr.fn = c.fr.fn ∧ rootL c'.fr c'.cs = rootL c.fr c.cs := by
  unfold ren at h
  dsimp only at h
  split at h
  · rename_i hc
    simp only [Option.some.injEq] at h
    subst h
    generalize hids : reach c.ob 1000 (upto (mCount ps)) (refsL c.ob c.fr.ss ++ refsF c.ob c.cs) = ids at hc ⊢
    simp only [Bool.and_eq_true] at hc
    obtain ⟨⟨h1, h2⟩, h3⟩ := hc
    rw [ofList_eq h2]
    rw [← S.ob] at h2 ⊢
    have hnd := nodupB_ok h1
    have hall := allSome_ok h2
    have hid : ∀ i, 0 ≤ i → i < 0 + mCount ps → ids[i]? = some i := fun i _ hi => by
      have e : ids.take (mCount ps) = upto (mCount ps) := by simpa using h3
      have : (ids.take (mCount ps))[i]? = some i := by rw [e]; exact upto_get (by omega)
      rw [List.getElem?_take, if_pos (by omega)] at this
      exact this
    have hcs : ∀ (cs : List AFr) (fs : List Frame), CsR X cs fs → CsR (renX X ids) (cs.map (renF X.objs ids)) fs := by
      intro cs
      induction cs with
      | nil => intro fs k; exact k
      | cons b r ih =>
        intro fs k
        obtain ⟨ts, s, e, k1, k2⟩ := k
        exact ⟨ts, s, e, renS_ok hall k1, ih s k2⟩
    have hroot : ∀ (cs : List AFr) (b : AFr), rootL (renF X.objs ids b) (cs.map (renF X.objs ids)) = rootL b cs := by
      intro cs
      induction cs with
      | nil => intro b; rfl
      | cons b' r ih => intro b; exact ih b'
    exact ⟨renX X ids, rfl, ⟨S.fits.ren hnd hall, renS_ok hall S.ss, hcs _ _ S.cs, rfl⟩, hMB.ren hall ps 0 bs hid, rfl, rfl, hroot _ _⟩
  · exact absurd h (by simp)
end
end Go.Proofs.Ytbpfllifhpdlfaa.Ev
