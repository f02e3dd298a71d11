/- An operation touches what it is handed, and what it makes: with more objects about it does the same. -/
import Derived.Test.YtbpfllifhpdlfaaE18
namespace Go.Proofs.Ytbpfllifhpdlfaa.Ev
open Go
set_option linter.unusedVariables false
set_option linter.unusedSimpArgs false

/-- All that is known here is known there. -/
def Sub (ob ob' : Objs) : Prop := ∀ o x, ob o = some x → ob' o = some x
/-- From 'ob' to 'ob1' the same is done as from 'ob1' to 'ob1''; the new ones are of N. -/
def Mv (N : Nat → Prop) (ob ob1 ob' ob1' : Objs) : Prop := ∀ o, (ob1 o = ob o ∧ ob1' o = ob' o) ∨ (ob1' o = ob1 o ∧ (ob o ≠ none ∨ N o) ∧ ob1 o ≠ none)
theorem Mv.same (N : Nat → Prop) (ob ob' : Objs) : Mv N ob ob ob' ob' := fun _ => .inl ⟨rfl, rfl⟩
theorem Mv.sub {N : Nat → Prop} {ob ob1 ob' ob1' : Objs} (h : Mv N ob ob1 ob' ob1') (hs : Sub ob ob') : Sub ob1 ob1' := fun o x hx => by
  rcases h o with ⟨h1, h2⟩ | ⟨h1, _⟩
  · rw [h2]; exact hs o x (h1 ▸ hx)
  · rw [h1]; exact hx
theorem Mv.trans {N : Nat → Prop} {ob ob1 ob2 ob' ob1' ob2' : Objs} (h : Mv N ob ob1 ob' ob1') (k : Mv N ob1 ob2 ob1' ob2') : Mv N ob ob2 ob' ob2' := fun o => by
  rcases k o with ⟨k1, k2⟩ | ⟨k1, k2, k3⟩
  · rcases h o with ⟨h1, h2⟩ | ⟨h1, h2, h3⟩
    · exact .inl ⟨k1.trans h1, k2.trans h2⟩
    · exact .inr ⟨by rw [k2, k1, h1], h2, by rw [k1]; exact h3⟩
  · refine .inr ⟨k1, ?_, k3⟩
    rcases k2 with k2 | k2
    · rcases h o with ⟨h1, h2⟩ | ⟨h1, h2, h3⟩
      · rw [h1] at k2; exact .inl k2
      · exact h2
    · exact .inr k2
theorem Mv.put (N : Nat → Prop) (ob ob' : Objs) {o : Nat} (x : AObj) (h : ob o ≠ none ∨ N o) : Mv N ob (ob.put o x) ob' (ob'.put o x) := fun i => by
  by_cases e : i = o
  · subst e
    right
    rw [Objs.put_same, Objs.put_same]
    exact ⟨rfl, h, by simp⟩
  · left
    rw [Objs.put_ne _ _ _ e, Objs.put_ne _ _ _ e]
    exact ⟨rfl, rfl⟩
/-- Where the new one is to be, nothing is yet. -/
theorem Mv.free {N : Nat → Prop} {ob ob1 ob' ob1' : Objs} (h : Mv N ob ob1 ob' ob1') {o : Nat} (ho : ob' o = none) (h1 : ob1 o = none) : ob1' o = none := by
  rcases h o with ⟨_, h2⟩ | ⟨_, _, h3⟩
  · rw [h2]; exact ho
  · exact absurd h1 h3

section
variable {tab : TTab} {N : Nat → Prop} {ob ob' : Objs}

theorem cur_mono (hs : Sub ob ob') : ∀ {a : AV}, a.cur ob = true → a.cur ob' = true := by
  intro a
  induction a with
  | row o v =>
    intro h
    simp only [AV.cur] at h ⊢
    cases ho : ob o with
    | none => rw [ho] at h; exact absurd h (by simp)
    | some x => rw [hs _ _ ho]; rw [ho] at h; exact h
  | rptr o v i p =>
    intro h
    simp only [AV.cur] at h ⊢
    cases ho : ob o with
    | none => rw [ho] at h; exact absurd h (by simp)
    | some x => rw [hs _ _ ho]; rw [ho] at h; exact h
  | bptr o p =>
    intro h
    simp only [AV.cur] at h ⊢
    cases ho : ob o with
    | none => rw [ho] at h; exact absurd h (by simp)
    | some x => rw [hs _ _ ho]; rw [ho] at h; exact h
  | pair a b iha ihb =>
    intro h
    simp only [AV.cur, Bool.and_eq_true] at h ⊢
    exact ⟨iha h.1, ihb h.2⟩
  | _ => intro h; rfl
theorem okFor_mono (hs : Sub ob ob') {T : Ty} {a : AV} (h : a.okFor ob T = true) : a.okFor ob' T = true := by
  unfold AV.okFor at h ⊢
  simp only [Bool.and_eq_true] at h ⊢
  exact ⟨h.1, cur_mono hs h.2⟩
theorem aLoad_mono (hs : Sub ob ob') {t : TypeId} {a r : AV} (h : aLoad tab ob t a = some r) : aLoad tab ob' t a = some r := by
  cases a with
  | bptr o p =>
    simp only [aLoad] at h ⊢
    cases ho : ob o with
    | none => rw [ho] at h; exact absurd h (by simp)
    | some x =>
      rw [hs _ _ ho]; rw [ho] at h
      split at h
      · rename_i T a e e1 e2
        injection e1 with e1
        subst e1
        split at h
        · split at h
          · rename_i hT
            split at h
            · rename_i r' hr
              split at h
              · rename_i hc
                simp only [*, if_true, cur_mono hs hc]
              · exact absurd h (by simp)
            · exact absurd h (by simp)
          · exact absurd h (by simp)
        · exact absurd h (by simp)
      · exact absurd h (by simp)
  | rptr o v i p =>
    simp only [aLoad] at h ⊢
    cases ho : ob o with
    | none => rw [ho] at h; exact absurd h (by simp)
    | some x => rw [hs _ _ ho]; rw [ho] at h; exact h
  | _ => exact h
theorem aFieldAddr_mono (hs : Sub ob ob') {t : TypeId} {j : Nat} {a r : AV} (h : aFieldAddr tab ob t j a = some r) : aFieldAddr tab ob' t j a = some r := by
  cases a with
  | bptr o p =>
    simp only [aFieldAddr] at h ⊢
    cases ho : ob o with
    | none => rw [ho] at h; exact absurd h (by simp)
    | some x => rw [hs _ _ ho]; rw [ho] at h; exact h
  | rptr o v i p =>
    simp only [aFieldAddr] at h ⊢
    cases ho : ob o with
    | none => rw [ho] at h; exact absurd h (by simp)
    | some x => rw [hs _ _ ho]; rw [ho] at h; exact h
  | _ => exact h
theorem aElem_mono (hs : Sub ob ob') {t : TypeId} {a : AV} {r} (h : aElem tab ob t a = some r) : aElem tab ob' t a = some r := by
  cases a with
  | bptr o p =>
    simp only [aElem] at h ⊢
    cases ho : ob o with
    | none => rw [ho] at h; exact absurd h (by simp)
    | some x => rw [hs _ _ ho]; rw [ho] at h; exact h
  | row o v =>
    simp only [aElem] at h ⊢
    cases ho : ob o with
    | none => rw [ho] at h; exact absurd h (by simp)
    | some x => rw [hs _ _ ho]; rw [ho] at h; exact h
  | pp m T x => cases T <;> exact h
  | pv m T x => cases T <;> exact h
  | _ => exact h
theorem srcOf_mono (hs : Sub ob ob') {e : Ty} {a : AV} {r} (h : srcOf ob e a = some r) : srcOf ob' e a = some r := by
  cases a with
  | row o v =>
    simp only [srcOf] at h ⊢
    cases ho : ob o with
    | none => rw [ho] at h; exact absurd h (by simp)
    | some x => rw [hs _ _ ho]; rw [ho] at h; exact h
  | _ => exact h
theorem aLen_mono (hs : Sub ob ob') {t : TypeId} {a : AV} {r} (h : aLen tab ob t a = some r) : aLen tab ob' t a = some r := by
  unfold aLen at h ⊢
  split at h
  · rename_i e _ ht
    try rw [ht]
    try dsimp only
    split at h
    · rename_i p hp
      rw [srcOf_mono hs hp]
      exact h
    · exact absurd h (by simp)
  · exact h
  · exact h
  · exact absurd h (by simp)
theorem buildAV_any {T : Ty} : ∀ {l : List (Nat × AV)} {a : AV}, buildAV ob T a l = buildAV ob' T a l := by
  intro l
  induction l with
  | nil => intro a; rfl
  | cons x l ih =>
    intro a
    simp only [buildAV]
    split
    · split
      · split
        · exact ih
        · rfl
      · rfl
    · rfl
theorem aBuild_any {t : TypeId} {ps : List (Nat × AV)} : aBuild tab ob t ps = aBuild tab ob' t ps := by
  unfold aBuild
  split
  · rfl
  · exact buildAV_any
  · exact buildAV_any
  · rfl
theorem setParts_any {e : Ty} {n : Nat} : ∀ {l : List (Nat × AV)} {m : Bool} {xs : List e.D}, setParts ob e n m xs l = setParts ob' e n m xs l := by
  intro l
  induction l with
  | nil => intro m xs; rfl
  | cons x l ih =>
    intro m xs
    simp only [setParts]
    split
    · split
      · exact ih
      · rfl
    · rfl
theorem aField_mono (hs : Sub ob ob') {s : TypeId} {j : Nat} {a r : AV} (h : aField tab ob s j a = some r) : aField tab ob' s j a = some r := by
  unfold aField at h ⊢
  split at h
  · rename_i e he
    try rw [he]
    try dsimp only
    split at h
    · rename_i hf
      try rw [if_pos hf]
      split at h
      · rename_i off Tj hat
        split at h
        · rename_i r' hg
          split at h
          · rename_i hc
            simp only [hat, hg, cur_mono hs hc, if_true]
            exact h
          · exact absurd h (by simp)
        · exact absurd h (by simp)
      · exact absurd h (by simp)
    · exact absurd h (by simp)
  · exact absurd h (by simp)
theorem lend_mono (hs : Sub ob ob') : ∀ {T : Ty} {a : AV} {x : T.D}, lend T ob a = some x → lend T ob' a = some x := by
  intro T
  induction T with
  | pair A B iha ihb =>
    intro a x h
    cases a with
    | pair a b =>
      simp only [lend] at h ⊢
      split at h
      · rename_i ha hb
        rw [iha ha, ihb hb]
        exact h
      · exact absurd h (by simp)
    | _ => exact h
  | slice e ih =>
    intro a x h
    cases a with
    | row o v =>
      simp only [lend] at h ⊢
      cases ho : ob o with
      | none => rw [ho] at h; exact absurd h (by simp)
      | some y => rw [hs _ _ ho]; rw [ho] at h; exact h
    | _ => exact h
  | _ => intro a x h; exact h

/-- The like for what changes memory. -/
def Frm (N : Nat → Prop) {α : Type} (f : Objs → Option (α × Objs)) : Prop := ∀ ob ob' a ob1, Sub ob ob' → (∀ o, N o → ob' o = none) → f ob = some (a, ob1) → ∃ ob1', f ob' = some (a, ob1') ∧ Mv N ob ob1 ob' ob1'
theorem Frm.same {α : Type} {f : Objs → Option α} (h : ∀ ob ob' a, Sub ob ob' → f ob = some a → f ob' = some a) : Frm N (fun ob => (f ob).map fun a => (a, ob)) := fun ob ob' a ob1 hs _ e => by
  simp only [Option.map_eq_some_iff, Prod.mk.injEq] at e
  obtain ⟨b, e1, rfl, rfl⟩ := e
  exact ⟨ob', by simp [h _ _ _ hs e1], Mv.same _ _ _⟩

theorem aStore_frm {t : TypeId} {p v : AV} : ∀ ob ob' ob1, Sub ob ob' → aStore tab ob t p v = some ob1 → ∃ ob1', aStore tab ob' t p v = some ob1' ∧ Mv N ob ob1 ob' ob1' := by
  intro ob ob' ob1 hs h
  unfold aStore at h ⊢
  split at h
  · exact absurd h (by simp)
  · rename_i e he
    try rw [he]
    try dsimp only
    split at h
    · rename_i hok
      rw [if_pos (okFor_mono hs hok)]
      split at h
      · rename_i o p
        cases ho : ob o with
        | none => rw [ho] at h; exact absurd h (by simp)
        | some x =>
          rw [ho] at h
          rw [hs _ _ ho]
          cases x with
          | box T a =>
            try dsimp only at h ⊢
            split at h
            · rename_i off T' hat
              split at h
              · rename_i hT
                try rw [if_pos hT]
                split at h
                · simp only [Option.some.injEq] at h
                  subst h
                  exact ⟨_, rfl, Mv.put _ _ _ _ (.inl (by rw [ho]; simp))⟩
                · exact absurd h (by simp)
              · exact absurd h (by simp)
            · exact absurd h (by simp)
          | _ => exact absurd h (by simp)
      · rename_i o v0 i p
        cases ho : ob o with
        | none => rw [ho] at h; exact absurd h (by simp)
        | some x =>
          rw [ho] at h
          rw [hs _ _ ho]
          cases x with
          | row v' m T xs =>
            try dsimp only at h ⊢
            split at h
            · rename_i off T' hat
              split at h
              · rename_i hT
                try rw [if_pos hT]
                split at h
                · split at h
                  · simp only [Option.some.injEq] at h
                    subst h
                    exact ⟨_, rfl, Mv.put _ _ _ _ (.inl (by rw [ho]; simp))⟩
                  · exact absurd h (by simp)
                · exact absurd h (by simp)
              · exact absurd h (by simp)
            · exact absurd h (by simp)
          | _ => exact absurd h (by simp)
      · exact absurd h (by simp)
    · exact absurd h (by simp)
theorem aNew_frm {id : Nat} (hN : N id) {T : Ty} {v : AV} : Frm N (fun ob => aNew ob id T v) := by
  intro ob ob' a ob1 hs hf h
  simp only [aNew] at h ⊢
  rw [hf id hN]
  split at h
  · split at h
    · rename_i hok
      rw [if_pos (okFor_mono hs hok)]
      simp only [Option.some.injEq, Prod.mk.injEq] at h
      obtain ⟨rfl, rfl⟩ := h
      exact ⟨_, rfl, Mv.put _ _ _ _ (.inr hN)⟩
    · exact absurd h (by simp)
  · exact absurd h (by simp)
theorem aAlloc_frm {id : Nat} (hN : N id) {t : TypeId} : Frm N (fun ob => aAlloc tab ob id t) := by
  intro ob ob' a ob1 hs hf h
  simp only [aAlloc] at h ⊢
  split at h
  · exact aNew_frm hN ob ob' a ob1 hs hf h
  · exact absurd h (by simp)
theorem aBox_frm {id : Nat} (hN : N id) {t : TypeId} {v : AV} : Frm N (fun ob => aBox tab ob id t v) := by
  intro ob ob' a ob1 hs hf h
  simp only [aBox] at h ⊢
  split at h
  · exact aNew_frm hN ob ob' a ob1 hs hf h
  · exact absurd h (by simp)
theorem aBuildSlice_frm {id : Nat} (hN : N id) {t : TypeId} {n : Nat} {ps : List (Nat × AV)} : Frm N (fun ob => aBuildSlice tab ob id t n ps) := by
  intro ob ob' a ob1 hs hf h
  simp only [aBuildSlice] at h ⊢
  rw [hf id hN]
  split at h
  · rename_i e _ ht _
    try rw [ht]
    try dsimp only
    split at h
    · rename_i hb
      try rw [if_pos hb]
      split at h
      · rename_i q hq
        rw [setParts_any (ob' := ob)] 
        try rw [hq]
        simp only [Option.some.injEq, Prod.mk.injEq] at h
        obtain ⟨rfl, rfl⟩ := h
        exact ⟨_, rfl, Mv.put _ _ _ _ (.inr hN)⟩
      · exact absurd h (by simp)
    · exact absurd h (by simp)
  · exact absurd h (by simp)
theorem aMake_frm {id : Nat} (hN : N id) {t : TypeId} {l c : Int} : Frm N (fun ob => (aMake tab ob id t l c).run) := by
  intro ob ob' a ob1 hs hf h
  simp only [aMake] at h ⊢
  rw [hf id hN]
  split at h
  · rename_i e by_ ht _
    try rw [ht]
    try dsimp only
    simp only [Tr.grd, Tr.run] at h ⊢
    split at h
    · split at h
      · split at h
        · split at h
          · simp only [*, if_true]
            simp only [Option.some.injEq, Prod.mk.injEq] at h
            obtain ⟨rfl, rfl⟩ := h
            exact ⟨_, rfl, Mv.put _ _ _ _ (.inr hN)⟩
          · exact absurd h (by simp)
        · exact absurd h (by simp)
      · exact absurd h (by simp)
    · exact absurd h (by simp)
  · exact (Tr.run_fail h).elim
theorem aAppend_frm {id : Nat} (hN : N id) {t : TypeId} {s x : AV} : Frm N (fun ob => (aAppend tab ob id t s x).run) := by
  intro ob ob' a ob1 hs hf h
  simp only [aAppend] at h ⊢
  split at h
  case h_2 => exact (Tr.run_fail h).elim
  rename_i _ e by_ ht
  try rw [ht]
  try dsimp only
  split at h
  case h_2 => exact (Tr.run_fail h).elim
  rename_i q hq
  rw [srcOf_mono hs hq]
  try dsimp only
  split at h
  · rename_i o v
    try dsimp only
    cases ho : ob o with
    | none => rw [ho] at h; exact (Tr.run_fail h).elim
    | some y =>
      rw [ho] at h
      rw [hs _ _ ho]
      cases y with
      | row v' m T xs =>
        try dsimp only at h ⊢
        split at h
        case isFalse => exact (Tr.run_fail h).elim
        rename_i hTe
        subst hTe
        try rw [dif_pos rfl]
        split at h
        case isFalse => exact (Tr.run_fail h).elim
        rename_i hv
        try rw [if_pos hv]
        simp only [Tr.grd, Tr.run] at h ⊢
        split at h
        · split at h
          · simp only [*, if_true]
            simp only [Option.some.injEq, Prod.mk.injEq] at h
            obtain ⟨rfl, rfl⟩ := h
            exact ⟨_, rfl, Mv.put _ _ _ _ (.inl (by rw [ho]; simp))⟩
          · exact absurd h (by simp)
        · exact absurd h (by simp)
      | _ => exact (Tr.run_fail h).elim
  · try dsimp only
    rw [hf id hN]
    split at h
    · simp only [Tr.grd, Tr.run] at h ⊢
      split at h
      · split at h
        · simp only [*, if_true]
          simp only [Option.some.injEq, Prod.mk.injEq] at h
          obtain ⟨rfl, rfl⟩ := h
          exact ⟨_, rfl, Mv.put _ _ _ _ (.inr hN)⟩
        · exact absurd h (by simp)
      · exact absurd h (by simp)
    · exact (Tr.run_fail h).elim
  · exact (Tr.run_fail h).elim
theorem sliceSrc_frm {a : AV} : Frm N (fun ob => sliceSrc ob a) := by
  intro ob ob' r ob1 hs hf h
  cases a with
  | row o v =>
    simp only [sliceSrc] at h ⊢
    cases ho : ob o with
    | none => rw [ho] at h; exact absurd h (by simp)
    | some y =>
      rw [ho] at h
      rw [hs _ _ ho]
      cases y with
      | row v' m T xs =>
        try dsimp only at h ⊢
        split at h
        · rename_i hv
          try rw [if_pos hv]
          simp only [Option.some.injEq, Prod.mk.injEq] at h
          obtain ⟨rfl, rfl⟩ := h
          exact ⟨_, rfl, Mv.put _ _ _ _ (.inl (by rw [ho]; simp))⟩
        · exact absurd h (by simp)
      | imm v' m T xs =>
        try dsimp only at h ⊢
        split at h
        · rename_i hv
          try rw [if_pos hv]
          simp only [Option.some.injEq, Prod.mk.injEq] at h
          obtain ⟨rfl, rfl⟩ := h
          exact ⟨_, rfl, Mv.same _ _ _⟩
        · exact absurd h (by simp)
      | _ => exact absurd h (by simp)
  | _ =>
    simp only [sliceSrc, Option.some.injEq, Prod.mk.injEq] at h ⊢
    obtain ⟨rfl, rfl⟩ := h
    exact ⟨ob', ⟨rfl, rfl⟩, Mv.same _ _ _⟩
/-- The like for what makes nothing new. -/
def Frm0 (N : Nat → Prop) {α : Type} (f : Objs → Option (α × Objs)) : Prop := ∀ ob ob' a ob1, Sub ob ob' → f ob = some (a, ob1) → ∃ ob1', f ob' = some (a, ob1') ∧ Mv N ob ob1 ob' ob1'
theorem purify_frm : ∀ {T : Ty} {a : AV}, Frm0 N (fun ob => purify T ob a) := by
  intro T
  induction T with
  | pair A B iha ihb =>
    intro a
    cases a with
    | pair a b =>
      intro ob ob' r ob1 hs h
      simp only [purify] at h ⊢
      split at h
      · rename_i p ob2 ha
        obtain ⟨ob2', g1, m1⟩ := iha (a := a) ob ob' p ob2 hs ha
        dsimp only at g1
        rw [g1]
        dsimp only
        split at h
        · rename_i q ob3 hb
          have hs2 := m1.sub hs
          obtain ⟨ob3', g2, m2⟩ := ihb (a := b) ob2 ob2' q ob3 hs2 hb
          dsimp only at g2
          rw [g2]
          simp only [Option.some.injEq, Prod.mk.injEq] at h
          obtain ⟨rfl, rfl⟩ := h
          exact ⟨_, rfl, m1.trans m2⟩
        · exact absurd h (by simp)
      · exact absurd h (by simp)
    | _ =>
      intro ob ob' r ob1 hs h
      simp only [purify] at h ⊢
      split at h
      · simp only [Option.some.injEq, Prod.mk.injEq] at h
        obtain ⟨rfl, rfl⟩ := h
        exact ⟨_, rfl, Mv.same _ _ _⟩
      · exact absurd h (by simp)
  | slice e ih =>
    intro a
    cases a with
    | row o v =>
      intro ob ob' r ob1 hs h
      simp only [purify] at h ⊢
      cases ho : ob o with
      | none => rw [ho] at h; exact absurd h (by simp)
      | some y =>
        rw [ho] at h
        rw [hs _ _ ho]
        cases y with
        | row v' m T xs =>
          dsimp only at h ⊢
          split at h
          · rename_i hT
            subst hT
            try rw [dif_pos rfl]
            split at h
            · rename_i hv
              try rw [if_pos hv]
              simp only [Option.some.injEq, Prod.mk.injEq] at h
              obtain ⟨rfl, rfl⟩ := h
              exact ⟨_, rfl, Mv.put _ _ _ _ (.inl (by rw [ho]; simp))⟩
            · exact absurd h (by simp)
          · exact absurd h (by simp)
        | imm v' m T xs =>
          dsimp only at h ⊢
          split at h
          · rename_i hT
            subst hT
            try rw [dif_pos rfl]
            split at h
            · rename_i hv
              try rw [if_pos hv]
              simp only [Option.some.injEq, Prod.mk.injEq] at h
              obtain ⟨rfl, rfl⟩ := h
              exact ⟨_, rfl, Mv.same _ _ _⟩
            · exact absurd h (by simp)
          · exact absurd h (by simp)
        | _ => exact absurd h (by simp)
    | _ =>
      intro ob ob' r ob1 hs h
      simp only [purify] at h ⊢
      split at h
      · simp only [Option.some.injEq, Prod.mk.injEq] at h
        obtain ⟨rfl, rfl⟩ := h
        exact ⟨_, rfl, Mv.same _ _ _⟩
      · exact absurd h (by simp)
  | _ =>
      intro a
      intro ob ob' r ob1 hs h
      simp only [purify] at h ⊢
      split at h
      · simp only [Option.some.injEq, Prod.mk.injEq] at h
        obtain ⟨rfl, rfl⟩ := h
        exact ⟨_, rfl, Mv.same _ _ _⟩
      · exact absurd h (by simp)
/-- How many objects a result brings. -/
def RTy.cnt : RTy → Nat
  | .pure _ => 0
  | .own _ => 1
  | .box _ => 1
  | .unit => 0
  | .pair a b => a.cnt + b.cnt
def cntT : List RTy → Nat
  | [] => 0
  | r :: rs => r.cnt + cntT rs
def Outs.cnt : Outs → Nat
  | .one r => r.cnt
  | .many rs => cntT rs
theorem bindR_frm : ∀ {r : RTy} {x : r.ty.D} {id : Nat}, (∀ k, k < r.cnt → N (id + k)) → ∀ ob ob' a ob1 id', Sub ob ob' → (∀ o, N o → ob o = none → ob' o = none) → bindR r x id ob = some (a, ob1, id') → id' = id + r.cnt ∧ ∃ ob1', bindR r x id ob' = some (a, ob1', id') ∧ Mv N ob ob1 ob' ob1' := by
  intro r
  induction r with
  | pure T =>
    intro x id hN ob ob' a ob1 id' hs hf h
    simp only [bindR, Option.some.injEq, Prod.mk.injEq] at h ⊢
    obtain ⟨rfl, rfl, rfl⟩ := h
    exact ⟨rfl, _, ⟨rfl, rfl, rfl⟩, Mv.same _ _ _⟩
  | unit =>
    intro x id hN ob ob' a ob1 id' hs hf h
    simp only [bindR, Option.some.injEq, Prod.mk.injEq] at h ⊢
    obtain ⟨rfl, rfl, rfl⟩ := h
    exact ⟨rfl, _, ⟨rfl, rfl, rfl⟩, Mv.same _ _ _⟩
  | own e =>
    intro x id hN ob ob' a ob1 id' hs hf h
    have hn : N id := hN 0 (by simp [RTy.cnt])
    simp only [bindR] at h ⊢
    split at h
    · rename_i hid
      rw [hf id hn hid]
      simp only [Option.some.injEq, Prod.mk.injEq] at h
      obtain ⟨rfl, rfl, rfl⟩ := h
      exact ⟨rfl, _, rfl, Mv.put _ _ _ _ (.inr hn)⟩
    · exact absurd h (by simp)
  | box T =>
    intro x id hN ob ob' a ob1 id' hs hf h
    have hn : N id := hN 0 (by simp [RTy.cnt])
    simp only [bindR] at h ⊢
    split at h
    · rename_i hid
      rw [hf id hn hid]
      simp only [Option.some.injEq, Prod.mk.injEq] at h
      obtain ⟨rfl, rfl, rfl⟩ := h
      exact ⟨rfl, _, rfl, Mv.put _ _ _ _ (.inr hn)⟩
    · exact absurd h (by simp)
  | pair A B iha ihb =>
    intro x id hN ob ob' a ob1 id' hs hf h
    simp only [bindR] at h ⊢
    split at h
    · rename_i p ob2 id2 ha
      obtain ⟨e1, ob2', g1, m1⟩ := iha (fun k hk => hN k (by simp only [RTy.cnt]; omega)) ob ob' p ob2 id2 hs hf ha
      rw [g1]
      dsimp only
      split at h
      · rename_i q ob3 id3 hb
        obtain ⟨e2, ob3', g2, m2⟩ := ihb (fun k hk => by rw [e1, Nat.add_assoc]; exact hN _ (by simp only [RTy.cnt]; omega)) ob2 ob2' q ob3 id3 (m1.sub hs) (fun o hn ho => by
          rcases m1 o with ⟨h1, h2⟩ | ⟨h1, h2, h3⟩
          · rw [h2]; exact hf o hn (h1 ▸ ho)
          · exact absurd ho h3) hb
        rw [g2]
        simp only [Option.some.injEq, Prod.mk.injEq] at h
        obtain ⟨rfl, rfl, rfl⟩ := h
        exact ⟨by rw [e2, e1, RTy.cnt, Nat.add_assoc], _, rfl, m1.trans m2⟩
      · exact absurd h (by simp)
    · exact absurd h (by simp)
theorem bindT_frm : ∀ {rs : List RTy} {x : (tysOf rs).D} {id : Nat}, (∀ k, k < cntT rs → N (id + k)) → ∀ ob ob' a ob1 id', Sub ob ob' → (∀ o, N o → ob o = none → ob' o = none) → bindT rs x id ob = some (a, ob1, id') → ∃ ob1', bindT rs x id ob' = some (a, ob1', id') ∧ Mv N ob ob1 ob' ob1' := by
  intro rs
  induction rs with
  | nil =>
    intro x id hN ob ob' a ob1 id' hs hf h
    simp only [bindT, Option.some.injEq, Prod.mk.injEq] at h ⊢
    obtain ⟨rfl, rfl, rfl⟩ := h
    exact ⟨_, ⟨rfl, rfl, rfl⟩, Mv.same _ _ _⟩
  | cons r rs ih =>
    intro x id hN ob ob' a ob1 id' hs hf h
    simp only [bindT] at h ⊢
    split at h
    · rename_i p ob2 id2 ha
      obtain ⟨e1, ob2', g1, m1⟩ := bindR_frm (fun k hk => hN k (by simp only [cntT]; omega)) ob ob' p ob2 id2 hs hf ha
      rw [g1]
      dsimp only
      split at h
      · rename_i q ob3 id3 hb
        obtain ⟨ob3', g2, m2⟩ := ih (x := x.2) (fun k hk => by rw [e1, Nat.add_assoc]; exact hN _ (by simp only [cntT]; omega)) ob2 ob2' q ob3 id3 (m1.sub hs) (fun o hn ho => by
          rcases m1 o with ⟨h1, h2⟩ | ⟨h1, h2, h3⟩
          · rw [h2]; exact hf o hn (h1 ▸ ho)
          · exact absurd ho h3) hb
        rw [g2]
        simp only [Option.some.injEq, Prod.mk.injEq] at h
        obtain ⟨rfl, rfl, rfl⟩ := h
        exact ⟨_, rfl, m1.trans m2⟩
      · exact absurd h (by simp)
    · exact absurd h (by simp)
theorem bindO_frm {o : Outs} {x : o.ty.D} {id : Nat} (hN : ∀ k, k < o.cnt → N (id + k)) : ∀ ob ob' a ob1, Sub ob ob' → (∀ o, N o → ob o = none → ob' o = none) → bindO o x id ob = some (a, ob1) → ∃ ob1', bindO o x id ob' = some (a, ob1') ∧ Mv N ob ob1 ob' ob1' := by
  intro ob ob' a ob1 hs hf h
  cases o with
  | one r =>
    simp only [bindO] at h ⊢
    split at h
    · rename_i p ob2 id2 ha
      obtain ⟨_, ob2', g1, m1⟩ := bindR_frm hN ob ob' p ob2 id2 hs hf ha
      rw [g1]
      simp only [Option.some.injEq, Prod.mk.injEq] at h
      obtain ⟨rfl, rfl⟩ := h
      exact ⟨_, rfl, m1⟩
    · exact absurd h (by simp)
  | many rs =>
    simp only [bindO] at h ⊢
    split at h
    · rename_i p ob2 id2 ha
      obtain ⟨ob2', g1, m1⟩ := bindT_frm hN ob ob' p ob2 id2 hs hf ha
      rw [g1]
      simp only [Option.some.injEq, Prod.mk.injEq] at h
      obtain ⟨rfl, rfl⟩ := h
      exact ⟨_, rfl, m1⟩
    · exact absurd h (by simp)
theorem argsOf_frm : ∀ {ps : List Par} {as : List AV} {ob ob' : Objs} {xs : (parsTy ps).D} {os : List Nat} {ob1 : Objs}, Sub ob ob' → argsOf ps as ob = some (xs, os, ob1) → ∃ ob1', argsOf ps as ob' = some (xs, os, ob1') ∧ Mv N ob ob1 ob' ob1' ∧ ∀ o, o ∈ os → ob o ≠ none := by
  intro ps
  induction ps with
  | nil =>
    intro as ob ob' xs os ob1 hs h
    cases as with
    | nil =>
      simp only [argsOf, Option.some.injEq, Prod.mk.injEq] at h ⊢
      obtain ⟨_, rfl, rfl⟩ := h
      exact ⟨_, ⟨trivial, rfl, rfl⟩, Mv.same _ _ _, fun o ho => absurd ho (by simp)⟩
    | cons a as => exact absurd h (by simp [argsOf])
  | cons p ps ih =>
    intro as ob ob' xs os ob1 hs h
    cases as with
    | nil => cases p <;> exact absurd h (by simp [argsOf])
    | cons a as =>
      cases p with
      | lent T =>
        simp only [argsOf] at h ⊢
        split at h
        · rename_i x hx
          rw [lend_mono hs hx]
          dsimp only
          split at h
          · rename_i r os2 ob2 hr
            obtain ⟨ob2', g, m, hd⟩ := ih hs hr
            rw [g]
            simp only [Option.some.injEq, Prod.mk.injEq] at h
            obtain ⟨rfl, rfl, rfl⟩ := h
            exact ⟨_, rfl, m, hd⟩
          · exact absurd h (by simp)
        · exact absurd h (by simp)
      | leak T =>
        simp only [argsOf] at h ⊢
        split at h
        · rename_i q ob2 hq
          obtain ⟨ob2', g1, m1⟩ := purify_frm (N := N) ob ob' q ob2 hs hq
          dsimp only at g1
          rw [g1]
          dsimp only
          split at h
          · rename_i hu
            rw [if_pos hu]
            split at h
            · rename_i r os2 ob3 hr
              obtain ⟨ob3', g, m, hd⟩ := ih (m1.sub hs) hr
              rw [g]
              simp only [Option.some.injEq, Prod.mk.injEq] at h
              obtain ⟨rfl, rfl, rfl⟩ := h
              exact ⟨_, rfl, m1.trans m, fun o ho hn => hd o ho (by
                obtain ⟨z1, z2⟩ := purify_frm (N := fun _ => False) ob ob q ob2 (fun _ _ h => h) hq
                rcases z2.2 o with ⟨h1, _⟩ | ⟨_, h2, _⟩
                · rw [h1]; exact hn
                · rcases h2 with h2 | h2
                  · exact absurd hn h2
                  · exact h2.elim)⟩
            · exact absurd h (by simp)
          · exact absurd h (by simp)
        · exact absurd h (by simp)
      | mbox T =>
        cases a with
        | bptr o p =>
          cases p with
          | cons s p => exact absurd h (by simp [argsOf])
          | nil =>
            simp only [argsOf] at h ⊢
            cases ho : ob o with
            | none => rw [ho] at h; exact absurd h (by simp)
            | some y =>
              rw [ho] at h
              rw [hs _ _ ho]
              cases y with
              | box T' a =>
                dsimp only at h ⊢
                split at h
                · rename_i hT
                  rw [if_pos hT]
                  split at h
                  · rename_i q ob2 hq
                    obtain ⟨ob2', g1, m1⟩ := purify_frm (N := N) ob ob' q ob2 hs hq
                    dsimp only at g1
                    rw [g1]
                    dsimp only
                    split at h
                    · rename_i hu
                      rw [if_pos hu]
                      split at h
                      · rename_i r os2 ob3 hr
                        obtain ⟨ob3', g, m, hd⟩ := ih (m1.sub hs) hr
                        rw [g]
                        simp only [Option.some.injEq, Prod.mk.injEq] at h
                        obtain ⟨rfl, rfl, rfl⟩ := h
                        refine ⟨_, rfl, m1.trans m, fun o' ho' hn => ?_⟩
                        rcases List.mem_cons.1 ho' with e | e
                        · subst e; rw [ho] at hn; exact absurd hn (by simp)
                        · refine hd o' e ?_
                          obtain ⟨z1, z2⟩ := purify_frm (N := fun _ => False) ob ob q ob2 (fun _ _ h => h) hq
                          rcases z2.2 o' with ⟨h1, _⟩ | ⟨_, h2, _⟩
                          · rw [h1]; exact hn
                          · rcases h2 with h2 | h2
                            · exact absurd hn h2
                            · exact h2.elim
                      · exact absurd h (by simp)
                    · exact absurd h (by simp)
                  · exact absurd h (by simp)
                · exact absurd h (by simp)
              | _ => exact absurd h (by simp)
        | _ => exact absurd h (by simp [argsOf])
theorem mutBack_frm : ∀ {ps : List Par} {x : (mutsTy ps).D} {os : List Nat} {ob0 ob ob' ob0' : Objs}, Mv N ob0 ob ob0' ob' → (∀ o, o ∈ os → ob0 o ≠ none) → Mv N ob0 (mutBack ps x os ob) ob0' (mutBack ps x os ob') := by
  intro ps
  induction ps with
  | nil => intro x os ob0 ob ob' ob0' m _; exact m
  | cons p ps ih =>
    intro x os ob0 ob ob' ob0' m hd
    cases p with
    | lent T => exact ih (x := x) m hd
    | leak T => exact ih (x := x) m hd
    | mbox T =>
      cases os with
      | nil => exact m
      | cons o os =>
        simp only [mutBack]
        refine ih (x := x.2) (fun i => ?_) (fun o' ho' => hd o' (List.mem_cons_of_mem _ ho'))
        by_cases e : i = o
        · subst e
          right
          rw [Objs.put_same, Objs.put_same]
          exact ⟨rfl, .inl (hd i List.mem_cons_self), by simp⟩
        · rw [Objs.put_ne _ _ _ e, Objs.put_ne _ _ _ e]
          exact m i
theorem aCall_frm {sg : Sig} {id : Nat} {as : List AV} (hN : ∀ k, k < sg.outs.cnt → N (id + k)) : Frm N (fun ob => (aCall sg id as ob).run) := by
  intro ob ob' a ob1 hs hf h
  simp only [aCall] at h ⊢
  split at h
  · rename_i xs os ob2 ha
    obtain ⟨ob2', g1, m1, hd⟩ := argsOf_frm (N := N) hs ha
    rw [g1]
    dsimp only
    obtain ⟨hn, h⟩ := Tr.run_chk h
    rw [hn]
    simp only [Tr.chk, Tr.run] at h ⊢
    obtain ⟨r, hr, h⟩ := Option.bind_eq_some_iff.1 h
    rw [hr]
    obtain ⟨p, hp, h⟩ := Tr.run_of h
    obtain rfl := Tr.run_ret h
    have m2 := mutBack_frm (x := r.2) m1 hd
    obtain ⟨ob3', g3, m3⟩ := bindO_frm hN (mutBack sg.ps r.2 os ob2) (mutBack sg.ps r.2 os ob2') a ob1 (m2.sub hs) (fun o hn ho => m2.free (hf o hn) ho) hp
    refine ⟨ob3', ?_, m2.trans m3⟩
    simp only [Option.bind_some, g3]
    rfl
  · exact (Tr.run_fail h).elim
/-- What one run comes to, the other comes to. -/
def Gr (N : Nat → Prop) (ob ob' : Objs) (t t' : Tr (AV × Objs)) : Prop := ∀ a ob1, t.run = some (a, ob1) → ∃ ob1', t'.run = some (a, ob1') ∧ Mv N ob ob1 ob' ob1'
theorem Gr.ret {x : AV} : Gr N ob ob' (.ret (x, ob)) (.ret (x, ob')) := fun a ob1 h => by
  simp only [Tr.run, Option.some.injEq, Prod.mk.injEq] at h
  obtain ⟨rfl, rfl⟩ := h
  exact ⟨ob', rfl, Mv.same _ _ _⟩
theorem Gr.fail {t : Tr (AV × Objs)} : Gr N ob ob' .fail t := fun a ob1 h => (Tr.run_fail h).elim
theorem Gr.of2 {β : Type} {o o' : Option β} {f f' : β → Tr (AV × Objs)} (ho : ∀ b, o = some b → o' = some b) (k : ∀ b, o = some b → Gr N ob ob' (f b) (f' b)) : Gr N ob ob' (Tr.of o f) (Tr.of o' f') := fun a ob1 h => by
  obtain ⟨b, hb, h⟩ := Tr.run_of h
  rw [ho b hb]
  exact k b hb a ob1 h
theorem Gr.of {β : Type} {o : Option β} {f f' : β → Tr (AV × Objs)} (k : ∀ b, Gr N ob ob' (f b) (f' b)) : Gr N ob ob' (Tr.of o f) (Tr.of o f') := Gr.of2 (fun _ h => h) (fun b _ => k b)
theorem Gr.grd {c : Bool} {t t' : Tr (AV × Objs)} (k : Gr N ob ob' t t') : Gr N ob ob' (Tr.grd c t) (Tr.grd c t') := fun a ob1 h => by
  obtain ⟨hc, h⟩ := Tr.run_grd h
  obtain ⟨ob1', g, m⟩ := k a ob1 h
  exact ⟨ob1', by simp only [Tr.grd, Tr.run, hc, if_true, g], m⟩
theorem Gr.chk2 {c c' : Bool} {t t' : Tr (AV × Objs)} (hc : c = true → c' = true) (k : Gr N ob ob' t t') : Gr N ob ob' (Tr.chk c t) (Tr.chk c' t') := fun a ob1 h => by
  obtain ⟨h1, h⟩ := Tr.run_chk h
  rw [hc h1]
  exact k a ob1 h
theorem Gr.ite {c : Bool} {t t' e e' : Tr (AV × Objs)} (k : Gr N ob ob' t t') (k2 : Gr N ob ob' e e') : Gr N ob ob' (.ite c t e) (.ite c t' e') := fun a ob1 h => by
  simp only [Tr.run] at h ⊢
  cases c
  · exact k2 a ob1 (by simpa using h)
  · exact k a ob1 (by simpa using h)
theorem Gr.bind {t : Tr AV} : Gr N ob ob' (t.bind fun r => .ret (r, ob)) (t.bind fun r => .ret (r, ob')) := fun a ob1 h => by
  rw [Tr.run_bind] at h ⊢
  obtain ⟨b, hb, h⟩ := Option.bind_eq_some_iff.1 h
  rw [hb]
  exact Gr.ret a ob1 h
theorem Gr.frm {f : Objs → Option (AV × Objs)} (h : Frm N f) (hs : Sub ob ob') (hf : ∀ o, N o → ob' o = none) : Gr N ob ob' (Tr.of (f ob) .ret) (Tr.of (f ob') .ret) := fun a ob1 g => by
  obtain ⟨b, hb, g⟩ := Tr.run_of g
  obtain rfl := Tr.run_ret g
  obtain ⟨ob1', g1, m⟩ := h ob ob' a ob1 hs hf hb
  exact ⟨ob1', by rw [g1]; rfl, m⟩
theorem Gr.run {f : Objs → Tr (AV × Objs)} (h : Frm N fun ob => (f ob).run) (hs : Sub ob ob') (hf : ∀ o, N o → ob' o = none) : Gr N ob ob' (f ob) (f ob') := fun a ob1 g => h ob ob' a ob1 hs hf g
theorem aOp_gr {id : Nat} (hN : N id) {o : Op} {ss : List AV} (hs : Sub ob ob') (hf : ∀ o, N o → ob' o = none) : Gr N ob ob' (aOp tab id o ss ob) (aOp tab id o ss ob') := by
  cases o with
  | move x => exact Gr.of fun _ => Gr.ret
  | assign x => exact Gr.of fun _ => Gr.ret
  | pick c x y =>
    refine Gr.of fun a => ?_
    split
    · exact Gr.ite (Gr.of fun _ => Gr.ret) (Gr.of fun _ => Gr.ret)
    · exact Gr.fail
  | alloc t => exact Gr.frm (f := fun ob => aAlloc tab ob id t) (aAlloc_frm hN) hs hf
  | box t x => exact Gr.of fun a => Gr.frm (f := fun ob => aBox tab ob id t a) (aBox_frm hN) hs hf
  | build t ps => exact Gr.of fun l => Gr.of2 (fun b hb => by rw [aBuild_any (ob' := ob)]; exact hb) fun _ _ => Gr.ret
  | buildSlice t n ps => exact Gr.of fun l => Gr.frm (f := fun ob => aBuildSlice tab ob id t n l) (aBuildSlice_frm hN) hs hf
  | load t x => exact Gr.of fun a => Gr.of2 (fun b hb => aLoad_mono hs hb) fun _ _ => Gr.ret
  | store t x y =>
    refine Gr.of fun a => Gr.of fun b => fun r ob1 h => ?_
    obtain ⟨c, hc, h⟩ := Tr.run_of h
    obtain ⟨ob1', g1, m⟩ := aStore_frm (N := N) ob ob' c hs hc
    simp only [Tr.run, Option.some.injEq, Prod.mk.injEq] at h
    obtain ⟨rfl, rfl⟩ := h
    exact ⟨ob1', by rw [g1]; rfl, m⟩
  | nilCheck x =>
    refine Gr.of fun a => ?_
    split
    · exact Gr.chk2 (fun h => cur_mono hs h) Gr.ret
    · exact Gr.ret
    · exact Gr.fail
  | binOp op xt x y yt => exact Gr.of fun a => Gr.of fun b => Gr.bind
  | unOp op t x => exact Gr.of fun a => Gr.bind
  | convert s d x => exact Gr.of fun a => Gr.bind
  | makeFunc f first caps =>
    cases f with
    | func f => exact Gr.chk2 (fun h => h) (Gr.of fun _ => Gr.ret)
    | _ => exact Gr.fail
  | makeSlice t l c => exact Gr.of fun a => Gr.of fun b => Gr.run (f := fun ob => aMake tab ob id t a.2 b.2) (aMake_frm hN) hs hf
  | slice t x lo hi mx =>
    cases mx with
    | some m => exact Gr.fail
    | none =>
      refine Gr.of fun a => Gr.of fun l => Gr.of fun h => fun r ob1 g => ?_
      obtain ⟨⟨p, ob2⟩, hp, g⟩ := Tr.run_of g
      obtain ⟨ob2', g1, m⟩ := sliceSrc_frm (N := N) ob ob' p ob2 hs hf hp
      dsimp only at g1
      rw [g1]
      rw [Tr.run_bind] at g
      obtain ⟨b, hb, g⟩ := Option.bind_eq_some_iff.1 g
      simp only [Tr.run, Option.some.injEq, Prod.mk.injEq] at g
      obtain ⟨rfl, rfl⟩ := g
      refine ⟨ob2', ?_, m⟩
      simp only [Tr.of]
      rw [Tr.run_bind, hb]
      rfl
  | fieldAddr s x j => exact Gr.of fun a => Gr.of2 (fun b hb => aFieldAddr_mono hs hb) fun _ _ => Gr.ret
  | field s x j => exact Gr.of fun a => Gr.of2 (fun b hb => aField_mono hs hb) fun _ _ => Gr.ret
  | indexAddr t x i => exact Gr.of fun a => Gr.of fun n => Gr.of2 (fun b hb => aElem_mono hs hb) fun _ _ => Gr.grd (Gr.grd Gr.ret)
  | index t x i =>
    refine Gr.of fun a => ?_
    split
    · refine Gr.of fun n => Gr.of fun e => ?_
      split
      · exact Gr.grd (Gr.grd Gr.ret)
      · exact Gr.fail
    · exact Gr.fail
  | extract x n => exact Gr.of fun a => Gr.of fun r => Gr.ret
  | call c =>
    simp only [aOp]
    split
    · unfold aBuiltin
      split
      · exact Gr.of fun a => Gr.of2 (fun b hb => aLen_mono hs hb) fun _ _ => Gr.ret
      · exact Gr.chk2 (fun h => h) (Gr.of fun a => Gr.of fun b => Gr.run (f := fun ob => aAppend tab ob id _ a b) (aAppend_frm hN) hs hf)
      · exact Gr.of fun a => Gr.of fun b => Gr.of fun r => Gr.ret
      · exact Gr.of fun a => Gr.of fun b => Gr.of fun r => Gr.ret
      · exact Gr.fail
    · exact Gr.fail
  | _ => exact Gr.fail
end
end Go.Proofs.Ytbpfllifhpdlfaa.Ev
