/- A call by contract, from the caller's side. -/
import Derived.Test.YtbpfllifhpdlfaaE14
namespace Go.Proofs.Ytbpfllifhpdlfaa.Ev
open Go
set_option linter.unusedVariables false
set_option linter.unusedSimpArgs false

/-- A value told whole for a callee that only reads it. -/
def lend : (T : Ty) → Objs → AV → Option T.D
  | .pair A B, ob, .pair a b => match lend A ob a, lend B ob b with
    | some x, some y => some (x, y)
    | _, _ => none
  | .slice e, ob, .row o v => match ob o with
    | some (.row v' _ T xs) => if h : T = e then (if Nat.beq v v' = true then some (h ▸ xs) else none) else none
    | some (.imm v' _ T xs) => if h : T = e then (if Nat.beq v v' = true then some (h ▸ xs) else none) else none
    | _ => none
  | T, _, a => match a.pureAs T with
    | some p => some p.2
    | none => none
/-- What is lent may lie in rows of one's own, too. -/
def JJ (X : Ctx) : Bs := fun b => X.J b ∨ ∃ o v m T xs, X.objs o = some (.row v m T xs) ∧ (X.φ o).nil = false ∧ b = (X.φ o).blk

def unlent (m : Bool) (T : Ty) : Bool := !m || T.flat
theorem unlent_ok {X : Ctx} {m : Bool} {T : Ty} {x : T.D} {c : Cs} (h : unlent m T = true) (r : Rep X.w (X.set m) T x c) : Rep X.w X.I T x c := by
  cases m
  · exact r
  · exact Rep.flat (by simpa [unlent] using h) r

def argsOf : (ps : List Par) → List AV → Objs → Option ((parsTy ps).D × List Nat × Objs)
  | [], [], ob => some ((), [], ob)
  | .lent T :: ps, a :: as, ob => match lend T ob a with
    | some x => match argsOf ps as ob with
      | some (r, os, ob') => some ((x, r), os, ob')
      | none => none
    | none => none
  | .leak T :: ps, a :: as, ob => match purify T ob a with
    | some (p, ob1) => if unlent p.1 T = true then (match argsOf ps as ob1 with
      | some (r, os, ob') => some ((p.2, r), os, ob')
      | none => none) else none
    | none => none
  | .mbox T :: ps, .bptr o [] :: as, ob => match ob o with
    | some (.box T' a) => if T' = T then (match purify T ob a with
      | some (p, ob1) => if unlent p.1 T = true then (match argsOf ps as ob1 with
        | some (r, os, ob') => some ((p.2, r), o :: os, ob')
        | none => none) else none
      | none => none) else none
    | _ => none
  | _, _, _ => none
def mutBack : (ps : List Par) → (mutsTy ps).D → List Nat → Objs → Objs
  | [], _, _, ob => ob
  | .lent _ :: ps, x, os, ob => mutBack ps x os ob
  | .leak _ :: ps, x, os, ob => mutBack ps x os ob
  | .mbox T :: ps, x, os, ob => match os with
    | o :: os => mutBack ps x.2 os (ob.put o (.box T (.pv false T x.1)))
    | [] => ob
def nodupB : List Nat → Bool
  | [] => true
  | x :: r => !(r.any (Nat.beq x)) && nodupB r
theorem nodupB_ok : ∀ {l : List Nat}, nodupB l = true → l.Nodup := by
  intro l
  induction l with
  | nil => intro _; exact List.nodup_nil
  | cons x r ih =>
    intro h
    simp only [nodupB, Bool.and_eq_true] at h
    refine List.nodup_cons.2 ⟨fun hm => ?_, ih h.2⟩
    have : r.any (Nat.beq x) = true := List.any_eq_true.2 ⟨x, hm, by simp⟩
    rw [this] at h
    exact absurd h.1 (by simp)
def aCall (sg : Sig) (id : Nat) (as : List AV) (ob : Objs) : Tr (AV × Objs) :=
  match argsOf sg.ps as ob with
  | some (xs, os, ob1) => Tr.chk (nodupB os) <| .call (.pair sg.outs.ty (mutsTy sg.ps)) (sg.fn xs) fun r => Tr.of (bindO sg.outs r.1 id (mutBack sg.ps r.2 os ob1)) .ret
  | none => .fail

section
variable {P : Program} {E : Fix} {X : Ctx}

theorem lend_ok (F : Fits E X) : ∀ {T : Ty} {a : AV} {c : Cs} {x : T.D}, AVR X a c → lend T X.objs a = some x → Rep X.w (JJ X) T x c ∧ a.sz = T.sz ∧ a.isAgg = T.isAgg := by
  intro T
  have base : ∀ {T : Ty} {a : AV} {c : Cs} {x : T.D}, AVR X a c → (match a.pureAs T with | some p => some p.2 | none => none) = some x → Rep X.w (JJ X) T x c ∧ a.sz = T.sz ∧ a.isAgg = T.isAgg := by
    intro T a c x r h
    split at h
    · rename_i q hq
      simp only [Option.some.injEq] at h
      subst h
      obtain ⟨h1, h2⟩ := AV.pureAs_ok F.ij r hq
      exact ⟨h1.mono (fun b hb => .inl (Ctx.set_le F b hb)), AV.fits_sz h2, AV.fits_agg h2⟩
    · exact absurd h (by simp)
  induction T with
  | pair A B iha ihb =>
    intro a c x r h
    cases a with
    | pair a b =>
      simp only [lend] at h
      split at h
      · rename_i y z hy hz
        simp only [Option.some.injEq] at h
        subst h
        obtain ⟨r1, s1, _⟩ := iha r.1 hy
        obtain ⟨r2, s2, _⟩ := ihb r.2 hz
        rw [s1] at r2
        exact ⟨⟨r1, r2⟩, by simp [AV.sz, Ty.sz, s1, s2], rfl⟩
      · exact absurd h (by simp)
    | _ => exact base r h
  | slice e ih =>
    intro a c x r h
    cases a with
    | row o v =>
      simp only [lend] at h
      split at h
      · rename_i v' m T xs ho
        split at h
        · rename_i hT
          subst hT
          split at h
          · rename_i hv
            obtain rfl := Nat.eq_of_beq_eq_true hv
            simp only [Option.some.injEq] at h
            subst h
            simp only [AVR, ho] at r
            obtain ⟨hl, hnil, hrow⟩ := F.objs o _ ho
            refine ⟨?_, rfl, rfl⟩
            cases hn : (X.φ o).nil with
            | true =>
              obtain rfl := hnil hn
              exact ⟨none, 0, by rw [r.2 trivial]; simp [Loc.sl, hn], Nat.le_refl _, fun hp => absurd hp (by simp)⟩
            | false =>
              obtain ⟨_, hcap, hr⟩ := hrow hn
              refine ⟨some ⟨(X.φ o).blk, 0, none⟩, (X.φ o).cap, by rw [r.2 trivial]; simp [Loc.sl, hn, hl], hcap, fun _ => ⟨(X.φ o).blk, 0, rfl, .inr ⟨o, _, _, _, _, ho, hn, rfl⟩, fun i hi => ?_⟩⟩
              rw [Nat.zero_add]
              exact (hr i hi).mono (fun b hb => .inl (Ctx.set_le F b hb))
          · exact absurd h (by simp)
        · exact absurd h (by simp)
      · rename_i v' m T xs ho
        split at h
        · rename_i hT
          subst hT
          split at h
          · rename_i hv
            obtain rfl := Nat.eq_of_beq_eq_true hv
            simp only [Option.some.injEq] at h
            subst h
            simp only [AVR, ho] at r
            refine ⟨Rep.congr (fun j hj => ?_) ((F.objs o _ ho).2.mono (fun b hb => .inl (Ctx.set_le F b hb))), rfl, rfl⟩
            obtain rfl : j = 0 := by simp [Ty.sz] at hj; exact hj
            exact r.2 trivial
          · exact absurd h (by simp)
        · exact absurd h (by simp)
      · exact absurd h (by simp)
    | _ => exact base r h
  | _ => intro a c x r h; exact base r h

theorem JJ_evo {X X' : Ctx} (h : Evo X X') (hb : ∀ o v m T xs, X.objs o = some (.row v m T xs) → (X.φ o).nil = false → (X'.J (X.φ o).blk ∨ ∃ v' m' T' xs', X'.objs o = some (.row v' m' T' xs') ∧ X'.φ o = X.φ o)) : ∀ b, JJ X b → JJ X' b := by
  intro b hj
  rcases hj with hj | ⟨o, v, m, T, xs, ho, hn, rfl⟩
  · exact .inl (h.j b hj)
  · rcases hb o v m T xs ho hn with h1 | ⟨v', m', T', xs', h1, h2⟩
    · exact .inl h1
    · exact .inr ⟨o, v', m', T', xs', h1, by rw [h2]; exact hn, by rw [h2]⟩
theorem ArgsR.mono {w : World} {I J I' J' : Bs} (hi : ∀ b, I b → I' b) (hj : ∀ b, J b → J' b) : ∀ {ps : List Par} {xs : (parsTy ps).D} {vs : List Value} {bs : List Nat}, ArgsR w I J ps xs vs bs → ArgsR w I' J' ps xs vs bs := by
  intro ps
  induction ps with
  | nil => intro xs vs bs h; exact h
  | cons p ps ih =>
    intro xs vs bs h
    cases p with
    | lent T => obtain ⟨v, r, e, h1, h2⟩ := h; exact ⟨v, r, e, ⟨h1.1, h1.2.1, h1.2.2.mono hj⟩, ih h2⟩
    | leak T => obtain ⟨v, r, e, h1, h2⟩ := h; exact ⟨v, r, e, ⟨h1.1, h1.2.1, h1.2.2.mono hi⟩, ih h2⟩
    | mbox T => obtain ⟨b, r, bs', e1, e2, h1, h2, h3⟩ := h; exact ⟨b, r, bs', e1, e2, h1, h2.mono hi, ih h3⟩

theorem Tame.jj {X X' : Ctx} (h : Tame X X') : ∀ b, JJ X b → JJ X' b := by
  refine JJ_evo h.evo (fun o v m T xs ho hn => ?_)
  rcases h.row o v m T xs ho with h1 | ⟨_, h1⟩
  · exact .inr ⟨v, m, T, xs, h1, by rw [h.φ]⟩
  · exact .inl (h1 hn)
/-- The types of the variables that were handed over. -/
def MTys : List Par → List Nat → Objs → Prop
  | [], os, _ => os = []
  | .lent _ :: ps, os, ob => MTys ps os ob
  | .leak _ :: ps, os, ob => MTys ps os ob
  | .mbox T :: ps, os, ob => ∃ o r a, os = o :: r ∧ ob o = some (.box T a) ∧ MTys ps r ob
theorem MTys.box : ∀ {ps : List Par} {os : List Nat} {ob ob' : Objs}, (∀ o T a, ob o = some (.box T a) → ∃ a', ob' o = some (.box T a')) → MTys ps os ob → MTys ps os ob' := by
  intro ps
  induction ps with
  | nil => intro os ob ob' _ h; exact h
  | cons p ps ih =>
    intro os ob ob' hb h
    cases p with
    | lent T => exact ih (ob := ob) hb h
    | leak T => exact ih (ob := ob) hb h
    | mbox T =>
      obtain ⟨o, r, a, e, h1, h2⟩ := h
      obtain ⟨a', h1'⟩ := hb o T a h1
      exact ⟨o, r, a', e, h1', ih hb h2⟩
theorem MTys.is : ∀ {ps : List Par} {os : List Nat} {ob : Objs}, MTys ps os ob → ∀ o, o ∈ os → ∃ T a, ob o = some (.box T a) := by
  intro ps
  induction ps with
  | nil => intro os ob h o ho; rw [show os = [] from h] at ho; exact absurd ho (by simp)
  | cons p ps ih =>
    intro os ob h o ho
    cases p with
    | lent T => exact ih (ob := ob) h o ho
    | leak T => exact ih (ob := ob) h o ho
    | mbox T =>
      obtain ⟨o1, r, a, e, h1, h2⟩ := h
      subst e
      rcases List.mem_cons.1 ho with e | e
      · subst e; exact ⟨T, a, h1⟩
      · exact ih h2 o e
theorem evo_box {X X' : Ctx} (h : Evo X X') {o : Nat} {T : Ty} {a : AV} (ho : X.objs o = some (.box T a)) : ∃ a', X'.objs o = some (.box T a') := by
  have k := h.obj o _ ho
  cases h' : X'.objs o with
  | none => rw [h'] at k; exact k.elim
  | some ob0 =>
    rw [h'] at k
    cases ob0 with
    | box T2 a2 => obtain ⟨rfl, _⟩ := k; exact ⟨_, rfl⟩
    | row _ _ _ _ => exact k.elim
    | imm _ _ _ _ => exact k.elim
theorem argsOf_ok : ∀ {ps : List Par} {X : Ctx} {as : List AV} {vs : List Value} {xs : (parsTy ps).D} {os : List Nat} {ob' : Objs}, Fits E X → as.length = vs.length → (∀ i, SlotR X (as.getD i .undef) (vs.getD i (.tuple #[]))) → argsOf ps as X.objs = some (xs, os, ob') →
    ∃ X', X'.objs = ob' ∧ Fits E X' ∧ X'.w = X.w ∧ X'.φ = X.φ ∧ Evo X X' ∧ (∀ b, JJ X b → JJ X' b) ∧ ArgsR X'.w X'.I (JJ X') ps xs vs (os.map fun o => (X'.φ o).blk) ∧ MTys ps os X'.objs := by
  intro ps
  induction ps with
  | nil =>
    intro X as vs xs os ob' F hl hs h
    cases as with
    | cons a as => simp [argsOf] at h
    | nil =>
      simp only [argsOf, Option.some.injEq, Prod.mk.injEq] at h
      obtain ⟨_, rfl, rfl⟩ := h
      have : vs = [] := List.eq_nil_of_length_eq_zero hl.symm
      exact ⟨X, rfl, F, rfl, rfl, Evo.refl F.ij, fun b h => h, ⟨this, rfl⟩, rfl⟩
  | cons p ps ih =>
    intro X as vs xs os ob' F hl hs h
    cases as with
    | nil => cases p <;> simp [argsOf] at h
    | cons a as =>
      cases vs with
      | nil => simp at hl
      | cons v vs =>
        have hl' : as.length = vs.length := by simpa using hl
        have hs0 : SlotR X a v := by simpa using hs 0
        have hs' : ∀ i, SlotR X (as.getD i .undef) (vs.getD i (.tuple #[])) := fun i => by simpa using hs (i + 1)
        cases p with
        | lent T =>
          simp only [argsOf] at h
          split at h
          · rename_i x hx
            split at h
            · rename_i r os' ob1 hr
              simp only [Option.some.injEq, Prod.mk.injEq] at h
              obtain ⟨rfl, rfl, rfl⟩ := h
              have hval : ValR X a v := by
                cases a with
                | undef => cases T <;> simp [lend, AV.pureAs] at hx
                | tnil => cases T <;> simp [lend, AV.pureAs] at hx
                | tcons y z => cases T <;> simp [lend, AV.pureAs] at hx
                | _ => exact hs0
              obtain ⟨r1, r2, r3⟩ := lend_ok F hval.2.2 hx
              obtain ⟨X', e1, F', ew, eφ, ev, ej, ea, eo⟩ := ih F hl' hs' hr
              refine ⟨X', e1, F', ew, eφ, ev, ej, ⟨v, vs, rfl, ⟨hval.1.trans r3, hval.2.1.trans r2, ?_⟩, ea⟩, eo⟩
              rw [ew]
              exact r1.mono ej
            · exact absurd h (by simp)
          · exact absurd h (by simp)
        | leak T =>
          simp only [argsOf] at h
          split at h
          · rename_i q ob1 hx
            split at h
            · rename_i hu
              split at h
              · rename_i r os' ob2 hr
                simp only [Option.some.injEq, Prod.mk.injEq] at h
                obtain ⟨rfl, rfl, rfl⟩ := h
                have hval : ValR X a v := by
                  cases a with
                  | undef => cases T <;> simp [purify, AV.pureAs] at hx
                  | tnil => cases T <;> simp [purify, AV.pureAs] at hx
                  | tcons y z => cases T <;> simp [purify, AV.pureAs] at hx
                  | _ => exact hs0
                obtain ⟨X1, o1, F1, t1, r1, r2, r3⟩ := purify_ok F hval.2.2 hx
                subst o1
                obtain ⟨X', e1, F', ew, eφ, ev, ej, ea, eo⟩ := ih F1 hl' (fun i => (hs' i).evo t1.evo) hr
                refine ⟨X', e1, F', ew.trans t1.w, eφ.trans t1.φ, t1.evo.trans ev, fun b hb => ej b (t1.jj b hb), ⟨v, vs, rfl, ⟨hval.1.trans r3, hval.2.1.trans r2, ?_⟩, ea⟩, eo⟩
                rw [ew]
                exact (unlent_ok hu r1).mono ev.i
              · exact absurd h (by simp)
            · exact absurd h (by simp)
          · exact absurd h (by simp)
        | mbox T =>
          cases a with
          | bptr o pth =>
            cases pth with
            | cons s t => simp [argsOf] at h
            | nil =>
              simp only [argsOf] at h
              split at h
              · rename_i T' a ho
                split at h
                · rename_i hT
                  subst hT
                  split at h
                  · rename_i q ob1 hx
                    split at h
                    · rename_i hu
                      split at h
                      · rename_i r os' ob2 hr
                        simp only [Option.some.injEq, Prod.mk.injEq] at h
                        obtain ⟨rfl, rfl, rfl⟩ := h
                        obtain ⟨hf, hm⟩ := box_mem F ho
                        obtain ⟨cs, te, hb, hcs⟩ := box_cells F ho
                        obtain ⟨X1, o1, F1, t1, r1, r2, r3⟩ := purify_ok F hm hx
                        subst o1
                        obtain ⟨X', e1, F', ew, eφ, ev, ej, ea, eo⟩ := ih F1 hl' (fun i => (hs' i).evo t1.evo) hr
                        have hv := (slot_bptr hs0 ho).2 0 T' rfl
                        obtain ⟨a', hbox'⟩ := evo_box (t1.evo.trans ev) ho
                        refine ⟨X', e1, F', ew.trans t1.w, eφ.trans t1.φ, t1.evo.trans ev, fun b hb => ej b (t1.jj b hb), ⟨(X'.φ o).blk, vs, _, ?_, rfl, ⟨cs, te, ?_, hcs⟩, ?_, ea⟩, ⟨o, os', a', rfl, hbox', eo⟩⟩
                        · rw [hv, eφ, t1.φ]
                        · rw [ew, t1.w, eφ, t1.φ]; exact hb
                        · have := (unlent_ok hu r1).mono ev.i
                          rw [ew, eφ, t1.φ]
                          rw [t1.w] at this ⊢
                          exact this
                      · exact absurd h (by simp)
                    · exact absurd h (by simp)
                  · exact absurd h (by simp)
                · exact absurd h (by simp)
              · exact absurd h (by simp)
          | _ => simp [argsOf] at h

theorem mutBack_ok {w : World} {I : Bs} {φ : Nat → Loc} : ∀ (ps : List Par) (x : (mutsTy ps).D) (os : List Nat) (ob : Objs), MutsR w I ps x (os.map fun o => (φ o).blk) → os.Nodup → MTys ps os ob →
    ∀ o, (o ∉ os ∧ mutBack ps x os ob o = ob o) ∨ (o ∈ os ∧ ∃ T a y, ob o = some (.box T a) ∧ mutBack ps x os ob o = some (.box T (.pv false T y)) ∧ (∃ cs te, w.heap[(φ o).blk]? = some (.cells cs te (0, 0)) ∧ cs.size = T.sz) ∧ Rep w I T y (mem w (φ o).blk 0)) := by
  intro ps
  induction ps with
  | nil =>
    intro x os ob h _ _ o
    have : os = [] := by have h' : os.map (fun o => (φ o).blk) = [] := h; simpa using h'
    subst this
    exact .inl ⟨by simp, rfl⟩
  | cons p ps ih =>
    intro x os ob h hnd hbx o
    cases p with
    | lent T => exact ih x os ob h hnd hbx o
    | leak T => exact ih x os ob h hnd hbx o
    | mbox T =>
      obtain ⟨b, bs', e, h1, h2, h3⟩ := h
      obtain ⟨o0, r, a, e0, hb0, hbx⟩ := hbx
      subst e0
      simp only [List.map_cons, List.cons.injEq] at e
      obtain ⟨rfl, rfl⟩ := e
      obtain ⟨n1, n2⟩ := List.nodup_cons.1 hnd
      simp only [mutBack]
      have hbx' : MTys ps r (ob.put o0 (.box T (.pv false T x.1))) := hbx.box (fun o' T' a' ho' => by
        by_cases eo : o' = o0
        · subst eo; rw [hb0] at ho'; injection ho' with e1; injection e1 with e1 e2; subst e1; exact ⟨_, Objs.put_same _ _ _⟩
        · exact ⟨a', by rw [Objs.put_ne _ _ _ eo]; exact ho'⟩)
      rcases ih x.2 r (ob.put o0 (.box T (.pv false T x.1))) h3 n2 hbx' o with ⟨k1, k2⟩ | ⟨k1, T', a', y, k2, k3⟩
      · by_cases eo : o = o0
        · subst eo
          exact .inr ⟨by simp, T, a, x.1, hb0, by rw [k2, Objs.put_same], h1, h2⟩
        · exact .inl ⟨by simp [eo, k1], by rw [k2, Objs.put_ne _ _ _ eo]⟩
      · have eo : o ≠ o0 := fun e => n1 (e ▸ k1)
        rw [Objs.put_ne _ _ _ eo] at k2
        exact .inr ⟨by simp [k1], T', a', y, k2, k3⟩

theorem aCall_ok {g : FuncId} {sg : Sig} (hM : Meets P g sg) (F : Fits E X) {id : Nat} {as : List AV} {vs : List Value} (hl : as.length = vs.length) (hs : ∀ i, SlotR X (as.getD i .undef) (vs.getD i (.tuple #[]))) {r : AV} {ob' : Objs}
    (h : (aCall sg id as X.objs).run = some (r, ob')) :
    Calls P g vs.toArray X.w fun e w' => ∃ v X', e = .returned v ∧ X'.w = w' ∧ SlotR X' r v ∧ Fits E X' ∧ X'.objs = ob' ∧ Evo X X' := by
  unfold aCall at h
  split at h
  case h_2 => exact (Tr.run_fail h).elim
  rename_i xs os ob1 ha
  obtain ⟨hn, h⟩ := Tr.run_chk h
  simp only [Tr.run] at h
  obtain ⟨q, hq, h⟩ := Option.bind_eq_some_iff.1 h
  obtain ⟨p, hp, h⟩ := Tr.run_of h
  obtain rfl := Tr.run_ret h
  obtain ⟨X1, e1, F1, ew, eφ, ev, ej, hargs, hmt⟩ := argsOf_ok F hl hs ha
  subst e1
  have hnd := nodupB_ok hn
  have hbox := hmt.is
  have hownb : ∀ o, o ∈ os → Own X1.objs X1.φ o (X1.φ o).blk := fun o ho => by
    obtain ⟨T, a, hb⟩ := hbox o ho
    unfold Own; rw [hb]
  have hnd2 : (os.map fun o => (X1.φ o).blk).Nodup := by
    rw [List.nodup_iff_pairwise_ne] at hnd ⊢
    rw [List.pairwise_map]
    refine hnd.imp_of_mem (fun {a b} h1 h2 hne e => hne ?_)
    have := hownb a h1
    rw [e] at this
    exact F1.dist a b _ this (hownb b h2)
  have hcalls := hM X1.w X1.I (JJ X1) xs vs (os.map fun o => (X1.φ o).blk) (fun b hb => .inl (F1.ij b hb)) (fun b hb => by
    rcases hb with hb | ⟨o, v, m, T, ys, ho, hnil, rfl⟩
    · exact F1.jlt b hb
    · exact (F1.ownw o _ (by unfold Own; rw [ho]; exact ⟨hnil, rfl⟩)).1) hargs hnd2 (fun b hb hj => by
    obtain ⟨o, ho, rfl⟩ := List.mem_map.1 hb
    rcases hj with hj | ⟨o', v, m, T, ys, ho', hnil, e⟩
    · exact F1.ownJ o _ (hownb o ho) hj
    · have h1 := hownb o ho
      rw [e] at h1
      have := F1.dist o o' _ h1 (by unfold Own; rw [ho']; exact ⟨hnil, rfl⟩)
      subst this
      obtain ⟨T2, a2, hb2⟩ := hbox o ho
      rw [hb2] at ho'
      cases ho') q hq
  rw [← ew]
  refine hcalls.mono (fun e w' ⟨v, he, I', owns, hpost⟩ => ?_)
  have hmb := mutBack_ok (w := w') (I := I') (φ := X1.φ) sg.ps q.2 os X1.objs hpost.muts hnd hmt
  obtain ⟨F2, ev2⟩ := F1.world (objs' := mutBack sg.ps q.2 os X1.objs) hpost.keep hpost.i hpost.iw hpost.ilt (fun b hb => by
      obtain ⟨o, ho, rfl⟩ := List.mem_map.1 hb
      obtain ⟨T, a, hb2⟩ := hbox o ho
      exact ⟨o, T, a, hb2, rfl⟩) (fun o => by
      rcases hmb o with ⟨k1, k2⟩ | ⟨k1, T, a, y, k2, k3, k4⟩
      · refine .inl ⟨k2, fun b hb hbs => ?_⟩
        obtain ⟨o', ho', rfl⟩ := List.mem_map.1 hbs
        exact k1 (F1.dist o o' _ hb (hownb o' ho') ▸ ho')
      · exact .inr ⟨T, a, y, k2, k3, k4⟩)
  obtain ⟨X3, w3, o3, F3, ev3, sl3⟩ := bindO_ok F2 hpost.outs hpost.nodup (fun b hb => by
      obtain ⟨f1, f2, f3⟩ := hpost.fresh b hb
      refine ⟨fun o ho => ?_, fun hj => ?_, f2, by have := F1.keep.size; omega⟩
      · have ho' : Own (mutBack sg.ps q.2 os X1.objs) X1.φ o b := ho
        have : Own X1.objs X1.φ o b := by
          rcases hmb o with ⟨k1, k2⟩ | ⟨k1, T, a, y, k2, k3, k4⟩
          · unfold Own at ho' ⊢; rw [k2] at ho'; exact ho'
          · unfold Own at ho' ⊢; rw [k3] at ho'; rw [k2]; exact ho'
        have := (F1.ownw o b this).1
        omega
      · rcases hj with hj | hj
        · have := F1.jlt b hj; omega
        · exact f3 hj) hp
  exact ⟨v, X3, he, w3, sl3, F3, o3, (ev.trans ev2).trans ev3⟩
end
end Go.Proofs.Ytbpfllifhpdlfaa.Ev
