/-
  A starter and its workers: one worker's record is laid anew.
-/
import Derived.Test.YtngnkdedfcnfkaaPoS
import Derived.Conc.CrowdStepC2
namespace Go.Proofs.Ytngnkdedfcnfkaa
open Go Go.Conc
open Go.ConcN (sumTo upd sumTo_upd upd_ne upd_same ShN RelBy CTag WD WgLive)
open Go.ConcR (stA smA WgAt mk)

def fam (o : Option (Spot × Stage)) : Option ((Addr → Prop) × (Addr → Prop)) := o.map fun x => (x.1.Dep, x.1.Own)
section
variable {ρ ρ' : Roles}
theorem fam_rd (h : ∀ g, fam (ρ' g) = fam (ρ g)) (g : Nat) (l : Loc) : RdOf ρ' g l ↔ RdOf ρ g l := by
  have key : ∀ {ρ ρ' : Roles}, fam (ρ' g) = fam (ρ g) → RdOf ρ' g l → RdOf ρ g l := by
    rintro ρ ρ' h ⟨s, st, a, e, rfl, hd⟩
    rw [e] at h
    cases hg : ρ g with
    | none => rw [hg] at h; cases h
    | some x =>
      rw [hg] at h
      simp only [fam, Option.map_some, Option.some.injEq, Prod.mk.injEq] at h
      exact ⟨x.1, x.2, a, hg, rfl, by rw [← h.1]; exact hd⟩
  exact ⟨key (h g), key (h g).symm⟩
theorem fam_ow (h : ∀ g, fam (ρ' g) = fam (ρ g)) (g : Nat) (l : Loc) : OwOf ρ' g l ↔ OwOf ρ g l := by
  have key : ∀ {ρ ρ' : Roles}, fam (ρ' g) = fam (ρ g) → OwOf ρ' g l → OwOf ρ g l := by
    rintro ρ ρ' h ⟨s, st, a, e, rfl, hd⟩
    rw [e] at h
    cases hg : ρ g with
    | none => rw [hg] at h; cases h
    | some x =>
      rw [hg] at h
      simp only [fam, Option.map_some, Option.some.injEq, Prod.mk.injEq] at h
      exact ⟨x.1, x.2, a, hg, rfl, by rw [← h.2]; exact hd⟩
  exact ⟨key (h g), key (h g).symm⟩
theorem fam_mem (h : ∀ g, fam (ρ' g) = fam (ρ g)) (g : Nat) : MemOf ρ' g ↔ MemOf ρ g := by
  have := congrArg Option.isSome (h g)
  simp only [fam, Option.isSome_map] at this
  simp only [MemOf, this]
theorem fam_none (h : ∀ g, fam (ρ' g) = fam (ρ g)) (g : Nat) : ρ' g = none ↔ ρ g = none := by
  have := fam_mem h g
  unfold MemOf at this
  constructor
  · intro e; rw [e] at this
    cases hg : ρ g with
    | none => rfl
    | some x => rw [hg] at this; exact absurd (this.2 rfl) (by simp)
  · intro e; rw [e] at this
    cases hg : ρ' g with
    | none => rfl
    | some x => rw [hg] at this; exact absurd (this.1 rfl) (by simp)
theorem fam_upd {i : Nat} {o' : Option (Spot × Stage)} (h : fam o' = fam (ρ i)) : ∀ g, fam (upd ρ i o' g) = fam (ρ g) := by
  intro g
  by_cases e : g = i
  · subst e; rw [upd_same]; exact h
  · rw [upd_ne ρ _ e]
theorem Lies.fam {Wg : Nat} {Shun : Loc → Prop} (H : Lies Wg Shun (RdOf ρ) (OwOf ρ)) (h : ∀ g, Go.Proofs.Ytngnkdedfcnfkaa.fam (ρ' g) = Go.Proofs.Ytngnkdedfcnfkaa.fam (ρ g)) : Lies Wg Shun (RdOf ρ') (OwOf ρ') :=
  ⟨H.grp, fun g l hl => H.apart g l (hl.imp (fam_rd h g l).1 (fam_ow h g l).1), fun g l hl => H.mem g l (hl.imp (fam_rd h g l).1 (fam_ow h g l).1),
    fun g g' l hl hne => ⟨fun x => (H.excl g g' l ((fam_ow h g l).1 hl) hne).1 ((fam_ow h g' l).1 x), fun x => (H.excl g g' l ((fam_ow h g l).1 hl) hne).2 ((fam_rd h g' l).1 x)⟩⟩
theorem PT.fam {Wg B : Nat} {Shun : Loc → Prop} {t : Trace} (H : PT Wg Shun (MemOf ρ) (RdOf ρ) (OwOf ρ) B t) (h : ∀ g, Go.Proofs.Ytngnkdedfcnfkaa.fam (ρ' g) = Go.Proofs.Ytngnkdedfcnfkaa.fam (ρ g)) : PT Wg Shun (MemOf ρ') (RdOf ρ') (OwOf ρ') B t :=
  H.congr (fam_mem h) (fun g l _ => fam_rd h g l) (fun g l _ => fam_ow h g l)
end

def stgO (o : Option (Spot × Stage)) : Nat := match o with
  | some (_, .wk n _) => n
  | some _ => 7
  | none => 1
theorem stg_eq (ρ : Roles) (i : Nat) : stg ρ i = ⟨stgO (ρ i), 0, 0⟩ := by
  unfold stg stgO
  rcases ρ i with _ | ⟨s, _ | _ | _⟩ <;> rfl
theorem stg_upd (ρ : Roles) (i : Nat) (o : Option (Spot × Stage)) : stg (upd ρ i o) = upd (stg ρ) i ⟨stgO o, 0, 0⟩ := by
  funext j
  by_cases e : j = i
  · subst e; rw [stg_eq, upd_same, upd_same]
  · rw [upd_ne _ _ e, stg_eq, stg_eq, upd_ne ρ o e]

theorem meas_lt {N i n' : Nat} {ρ : Roles} {q : Nat → Nat} {o' : Option (Spot × Stage)} (hi : i < N) (h : rank o' < rank (ρ i) ∨ (rank o' = rank (ρ i) ∧ n' < q i)) : Lt2 (meas N (upd ρ i o') (upd q i n')) (meas N ρ q) := by
  have e1 := sumTo_upd ρ o' rank hi
  have e2 := sumTo_upd q n' id hi
  simp only [id] at e2
  have e3 : sumTo N (upd q i n') + q i = sumTo N q + n' := e2
  unfold meas
  rcases h with h | ⟨h1, h2⟩
  · exact Prod.Lex.left _ _ (by omega)
  · have : sumTo N (fun j => rank (upd ρ i o' j)) = sumTo N (fun j => rank (ρ j)) := by omega
    rw [this]
    exact Prod.Lex.right _ (by omega)

section
variable {P : Program} {ty : TypeId} {Wg B : Nat} {Shun : Loc → Prop} {Ch : Nat → Prop} {SR : World → World → Prop} {tag : CTag} {ρ : Roles} {T : Trace} {gs : Array Goroutine} {w : World} {q : Nat → Nat}

theorem Deaf_not (T u : Trace) {i : Nat} (hu : ∀ op ∈ u, op.g ≠ i) : Deaf (T ++ u) i = Deaf T i := by
  obtain ⟨l⟩ := u
  rw [Deaf_append]
  have hl : ∀ op ∈ l, op.g ≠ i := fun op hop => hu op (by simpa using hop)
  clear hu
  generalize Deaf T i = d
  induction l generalizing d with
  | nil => rfl
  | cons y l ih =>
    rw [List.foldl_cons, show deafStep i d y = d by
      have := hl y (by simp)
      unfold deafStep
      split <;> simp [this]]
    exact ih (fun op hop => hl op (by simp [hop])) d

/-- what is asked of a role that is laid anew -/
structure NewRole (ty : TypeId) (Wg B : Nat) (Ch : Nat → Prop) (SR : World → World → Prop) (ρ : Roles) (i : Nat) (w' : World) (o' : Option (Spot × Stage)) : Prop where
  fam : fam o' = fam (ρ i)
  wf : ∀ s st, o' = some (s, st) → s.Wf ty Wg B Ch SR ∧ s.K w'
  open' : ∀ s, o' = some (s, .open) → ∃ k, w'.heap[s.chan]? = some (.chan 0 #[] false k k false)
  shut : ∀ s, o' = some (s, .shut) → s.isSend = false ∧ ∃ k, w'.heap[s.chan]? = some (.chan 0 #[] true k k false)
  inj : ∀ s st j s' st', o' = some (s, st) → j ≠ i → ρ j = some (s', st') → (s.isSend = false ∨ s'.isSend = false) → s'.chan ≠ s.chan
  cross : ∀ s st j s' st', o' = some (s, st) → j ≠ i → ρ j = some (s', st') → (∀ a, s.Own a → ¬ s'.DepB a.block) ∧ (∀ a, s'.Own a → ¬ s.DepB a.block)
  calm : (∀ s st, o' = some (s, st) → st = .open) ∨ (∀ w w', Aside Wg w w' → WgLive ty Wg w' → SR w w')

/-- ████ ONE WORKER's RECORD IS LAID ANEW. ████ -/
theorem Hub.put (C : Hub P ty Wg B Shun Ch SR tag ρ T gs w q) {tag' : CTag} {i n' : Nat} {g' : Goroutine} {ops : Array MemOp} {gs' : Array Goroutine} {w' : World} {o' : Option (Spot × Stage)}
    (hpos : 0 < i) (hlt : i < gs.size) (hsz : gs'.size = gs.size) (hother : ∀ x, 0 < x → x ≠ i → gs'[x]? = gs[x]?) (hself : gs'[i]? = some g') (hops : ∀ op ∈ ops, op.g = i ∨ op.g = 0)
    (hrole : RoleAt P ty Wg B (T ++ ops) w' i n' g' o') (hnew : NewRole ty Wg B Ch SR ρ i w' o')
    (hw : ∀ j s st, j ≠ i → ρ j = some (s, st) → s.K w' ∧ SameO s.Own w w' ∧ w'.heap[s.C]? = w.heap[s.C]? ∧ ∀ cl k, w.heap[s.chan]? = some (.chan 0 #[] cl k k false) → ∃ k', w'.heap[s.chan]? = some (.chan 0 #[] cl k' k' false))
    (hpast : PT Wg Shun (MemOf ρ) (RdOf ρ) (OwOf ρ) w'.heap.size (T ++ ops)) (hmode : ∃ st sm, WgAt ty Wg w' st sm ∧ Go.ConcN.Mode gs.size (stg (upd ρ i o')) tag' st sm) :
    Hub P ty Wg B Shun Ch SR tag' (upd ρ i o') (T ++ ops) gs' w' (upd q i n') := by
  have hf := fam_upd hnew.fam
  have hex : ∀ {j : Nat} {s : Spot} {st : Stage}, upd ρ i o' j = some (s, st) → (j = i ∧ o' = some (s, st)) ∨ (j ≠ i ∧ ρ j = some (s, st)) := by
    intro j s st h
    by_cases e : j = i
    · subst e; rw [upd_same] at h; exact .inl ⟨rfl, h⟩
    · rw [upd_ne ρ _ e] at h; exact .inr ⟨e, h⟩
  have hlive : WgLive ty Wg w' := let ⟨st, sm, h, _⟩ := hmode; ⟨st, sm, h⟩
  refine ⟨fun x y hx hy => ?_, fun j s st h => ?_, fun j s h => ?_, fun j s h => ?_, fun j j' s s' st st' h h' hne hs => ?_, fun j s st h => ?_, fun j j' s s' st st' h h' hne => ?_, ?_, fun j hj => ?_, hpast.fam hf, C.lies.fam hf, by rw [hsz]; exact hmode, ?_⟩
  · by_cases e : x = i
    · subst e
      rw [hself] at hy
      obtain rfl := Option.some.inj hy
      rw [upd_same, upd_same]; exact hrole
    · rw [hother x hx e] at hy
      rw [upd_ne q n' e, upd_ne ρ _ e]
      exact (C.role x y hx hy).rely (Ch := Ch) (SR := SR) (fun op hop z => by rcases hops op hop with h | h <;> omega) (fun s st h => ⟨C.wf x s st h, (hw x s st e h).1, (hw x s st e h).2.1, (hw x s st e h).2.2.1⟩) (fun _ => hlive)
  · rcases hex h with ⟨_, h⟩ | ⟨e, h⟩
    · exact (hnew.wf s st h).2
    · exact (hw j s st e h).1
  · rcases hex h with ⟨_, h⟩ | ⟨e, h⟩
    · exact hnew.open' s h
    · obtain ⟨k, hk⟩ := C.chans j s h
      exact (hw j s _ e h).2.2.2 false k hk
  · rcases hex h with ⟨_, h⟩ | ⟨e, h⟩
    · exact hnew.shut s h
    · obtain ⟨hs, k, hk⟩ := C.shut j s h
      exact ⟨hs, (hw j s _ e h).2.2.2 true k hk⟩
  · rcases hex h with ⟨rfl, g1⟩ | ⟨e, g1⟩ <;> rcases hex h' with ⟨rfl, g2⟩ | ⟨e', g2⟩
    · exact absurd rfl hne
    · exact hnew.inj s st j' s' st' g1 e' g2 (.inl hs)
    · exact fun z => hnew.inj s' st' j s st g2 e g1 (.inr hs) z.symm
    · exact C.inj j j' s s' st st' g1 g2 hne hs
  · rcases hex h with ⟨_, h⟩ | ⟨e, h⟩
    · exact (hnew.wf s st h).1
    · exact C.wf j s st h
  · rcases hex h with ⟨rfl, g1⟩ | ⟨e, g1⟩ <;> rcases hex h' with ⟨rfl, g2⟩ | ⟨e', g2⟩
    · exact absurd rfl hne
    · exact (hnew.cross s st j' s' st' g1 e' g2).1
    · exact (hnew.cross s' st' j s st g2 e g1).2
    · exact C.cross j j' s s' st st' g1 g2 hne
  · rw [upd_ne ρ _ (by omega)]; exact C.zero
  · have := C.above j (by omega)
    exact ⟨by rw [Deaf_not T ops (fun op hop z => by rcases hops op hop with h | h <;> omega)]; exact this.1, by rw [upd_ne ρ _ (by omega)]; exact this.2⟩
  · rcases hnew.calm with h | h
    · rcases C.calm with h' | h'
      · left
        intro j s st hj
        rcases hex hj with ⟨_, hj⟩ | ⟨_, hj⟩
        · exact h s st hj
        · exact h' j s st hj
      · exact .inr h'
    · exact .inr h
end
end Go.Proofs.Ytngnkdedfcnfkaa
