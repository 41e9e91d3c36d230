/-
  The trace's law for a starter and its workers: worker g reads the places 'Rd g', alone touches the places 'Ow g', and touches the group's cells atomically.
-/
import Derived.Conc.TokenTrace
import Derived.Conc.CrowdRun
namespace Go.Proofs.Ytngnkdedfcnfkaa
open Go Go.Conc
open Go.ConcN (ShN RelBy)

/-- what is held of the trace while workers 'Mem' work: 'Shun': places touched atomically by whoever may not be known; 'Rd g': read by worker g, written by nobody; 'Ow g': touched by worker g alone -/
structure PT (Wg : Nat) (Shun : Loc → Prop) (Mem : Nat → Prop) (Rd Ow : Nat → Loc → Prop) (B : Nat) (t : Trace) : Prop where
  clean : ∀ said, ¬ Race said t
  known : ∀ i a, touchAt t i = some a → a.loc.isMemory = true → Knows t 0 i ∨ (Shun a.loc ∧ a.kind = .atomic) ∨ (a.kind = .plain ∧ ∃ g, t.g? i = some g ∧ Mem g ∧ ((a.write = false ∧ Rd g a.loc) ∨ Ow g a.loc))
  wrote : ∀ i a, touchAt t i = some a → a.write = true → ∀ g, Mem g → Rd g a.loc → Knows t g i
  owned : ∀ i a, touchAt t i = some a → ∀ g, Mem g → Ow g a.loc → Knows t g i
  quiet : Quiet (ShN Wg) t
  over : ∀ i g, t.g? i = some g → g ≠ 0 → ¬ Mem g → t.counts i → ∃ j, t.g? j = some 0 ∧ HappensBefore t i j
  seen : ∀ op ∈ t, op.act.low B
  norel : NoRelease (ConcR.stA Wg) t

/-- where the places lie -/
structure Lies (Wg : Nat) (Shun : Loc → Prop) (Rd Ow : Nat → Loc → Prop) : Prop where
  grp : ∀ l, ShN Wg l → Shun l
  apart : ∀ g l, Rd g l ∨ Ow g l → ¬ Shun l
  mem : ∀ g l, Rd g l ∨ Ow g l → l.isMemory = true
  excl : ∀ g g' l, Ow g l → g ≠ g' → ¬ Ow g' l ∧ ¬ Rd g' l

section
variable {Wg : Nat} {Shun : Loc → Prop} {Mem : Nat → Prop} {Rd Ow : Nat → Loc → Prop} {B : Nat} {t u : Trace}

theorem old_hb {i : Nat} (h : ∃ j, t.g? j = some 0 ∧ HappensBefore t i j) : ∃ j, (t ++ u).g? j = some 0 ∧ HappensBefore (t ++ u) i j := by
  obtain ⟨j, hj, hb⟩ := h
  have hjl : j < t.size := by
    obtain ⟨z, hz, _⟩ := Option.map_eq_some_iff.1 hj
    exact lt_size_of_getElem? hz
  exact ⟨j, by rw [g?_old hjl]; exact hj, hb_app u hb⟩

theorem over_app (H : ∀ i g, t.g? i = some g → g ≠ 0 → ¬ Mem g → t.counts i → ∃ j, t.g? j = some 0 ∧ HappensBefore t i j) (hu : ∀ op ∈ u, op.g = 0 ∨ Mem op.g ∨ op.act.touch? = none) :
    ∀ i g, (t ++ u).g? i = some g → g ≠ 0 → ¬ Mem g → (t ++ u).counts i → ∃ j, (t ++ u).g? j = some 0 ∧ HappensBefore (t ++ u) i j := by
  intro i g hg hne hM hc
  obtain ⟨x, hx, _⟩ := hc
  obtain ⟨op, hop, hox⟩ := touch_of hx
  rcases getElem?_append_cases hop with ⟨hi, hop'⟩ | ⟨_, hopu⟩
  · exact old_hb (H i g (by rw [← g?_old (u := u) hi]; exact hg) hne hM ((counts_old hi).1 ⟨x, hx, ‹_›⟩))
  · have e : op.g = g := by simpa [Trace.g?, hop] using hg
    rcases hu op hopu with h0 | h0 | h0
    · exact absurd (e ▸ h0) hne
    · exact absurd (e ▸ h0) hM
    · rw [h0] at hox; cases hox

theorem norel_app (H : NoRelease (ConcR.stA Wg) t) (hu : ∀ op ∈ u, op.act ≠ .mark (.release (ConcR.stA Wg))) : NoRelease (ConcR.stA Wg) (t ++ u) := by
  intro i hi
  obtain ⟨z, hz, hza⟩ := Option.map_eq_some_iff.1 hi
  rcases getElem?_append_cases hz with ⟨_, hz'⟩ | ⟨_, hzu⟩
  · exact H i (by rw [Trace.act?, hz']; exact congrArg some hza)
  · exact hu z hzu hza

theorem PT.old_known (H : PT Wg Shun Mem Rd Ow B t) {i : Nat} {a : Touch} {x : MemOp} (hx : t[i]? = some x) (hxa : x.act.touch? = some a) (hm : a.loc.isMemory = true) :
    Knows (t ++ u) 0 i ∨ (Shun a.loc ∧ a.kind = .atomic) ∨ (a.kind = .plain ∧ ∃ g, (t ++ u).g? i = some g ∧ Mem g ∧ ((a.write = false ∧ Rd g a.loc) ∨ Ow g a.loc)) :=
  (H.known i a (by rw [touchAt_of hx]; exact hxa) hm).imp (·.app u) (Or.imp id fun ⟨p, g, hg, hl⟩ => ⟨p, g, by rw [g?_old (lt_size_of_getElem? hx)]; exact hg, hl⟩)

/-- the starter's own operations -/
theorem PT.appMain (H : PT Wg Shun Mem Rd Ow B t) (hu : ∀ op ∈ u, op.g = 0)
    (hs : ∀ op ∈ u, ∀ b, op.act.touch? = some b → (Shun b.loc → b.kind ≠ .plain) ∧ (∀ g, Mem g → Rd g b.loc → b.write = false) ∧ (∀ g, Mem g → ¬ Ow g b.loc)) (hg : Lies Wg Shun Rd Ow)
    (hl : ∀ op ∈ u, op.act.low B) (hn : ∀ op ∈ u, op.act ≠ .mark (.release (ConcR.stA Wg))) : PT Wg Shun Mem Rd Ow B (t ++ u) := by
  refine ⟨fun said => noRace_append (H.clean said) hu fun i a ha op hop b hb hc => ?_, fun i a ha hm => ?_, fun i a ha hw g hM hS => ?_, fun i a ha g hM hS => ?_, H.quiet.app fun op hop x hx hx2 => ⟨(hs op hop x hx).1 (hg.grp _ hx2), fun _ => hu op hop⟩, over_app H.over fun op hop => .inl (hu op hop), seen_app H.seen hl, norel_app H.norel hn⟩
  · rcases H.known i a ha hc.2.1 with hk | ⟨hsa, hka⟩ | ⟨_, g, _, hM, ⟨hw, hS⟩ | hO⟩
    · exact hk
    · have hkb := (hs op hop b hb).1 (hc.1 ▸ hsa)
      obtain ⟨_, _, _, hcase⟩ := hc
      rw [hka] at hcase
      rcases hcase with x | x | ⟨_, x, _⟩
      · cases x
      · exact absurd x hkb
      · cases x
    · have hb0 := (hs op hop b hb).2.1 g hM (hc.1 ▸ hS)
      rcases hc.2.2.1 with x | x
      · rw [hw] at x; cases x
      · rw [hb0] at x; cases x
    · exact absurd (hc.1 ▸ hO) ((hs op hop b hb).2.2 g hM)
  · obtain ⟨x, hx, hxa⟩ := touch_of ha
    rcases getElem?_append_cases hx with ⟨_, hx'⟩ | ⟨_, hxu⟩
    · exact H.old_known hx' hxa hm
    · have := knows_own hx
      rw [hu x hxu] at this
      exact .inl this
  · obtain ⟨x, hx, hxa⟩ := touch_of ha
    rcases getElem?_append_cases hx with ⟨_, hx'⟩ | ⟨_, hxu⟩
    · exact (H.wrote i a (by rw [touchAt_of hx']; exact hxa) hw g hM hS).app u
    · rw [(hs x hxu a hxa).2.1 g hM hS] at hw; cases hw
  · obtain ⟨x, hx, hxa⟩ := touch_of ha
    rcases getElem?_append_cases hx with ⟨_, hx'⟩ | ⟨_, hxu⟩
    · exact (H.owned i a (by rw [touchAt_of hx']; exact hxa) g hM hS).app u
    · exact absurd hS ((hs x hxu a hxa).2.2 g hM)

/-- a worker's own operations -/
theorem PT.appWork (H : PT Wg Shun Mem Rd Ow B t) {g : Nat} (hM : Mem g) (hg : Lies Wg Shun Rd Ow) (hu : ∀ op ∈ u, op.g = g)
    (hr : ∀ op ∈ u, ∀ b, op.act.touch? = some b → (b.write = false ∧ b.kind = .plain ∧ Rd g b.loc) ∨ (b.kind = .plain ∧ Ow g b.loc) ∨ (ShN Wg b.loc ∧ b.kind = .atomic))
    (hl : ∀ op ∈ u, op.act.low B) (hn : ∀ op ∈ u, op.act ≠ .mark (.release (ConcR.stA Wg))) : PT Wg Shun Mem Rd Ow B (t ++ u) := by
  refine ⟨fun said => noRace_append (H.clean said) hu fun i a ha op hop b hb hc => ?_, fun i a ha hm => ?_, fun i a ha hw g' hM' hS => ?_, fun i a ha g' hM' hS => ?_, H.quiet.app fun op hop x hx hx2 => ?_, over_app H.over fun op hop => .inr (.inl (by rw [hu op hop]; exact hM)), seen_app H.seen hl, norel_app H.norel hn⟩
  · rcases hr op hop b hb with ⟨hb0, _, hbS⟩ | ⟨_, hbO⟩ | ⟨hbW, hbk⟩
    · rcases hc.2.2.1 with x | x
      · exact H.wrote i a ha x g hM (hc.1 ▸ hbS)
      · rw [hb0] at x; cases x
    · exact H.owned i a ha g hM (hc.1 ▸ hbO)
    · exact H.quiet.known hbW (by rw [hbk]; simp) (fun e => by rw [hbk] at e; cases e) i a ha hc
  · obtain ⟨x, hx, hxa⟩ := touch_of ha
    rcases getElem?_append_cases hx with ⟨_, hx'⟩ | ⟨_, hxu⟩
    · exact H.old_known hx' hxa hm
    · rcases hr x hxu a hxa with ⟨h0, hp, hS⟩ | ⟨hp, hS⟩ | ⟨hW, hk⟩
      · exact .inr (.inr ⟨hp, g, by rw [g?_of hx, hu x hxu], hM, .inl ⟨h0, hS⟩⟩)
      · exact .inr (.inr ⟨hp, g, by rw [g?_of hx, hu x hxu], hM, .inr hS⟩)
      · exact .inr (.inl ⟨hg.grp _ hW, hk⟩)
  · obtain ⟨x, hx, hxa⟩ := touch_of ha
    rcases getElem?_append_cases hx with ⟨_, hx'⟩ | ⟨_, hxu⟩
    · exact (H.wrote i a (by rw [touchAt_of hx']; exact hxa) hw g' hM' hS).app u
    · rcases hr x hxu a hxa with ⟨h0, _⟩ | ⟨_, hO⟩ | ⟨hW, _⟩
      · rw [h0] at hw; cases hw
      · by_cases e : g = g'
        · have := knows_own hx
          rwa [hu x hxu, e] at this
        · exact absurd hS (hg.excl g g' _ hO e).2
      · exact absurd (hg.grp _ hW) (hg.apart g' _ (.inl hS))
  · obtain ⟨x, hx, hxa⟩ := touch_of ha
    rcases getElem?_append_cases hx with ⟨_, hx'⟩ | ⟨_, hxu⟩
    · exact (H.owned i a (by rw [touchAt_of hx']; exact hxa) g' hM' hS).app u
    · by_cases e : g = g'
      · have := knows_own hx
        rwa [hu x hxu, e] at this
      · rcases hr x hxu a hxa with ⟨_, _, hR⟩ | ⟨_, hO⟩ | ⟨hW, _⟩
        · exact absurd hR (hg.excl g' g _ hS (fun z => e z.symm)).2
        · exact absurd hS (hg.excl g g' _ hO e).1
        · exact absurd (hg.grp _ hW) (hg.apart g' _ (.inr hS))
  · rcases hr op hop x hx with ⟨_, _, hS⟩ | ⟨_, hS⟩ | ⟨_, hk⟩
    · exact absurd (hg.grp _ hx2) (hg.apart g _ (.inl hS))
    · exact absurd (hg.grp _ hx2) (hg.apart g _ (.inr hS))
    · exact ⟨by rw [hk]; simp, fun e => by rw [hk] at e; cases e⟩

/-- a greater bound -/
theorem PT.mono {B' : Nat} (H : PT Wg Shun Mem Rd Ow B t) (h : B ≤ B') : PT Wg Shun Mem Rd Ow B' t :=
  ⟨H.clean, H.known, H.wrote, H.owned, H.quiet, H.over, fun op hop => MemAct.low_mono h (H.seen op hop), H.norel⟩

/-- operations that touch nothing, whoever makes them -/
theorem PT.appMute (H : PT Wg Shun Mem Rd Ow B t) (hm : ∀ op ∈ u, op.act.touch? = none) (hl : ∀ op ∈ u, op.act.low B) (hn : ∀ op ∈ u, op.act ≠ .mark (.release (ConcR.stA Wg))) : PT Wg Shun Mem Rd Ow B (t ++ u) := by
  refine ⟨fun said => noRace_appendMute (H.clean said) hm, fun i a ha hmm => ?_, fun i a ha hw g' hg' hS => ?_, fun i a ha g' hg' hS => ?_, H.quiet.app fun op hop x hx _ => (by rw [hm op hop] at hx; cases hx), over_app H.over fun op hop => .inr (.inr (hm op hop)), seen_app H.seen hl, norel_app H.norel hn⟩
  all_goals
    obtain ⟨x, hx, hxa⟩ := touch_of ha
    rcases getElem?_append_cases hx with ⟨_, hx'⟩ | ⟨_, hxu⟩
  · exact H.old_known hx' hxa hmm
  · rw [hm x hxu] at hxa; cases hxa
  · exact (H.wrote i a (by rw [touchAt_of hx']; exact hxa) hw g' hg' hS).app u
  · rw [hm x hxu] at hxa; cases hxa
  · exact (H.owned i a (by rw [touchAt_of hx']; exact hxa) g' hg' hS).app u
  · rw [hm x hxu] at hxa; cases hxa

/-- the families may be turned where nobody is concerned -/
theorem PT.congr {Mem' : Nat → Prop} {Rd' Ow' : Nat → Loc → Prop} (H : PT Wg Shun Mem Rd Ow B t) (hM : ∀ g, Mem' g ↔ Mem g) (hR : ∀ g l, Mem g → (Rd' g l ↔ Rd g l)) (hO : ∀ g l, Mem g → (Ow' g l ↔ Ow g l)) : PT Wg Shun Mem' Rd' Ow' B t :=
  ⟨H.clean, fun i a ha hm => (H.known i a ha hm).imp id (Or.imp id fun ⟨p, g, hg, hMg, h⟩ => ⟨p, g, hg, (hM g).2 hMg, h.imp (fun x => ⟨x.1, (hR g _ hMg).2 x.2⟩) (fun x => (hO g _ hMg).2 x)⟩),
    fun i a ha hw g hMg hS => H.wrote i a ha hw g ((hM g).1 hMg) ((hR g _ ((hM g).1 hMg)).1 hS), fun i a ha g hMg hS => H.owned i a ha g ((hM g).1 hMg) ((hO g _ ((hM g).1 hMg)).1 hS), H.quiet,
    fun i g h1 h2 h3 h4 => H.over i g h1 h2 (fun z => h3 ((hM g).2 z)) h4, H.seen, H.norel⟩

/-- a go statement of the starter's: the child is a worker from now on -/
theorem PT.hire (H : PT Wg Shun Mem Rd Ow B t) (hg : Lies Wg Shun Rd Ow) {c : Nat} {x y : MemOp} (hx : x.g = 0 ∧ x.act = .go c) (hy : y.g = c ∧ y.act = .start) (h0 : Deaf t 0 = 0) (hc : Deaf t c = 0) (hMc : ¬ Mem c) :
    PT Wg Shun (fun g => Mem g ∨ g = c) Rd Ow B (t ++ #[x, y]) := by
  have hn : ∀ op ∈ #[x, y], op.act.touch? = none ∧ op.act.low B ∧ op.act ≠ .mark (.release (ConcR.stA Wg)) := by
    intro op hop
    simp only [List.mem_toArray, List.mem_cons, List.not_mem_nil, or_false] at hop
    rcases hop with rfl | rfl
    · rw [hx.2]; exact ⟨rfl, trivial, by simp⟩
    · rw [hy.2]; exact ⟨rfl, trivial, by simp⟩
  have H2 := H.appMute (fun op h => (hn op h).1) (fun op h => (hn op h).2.1) (fun op h => (hn op h).2.2)
  have kn : ∀ i a, touchAt (t ++ #[x, y]) i = some a → ((a.write = true ∧ Rd c a.loc) ∨ Ow c a.loc) → Knows (t ++ #[x, y]) c i := by
    intro i a ha hS
    obtain ⟨z, hz, hza⟩ := touch_of ha
    rcases getElem?_append_cases hz with ⟨_, hz'⟩ | ⟨_, hzu⟩
    · rcases H.known i a (by rw [touchAt_of hz']; exact hza) (hg.mem c _ (hS.imp (·.2) id)) with hk | ⟨hs, _⟩ | ⟨_, g, _, hM, h⟩
      · exact ConcN.fork_knows hx hy h0 hc hk
      · exact absurd hs (hg.apart c _ (hS.imp (·.2) id))
      · have hne : g ≠ c := fun e => hMc (e ▸ hM)
        rcases h with ⟨h, hR⟩ | hO
        · rcases hS with ⟨hw, _⟩ | hS
          · rw [hw] at h; cases h
          · exact absurd hR (hg.excl c g _ hS (fun e => hne e.symm)).2
        · have := hg.excl g c _ hO hne
          exact absurd hS (fun z => z.elim (fun z => this.2 z.2) this.1)
    · rw [(hn z hzu).1] at hza; cases hza
  refine ⟨H2.clean, fun i a ha hm => (H2.known i a ha hm).imp id (Or.imp id fun ⟨p, g, hg, hl, h⟩ => ⟨p, g, hg, .inl hl, h⟩), fun i a ha hw g hM hS => ?_, fun i a ha g hM hS => ?_, H2.quiet, fun i g h1 h2 h3 h4 => H2.over i g h1 h2 (fun h => h3 (.inl h)) h4, H2.seen, H2.norel⟩
  · rcases hM with hM | rfl
    · exact H2.wrote i a ha hw g hM hS
    · exact kn i a ha (.inl ⟨hw, hS⟩)
  · rcases hM with hM | rfl
    · exact H2.owned i a ha g hM hS
    · exact kn i a ha (.inr hS)

/-- an action at the group's own block does not lie below -/
theorem not_low_grp {B Wg : Nat} (hW : B ≤ Wg) {a : Addr} (ha : a.block = Wg) : ¬ Loc.low B (.cell a) := by
  intro h
  have h3 : a.block < B := h
  omega

/-- the beginning: nobody works; the group is not made yet -/
theorem PT.begin {Shun0 : Loc → Prop} {B' : Nat} (H : Past Shun0 B t) (hW : B ≤ Wg) (hB : B ≤ B') (hs : ∀ l, Shun0 l → Shun l) (hM : ∀ g, ¬ Mem g) : PT Wg Shun Mem Rd Ow B' t := by
  refine ⟨H.clean, fun i a ha hm => (H.known i a ha hm).imp id fun x => .inl ⟨hs _ x.1, x.2⟩, fun _ _ _ _ g h => (hM g h).elim, fun _ _ _ g h => (hM g h).elim, fun i op x hi hx hS => ?_, fun i g h1 h2 _ h4 => H.over i g h1 h2 h4, fun op hop => MemAct.low_mono hB (H.seen op hop), fun i hi => ?_⟩
  · obtain ⟨a, ha, hb⟩ := hS
    have hl := H.seen op (Array.mem_of_getElem? hi)
    exfalso
    generalize op.act = act at hx hl
    cases act with
    | access e =>
      have hxl : x.loc = e.loc := by
        simp only [MemAct.touch?, Option.some.injEq] at hx
        rw [← hx]
      have h2 : e.loc.low B := hl
      rw [← hxl, ha] at h2
      exact not_low_grp hW hb h2
    | mark m =>
      cases m with
      | read a' =>
        simp only [MemAct.touch?, Option.some.injEq] at hx
        rw [← hx] at ha
        have e : a' = a := Loc.cell.inj ha
        have h3 : a'.block < B := hl
        rw [e] at h3
        omega
      | write a' =>
        simp only [MemAct.touch?, Option.some.injEq] at hx
        rw [← hx] at ha
        have e : a' = a := Loc.cell.inj ha
        have h3 : a'.block < B := hl
        rw [e] at h3
        omega
      | _ => simp [MemAct.touch?] at hx
    | _ => simp [MemAct.touch?] at hx
  · obtain ⟨z, hz, hza⟩ := Option.map_eq_some_iff.1 hi
    have hl := H.seen z (Array.mem_of_getElem? hz)
    rw [hza] at hl
    have h3 : (ConcR.stA Wg).block < B := hl
    have h4 : (ConcR.stA Wg).block = Wg := rfl
    omega

/-- the end: the starter has acquired behind every worker's release -/
theorem PT.finish (H : PT Wg Shun Mem Rd Ow B t) (hd : Deaf t 0 = 0) {q : Nat} (hq : t.act? q = some (.mark (.acquire (ConcR.stA Wg)))) (hg0 : t.g? q = some 0) (hh : t.heard q)
    (hr : ∀ g, Mem g → ∃ r, RelBy (ConcR.stA Wg) t g r ∧ r < q) : Past Shun B t := by
  have key : ∀ i g, Mem g → t.g? i = some g → t.counts i → HappensBefore t i q := by
    intro i g hM hgi hc
    obtain ⟨r, hr, hrq⟩ := hr g hM
    have edge : HappensBefore t r q := .single (.inr ⟨.marked hrq (.inr hr.act) hq (fun k _ _ => H.norel k), hr.heard, hh⟩)
    have hle : i ≤ r := Nat.le_of_not_lt fun hlt => hr.after i hlt hgi hc
    rcases Nat.lt_or_ge i r with hlt | hge
    · exact .trans (.single (.inl ⟨hlt, g, hgi, hr.g⟩)) edge
    · obtain rfl : i = r := by omega
      exact edge
  obtain ⟨z, hz, hzg⟩ := Option.map_eq_some_iff.1 hg0
  refine ⟨H.clean, fun i a ha hm => ?_, fun i g h1 h2 h3 => ?_, hd, H.seen⟩
  · rcases H.known i a ha hm with hk | hk | ⟨hp, g, hgi, hM, _⟩
    · exact .inl hk
    · exact .inr hk
    · exact .inl ⟨q, z, hz, hzg, .inr (key i g hM hgi ⟨a, ha, hm, .inl (by rw [hp]; simp)⟩)⟩
  · by_cases hM : Mem g
    · exact ⟨q, hg0, key i g hM h1 h3⟩
    · exact H.over i g h1 h2 hM h3
end
end Go.Proofs.Ytngnkdedfcnfkaa
