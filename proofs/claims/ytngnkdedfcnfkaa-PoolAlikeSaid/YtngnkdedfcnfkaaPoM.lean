/-
  A worker's Done: up to the library's release nothing turns and nothing is listed ('doneW').
-/
import Derived.Test.YtngnkdedfcnfkaaPoL
import Derived.Test.YtngnkdedfcnfkaaPoS
namespace Go.Proofs.Ytngnkdedfcnfkaa
open Go Go.Conc Go.ConcN Go.RowKit Go.Conc.Lib Go.ConcR.Gen Go.ConcN.Gen
open Go.ConcR (KK wgBlock WgAt stA smA rd wr Aside2 DC0)

section
variable {P : Program} {ty : TypeId} {Wg C : Nat} {v : Value}
abbrev NoL : Nat → Loc → Prop := fun _ _ => False
/-- the library's walk as it is stated: it may be at its release -/
abbrev GoesR (P : Program) (ty : TypeId) (Wg C : Nat) (v : Value) := Goes P false (RW ty Wg C 1 0 0) (DWs Wg NoL NoL C 1 1) (AtR0 P ty Wg C 1 0 1 v)
/-- it stands at the release, and does not come there again -/
def AtRm (P : Program) (ty : TypeId) (Wg C : Nat) (v : Value) (g : Goroutine) (w : World) : Prop :=
  g.status = .running ∧ ∃ g', stepG P false g w = .go g' w #[Go.ConcR.mk (.releaseMerge (stA Wg))] ∧ ∀ n, ¬ GoesR P ty Wg C v n g' w

theorem goes_rm : ∀ {n1 n2 : Nat} {g : Goroutine} {w : World}, Goes P false (RW ty Wg C 1 0 0) DC0 (AtRm P ty Wg C v) n1 g w → GoesR P ty Wg C v n2 g w → Goes P false (RQ ty Wg C) DC0 (AtR P ty Wg C) n1 g w := by
  have at_ : ∀ {n2 : Nat} {g : Goroutine} {w : World}, AtRm P ty Wg C v g w → GoesR P ty Wg C v n2 g w → AtR P ty Wg C g w := by
    rintro n2 g w ⟨hrun, g', hgo, hno⟩ h
    rcases Goes.cases h with hs | ⟨n', _, hs⟩
    · obtain ⟨_, _, g₃, h1, h2⟩ := hs w (RW.refl w)
      exact ⟨hrun, g₃, h1, h2⟩
    · obtain ⟨g₃, w₃, es, h1, _, h2⟩ := hs w (RW.refl w)
      rw [hgo] at h1
      obtain ⟨rfl, rfl, _⟩ := GStep.go.inj h1
      exact absurd h2 (hno n')
  have tr : ∀ a b c, RW ty Wg C 1 0 0 a b → RW ty Wg C 1 0 0 b c → RW ty Wg C 1 0 0 a c := fun _ _ _ h1 h2 => h1.trans h2
  intro n1
  induction n1 with
  | zero => exact fun h1 h2 w₁ hr => at_ (h1 w₁ hr) (h2.rely tr hr)
  | succ n1 ih =>
    intro n2 g w h1 h2
    rcases h1 with h1 | ⟨hrun, h1⟩
    · exact .inl fun w₁ hr => at_ (h1 w₁ hr) (h2.rely tr hr)
    · refine .inr ⟨hrun, fun w₁ hr => ?_⟩
      have h1' := h1 w₁ hr
      cases hgo : stepG P false g w₁ with
      | go g' w' es =>
        rw [hgo, goes_go] at h1'
        obtain ⟨⟨rfl, rfl⟩, h1'⟩ := h1'
        rw [goes_go]
        refine ⟨⟨rfl, rfl⟩, ?_⟩
        rcases Goes.cases (h2.rely tr hr) with hs | ⟨n', _, hs⟩
        · obtain ⟨_, _, g₃, h3, _⟩ := hs w' (RW.refl w')
          rw [hgo] at h3
          obtain ⟨_, _, h3⟩ := GStep.go.inj h3
          simp at h3
        · obtain ⟨g₃, w₃, es, h3, _, h4⟩ := hs w' (RW.refl w')
          rw [hgo] at h3
          obtain ⟨rfl, rfl, _⟩ := GStep.go.inj h3
          exact ih h1' h4
      | _ => rw [hgo] at h1'; exact h1'.elim
end

theorem np_go {P : Program} {ty : TypeId} {Wg C : Nat} {v : Value} {n : Nat} {g g' : Goroutine} {w : World} {es : Array Event} (hgo : stepG P false g w = .go g' w es) (hes : es ≠ #[Go.ConcR.mk (.releaseMerge (stA Wg))]) (h : GoesR P ty Wg C v n g w) :
    (∃ n', GoesR P ty Wg C v n' g' w) ∧ ∀ e ∈ es, EvW Wg NoL NoL 1 e := by
  rcases Goes.cases h with hs | ⟨n', _, hs⟩
  · obtain ⟨_, _, g₃, hst, _⟩ := hs w (RW.refl w)
    rw [hgo] at hst
    obtain ⟨_, _, hst⟩ := GStep.go.inj hst
    exact absurd hst hes
  · obtain ⟨g₃, w₃, es', hst, hd, hgr⟩ := hs w (RW.refl w)
    rw [hgo] at hst
    obtain ⟨rfl, rfl, rfl⟩ := GStep.go.inj hst
    exact ⟨⟨n', hgr⟩, hd.2⟩

set_option maxRecDepth 100000 in
set_option maxHeartbeats 8000000 in
theorem doneRm {P : Program} {L : WgLink} (H : WgLib P L) {Wg C : Nat} {val : Value} {c : Frame} {cs : List Frame} (w : World) (hK : WgLive L.tWg Wg w ∧ Has C 0 val w) :
    Goes P false (RW L.tWg Wg C 1 0 0) DC0 (AtRm P L.tWg Wg C val) 23 (G ((baseD L.done).at ⟨#[.pointer (some ⟨Wg, 0, none⟩), undef, undef, undef], []⟩ [.code (body_done L)]) (c :: cs)) w := by
  lib_facts
  simp only [body_done, doneFn, Option.getD_some]
  u_reg kn_rely hK
  u_op kn_rely hK
  u_in kn_rely hK
  refine goes_call rfl rfl (by k_ne) rfl H.f_add (nm_add L) rfl ⟨by u_nil, ?_⟩
  walk_nrmf addFn
  u_c stepG_seq kn_rely hK
  u_cond true kn_rely hK
  u_c stepG_seq kn_rely hK
  u_c stepG_seq kn_rely hK
  u_reg kn_rely hK
  u_op kn_rely hK
  u_op kn_rely hK
  u_c stepG_region_end kn_rely hK
  u_cond true kn_rely hK
  u_reg kn_rely hK
  u_op kn_rely hK
  u_conv H.underlying_tWgP H.room_tWg (WgLive.cell0 hK.1).choose_spec kn_rely hK
  refine Goes.stop (fun w₁ h₁ => ?_)
  replace hK := kn_rely hK h₁
  clear h₁
  refine ⟨rfl, _, stepG_markAt .releaseMerge (by simp) rfl rfl (by k_ne) rfl H.f_relMerge (x_relMerge_n L) (x_relMerge_b L) (x_relMerge_x L) (x_relMerge_f L) (by simp [Act.eval, stA]), fun n hgr => ?_⟩
  obtain ⟨⟨n, hgr⟩, _⟩ := np_go stepG_region_end (by simp) hgr
  obtain ⟨⟨n, hgr⟩, _⟩ := np_go stepG_seq (by simp) hgr
  obtain ⟨⟨n, hgr⟩, _⟩ := np_go stepG_region (by simp) hgr
  simp only [List.size_toArray, List.length_cons, List.length_nil, Nat.zero_add, List.range, List.range.loop] at hgr
  have := (np_go (stepG_mark0 .disable (by simp) rfl rfl (by k_ne) rfl H.f_disable (x_disable_n L) (x_disable_b L) (x_disable_x L) (x_disable_f L)) (by simp [Go.ConcR.mk]) hgr).2
  exact (this ⟨.mark .disable, false, true⟩ (by simp)).2.1 rfl

/-- ████ A WORKER's deferred Done, from its entry. ████ -/
theorem doneW {P : Program} {L : WgLink} (H : WgLib P L) {Wg C : Nat} {val : Value} {c : Frame} {cs : List Frame} {qt : Nat} (hcm : c.mode = .returning) (hT : QuitsD P qt 0 (G c cs)) (w : World) (hK : WgLive L.tWg Wg w ∧ Has C 0 val w) :
    Goes P false (RQ L.tWg Wg C) DC0 (AtR P L.tWg Wg C) 23 (G ((baseD L.done).at ⟨#[.pointer (some ⟨Wg, 0, none⟩), undef, undef, undef], []⟩ [.code (body_done L)]) (c :: cs)) w :=
  goes_rm (doneRm H w hK) (doneN H (Own := NoL) (Rd := NoL) (n := 1) (Low := 0) (k := 1) hcm hT w hK)
end Go.Proofs.Ytngnkdedfcnfkaa
