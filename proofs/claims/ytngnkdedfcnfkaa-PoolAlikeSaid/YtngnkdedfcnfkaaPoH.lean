/-
  A starter and its workers: from Wait's loop to its end: all are handed over, the workers only leave.
-/
import Derived.Test.YtngnkdedfcnfkaaPoG
namespace Go.Proofs.Ytngnkdedfcnfkaa
open Go Go.Conc
open Go.ConcN (sumTo upd sumTo_upd upd_ne upd_same ShN RelBy CTag WD WgLive Vc cnt OpenSt AllQuit pend isW3 isFin isOpen bk_cell bk_sem)
open Go.ConcR (KK stA smA WgAt rd wr Bk)

theorem quit_of_zero {N : Nat} {D : Nat → WD} (h : OpenSt N D) (hv : Vc N D = 0) : AllQuit N D := by
  intro i hi
  have := h i hi
  have h0 : cnt (D i) ≤ Vc N D := Go.ConcN.le_sumTo (f := fun i => cnt (D i)) hi
  simp only [cnt] at h0
  split at h0 <;> omega

section
variable {P : Program} {ty : TypeId} {Wg B : Nat} {Shun : Loc → Prop} {Ch : Nat → Prop} {SR : World → World → Prop} {ρ : Roles} {T : Trace} {gs : Array Goroutine} {w : World} {q : Nat → Nat} {D : World → World → Array Event → Prop} {Anch Next : Goroutine → World → Prop}

/-- how Wait ends -/
def Joined (P : Program) (Shun : Loc → Prop) (_ : Nat) (Next : Goroutine → World → Prop) (N₀ : Nat) (m : Machine) (T : Trace) (t : Trace) : Prop :=
  ∃ gs' a' w' sl' q', m = crowd gs' w' sl' ∧ gs'.size = N₀ ∧ gs'[0]? = some a' ∧ Next a' w' ∧ Past Shun w'.heap.size t ∧ Leavers P t gs' q' ∧ T = t

/-- what is asked of the starter's walk -/
def Meek (Wg B : Nat) (Shun : Loc → Prop) (ρ : Roles) (D : World → World → Array Event → Prop) : Prop := ∀ w w' es, D w w' es → DM Wg B Shun ρ w w' es ∧ ∀ e ∈ es, Unmarked e
theorem Meek.evo {ρ' : Roles} (h : Meek Wg B Shun ρ D) (e : Evo ρ ρ') : Meek Wg B Shun ρ' D := fun w w' es d => ⟨(h w w' es d).1.evo e, (h w w' es d).2⟩

theorem fin_step (E : Env ty Wg B Ch SR) (hN : gs.size + 1 < 2147483648) (hD : Meek Wg B Shun ρ D) {n : Nat} {a : Goroutine} {sl : Option (Nat × Nat)} (ha : gs[0]? = some a) (C : Hub P ty Wg B Shun Ch SR .w4 ρ T gs w q) (hd0 : Deaf T 0 = 0)
    (hG : Goes P true SR D (XAcq P Wg Next) n a w) : ∃ N m' T', runNT P N (crowd gs w sl) T = (.next m', T') ∧ Joined P Shun B Next gs.size m' T' T' := by
  obtain ⟨N, gs', a', w', es, sl', T₁, fn, pos, q', ρ', tag', hr, hsz, ha', ⟨rfl, hn⟩, C', hd, he, hm, gs₁, w₁, C₁, hsz₁⟩ := C.go_step (sl := sl) E hN (by simp) hD ha hd0 hG (fun _ _ h => h.1)
    (Next := fun a' w' es _ _ _ => es = #[Go.ConcR.mk (.acquire (stA Wg))] ∧ Next a' w') (fun a₁ w₁ ρ₁ q₁ hS hev hle hmode => by
      obtain ⟨_, g', hgo, hn⟩ := hS w₁ (E.refl _)
      exact ⟨g', w₁, _, .w4, hgo, C.dm0_wg E (.refl Wg w₁) (fun e he => by simp at he; subst he; exact evM_acq E), hmode, rfl, hn⟩)
  have eops : MemOp.ofEvents 0 fn pos #[Go.ConcR.mk (.acquire (stA Wg))] = #[{ g := 0, fn, pos, act := .mark (.acquire (stA Wg)) }] := by rw [ofEvents_eq]; simp [Go.ConcR.ofEvent_mk]
  have hops : ∀ op ∈ MemOp.ofEvents 0 fn pos #[Go.ConcR.mk (.acquire (stA Wg))], op.g = 0 := fun op hop => by obtain ⟨e, _, rfl⟩ := Go.Conc.mem_ofEvents hop; rfl
  have hat : (T₁ ++ MemOp.ofEvents 0 fn pos #[Go.ConcR.mk (.acquire (stA Wg))])[T₁.size]? = some { g := 0, fn, pos, act := .mark (.acquire (stA Wg)) } := by
    rw [eops, Array.getElem?_append_right (Nat.le_refl _)]; simp
  have hdF : Deaf (T₁ ++ MemOp.ofEvents 0 fn pos #[Go.ConcR.mk (.acquire (stA Wg))]) 0 = 0 := by
    rw [Deaf_own, hd]; rfl
  obtain ⟨st, sm, _, hmode⟩ := C₁.mode
  have hall : AllQuit gs₁.size (stg ρ') := by
    cases hmode with
    | opn h1 _ _ => exact h1.elim
    | reg h1 _ _ => exact h1.elim
    | last _ h1 _ _ _ => exact h1.elim
    | fin _ h2 => exact h2
  have hwk : ∀ i s st, ρ' i = some (s, st) → ∃ d, st = .wk 1 d := by
    intro i s st hi
    have hil : i < gs₁.size := by
      rcases Nat.lt_or_ge i gs₁.size with h | h
      · exact h
      · rw [(C₁.above i h).2] at hi; cases hi
    have h1 := hall i hil
    rw [stg_eq, hi] at h1
    cases st with
    | «open» => simp [stgO] at h1
    | shut => simp [stgO] at h1
    | wk n d => simp only [stgO] at h1; subst h1; exact ⟨d, rfl⟩
  refine ⟨N, _, _, hr, gs', a', w', sl', q', rfl, hsz, ha', hn, ?_, ⟨fun i g hi hg => ?_, fun j hj => (C'.above j hj).1⟩, rfl⟩
  · refine C'.past.finish hdF (q := T₁.size) (by rw [act?_of hat]) (by rw [g?_of hat]) ⟨0, by rw [g?_of hat], by rw [deaf_old (Nat.le_refl _)]; exact hd⟩ (fun g hM => ?_)
    cases hρ : ρ' g with
    | none => unfold MemOf at hM; rw [hρ] at hM; cases hM
    | some x =>
      obtain ⟨s, st⟩ := x
      obtain ⟨d, rfl⟩ := hwk g s st hρ
      have hpos : 0 < g := by
        rcases Nat.eq_zero_or_pos g with rfl | h
        · rw [C₁.zero] at hρ; cases hρ
        · exact h
      have hgl : g < gs₁.size := by
        rcases Nat.lt_or_ge g gs₁.size with h | h
        · exact h
        · rw [(C₁.above g h).2] at hρ; cases hρ
      have hR := C₁.role g _ hpos (Array.getElem?_eq_getElem hgl)
      rw [hρ] at hR
      obtain ⟨r, hr⟩ := hR.2.2 (by omega)
      exact ⟨r, Go.ConcN.RelBy.appNot hr (fun op hop => by rw [hops op hop]; omega), lt_of_act? hr.act⟩
  · have hR := C'.role i g hi hg
    cases hρ : ρ' i with
    | none => rw [hρ] at hR; exact hR
    | some x =>
      obtain ⟨s, st⟩ := x
      obtain ⟨d, rfl⟩ := hwk i s st hρ
      rw [hρ] at hR
      obtain ⟨hs, hd, _⟩ := hR
      rw [hd]
      generalize q' i = m at hs
      cases hs with
      | quit h => exact h

theorem ke_step (E : Env ty Wg B Ch SR) (hN : gs.size + 1 < 2147483648) (hD : Meek Wg B Shun ρ D) {n : Nat} {a : Goroutine} {sl : Option (Nat × Nat)} (ha : gs[0]? = some a) (C : Hub P ty Wg B Shun Ch SR .w4 ρ T gs w q) (hd0 : Deaf T 0 = 1)
    (hG : Goes P true SR D (XKe P Wg SR D Next) n a w) : ∃ N m' T', runNT P N (crowd gs w sl) T = (.next m', T') ∧ Joined P Shun B Next gs.size m' T' T' := by
  obtain ⟨N, gs', a', w', es, sl', T₁, fn, pos, q', ρ', tag', hr, hsz, ha', ⟨rfl, rfl, m, hn⟩, C', hd, he, hm, _⟩ := C.go_step (sl := sl) E hN (by simp) hD ha hd0 hG (fun _ _ h => h.1)
    (Next := fun a' w' es tag' _ _ => es = #[Go.ConcR.mk .enable] ∧ tag' = .w4 ∧ ∃ m, Goes P true SR D (XAcq P Wg Next) m a' w') (fun a₁ w₁ ρ₁ q₁ hS hev hle hmode => by
      obtain ⟨_, g', hgo, hn⟩ := hS w₁ (E.refl _)
      exact ⟨g', w₁, _, .w4, hgo, C.dm0_wg E (.refl Wg w₁) (fun e he => by simp at he; subst he; exact C.evM_bk E (.inr (.inl rfl))), hmode, rfl, rfl, hn⟩)
  obtain ⟨N', m', T', hr', hJ⟩ := fin_step (sl := sl') E (by rw [hsz]; exact hN) (hD.evo he) ha' C' (by rw [Deaf_own, hd]; rfl) hn
  rw [hsz] at hJ
  exact ⟨N + N', m', T', runNT_then hr hr', hJ⟩

theorem w4_step (E : Env ty Wg B Ch SR) (hN : gs.size + 1 < 2147483648) (hD : Meek Wg B Shun ρ D) {n : Nat} {a : Goroutine} {sl : Option (Nat × Nat)} (ha : gs[0]? = some a) (C : Hub P ty Wg B Shun Ch SR .w4 ρ T gs w q) (hd0 : Deaf T 0 = 1)
    (hG : Goes P true SR D (XW4 P ty Wg SR D Next) n a w) : ∃ N m' T', runNT P N (crowd gs w sl) T = (.next m', T') ∧ Joined P Shun B Next gs.size m' T' T' := by
  obtain ⟨N, gs', a', w', es, sl', T₁, fn, pos, q', ρ', tag', hr, hsz, ha', ⟨rfl, rfl, m, hn⟩, C', hd, he, hm, _⟩ := C.go_step (sl := sl) E hN (by simp) hD ha hd0 hG (fun _ _ h => h.1)
    (Next := fun a' w' es tag' _ _ => es = #[rd (stA Wg)] ∧ tag' = .w4 ∧ ∃ m, Goes P true SR D (XKe P Wg SR D Next) m a' w') (fun a₁ w₁ ρ₁ q₁ hS hev hle hmode => by
      obtain ⟨_, hx⟩ := hS w₁ (E.refl _)
      obtain ⟨st, sm, hwg, hmo⟩ := hmode
      have h0 : st = 0 ∧ sm = 0 := by
        cases hmo with
        | opn h1 _ _ => exact h1.elim
        | reg h1 _ _ => exact h1.elim
        | last _ h1 _ _ _ => exact h1.elim
        | fin _ h2 => exact ⟨rfl, rfl⟩
      obtain ⟨rfl, rfl⟩ := h0
      obtain ⟨g', hgo, hn⟩ := hx hwg
      exact ⟨g', w₁, _, .w4, hgo, C.dm0_wg E (.refl Wg w₁) (fun e he => by simp at he; subst he; exact C.evM_bk E (bk_cell _ _ rfl)), ⟨0, 0, hwg, hmo⟩, rfl, rfl, hn⟩)
  obtain ⟨N', m', T', hr', hJ⟩ := ke_step (sl := sl') E (by rw [hsz]; exact hN) (hD.evo he) ha' C' (by rw [Deaf_own, hd]; rfl) hn
  rw [hsz] at hJ
  exact ⟨N + N', m', T', runNT_then hr hr', hJ⟩

theorem w3_step (E : Env ty Wg B Ch SR) : ∀ (μ : Nat × Nat) {ρ : Roles} {T : Trace} {gs : Array Goroutine} {w : World} {q : Nat → Nat} {n : Nat} {a : Goroutine} {sl : Option (Nat × Nat)}, μ = meas gs.size ρ q → gs.size + 1 < 2147483648 → Meek Wg B Shun ρ D → gs[0]? = some a → Hub P ty Wg B Shun Ch SR .w3 ρ T gs w q →
    (∀ i s st, ρ i = some (s, st) → st ≠ .open) → Deaf T 0 = 1 → Goes P true SR D (XW3 P ty Wg SR D Next) n a w → ∃ N m' T', runNT P N (crowd gs w sl) T = (.next m', T') ∧ Joined P Shun B Next gs.size m' T' T' := by
  intro μ
  induction μ using (Prod.lex Nat.lt_wfRel Nat.lt_wfRel).wf.induction with
  | _ μ ih =>
    intro ρ T gs w q n a sl hμ hN hD ha C hclosed hd0 hG
    obtain ⟨N, gs', a', w', es, sl', T₁, fn, pos, q', ρ', tag', hr, hsz, ha', hn, C', hd, he, hm, _⟩ := C.go_step (sl := sl) E hN (by simp) hD ha hd0 hG (fun _ _ h => h.1)
      (Next := fun a' w' es tag' _ _ => (es = #[] ∧ tag' = .blk ∧ ∃ a₁, a₁.status = .running ∧ a₁.offers = none ∧ a' = { a₁ with status := .blocked } ∧ ∀ w₂, SR w' w₂ → XW3 P ty Wg SR D Next a₁ w₂) ∨ (es = semEvents (smA Wg) ∧ tag' = .w4 ∧ ∃ m, Goes P true SR D (XW4 P ty Wg SR D Next) m a' w')) (fun a₁ w₁ ρ₁ q₁ hS hev hle hmode => by
        obtain ⟨hrun, hoff, hx, hy⟩ := hS w₁ (E.refl _)
        obtain ⟨st, sm, hwg, hmo⟩ := hmode
        have block : sm = 0 → Go.ConcN.Mode gs.size (stg ρ₁) .blk st sm → ∃ a' w' es tag', stepG P true a₁ w₁ = .go a' w' es ∧ DM0 Wg B Shun ρ w₁ w' es ∧ (∃ st sm, WgAt ty Wg w' st sm ∧ Go.ConcN.Mode gs.size (stg ρ₁) tag' st sm) ∧
            ((es = #[] ∧ tag' = .blk ∧ ∃ a₁, a₁.status = .running ∧ a₁.offers = none ∧ a' = { a₁ with status := .blocked } ∧ ∀ w₂, SR w' w₂ → XW3 P ty Wg SR D Next a₁ w₂) ∨ (es = semEvents (smA Wg) ∧ tag' = .w4 ∧ ∃ m, Goes P true SR D (XW4 P ty Wg SR D Next) m a' w')) := by
          rintro rfl hmo'
          exact ⟨_, w₁, #[], .blk, hx ⟨st, hwg⟩, C.dm0_wg E (.refl Wg w₁) (by simp), ⟨st, 0, hwg, hmo'⟩, .inl ⟨rfl, rfl, a₁, hrun, hoff, rfl, hS⟩⟩
        cases hmo with
        | opn h1 _ _ => exact h1.elim
        | reg _ h2 h3 => exact block rfl (.reg trivial h2 h3)
        | last L _ h2 h3 h4 => exact block rfl (.last L trivial h2 h3 h4)
        | sema h2 =>
          obtain ⟨g', hgo, hn⟩ := hy hwg
          exact ⟨g', _, _, .w4, hgo, C.dm0_wg E (aside_setCell w₁ (smA Wg) _) (fun e he => C.evM_bk E (bk_sem e he)), ⟨0, 0, hwg.setSm 0, .fin trivial h2⟩, .inr ⟨rfl, rfl, hn⟩⟩
        | fin h1 _ => exact h1.elim)
    rcases hn with ⟨rfl, rfl, a₁, hrun, hoff, rfl, hS⟩ | ⟨rfl, rfl, m, hn⟩
    · obtain ⟨N₂, gs₂, w₂, sl₂, T₂, q₂, ρ₂, hr₂, hsz₂, ha₂, hSR₂, C₂, hd₂, he₂, hlt⟩ := C'.sleep (sl := sl') E (by rw [hsz]; exact hN) (he.closed hclosed) hrun hoff ha'
      have hlt' : Lt2 (meas gs₂.size ρ₂ q₂) μ := by
        rw [hμ, hsz₂, hsz]
        rw [hsz] at hlt
        rcases hm with ⟨rfl, rfl⟩ | h
        · exact hlt
        · exact lt2_trans' hlt h
      obtain ⟨N₃, m', T', hr₃, hJ⟩ := ih _ hlt' (sl := sl₂) (n := 0) rfl (by rw [hsz₂, hsz]; exact hN) ((hD.evo he).evo he₂) ha₂ C₂ (he₂.closed (he.closed hclosed)) (by rw [hd₂, Deaf_own, hd]; rfl) (fun w₃ h₃ => hS w₃ (E.trans _ _ _ hSR₂ h₃))
      rw [hsz₂, hsz] at hJ
      exact ⟨N + (N₂ + N₃), m', T', runNT_then hr (runNT_then hr₂ hr₃), hJ⟩
    · obtain ⟨N', m', T', hr', hJ⟩ := w4_step (sl := sl') E (by rw [hsz]; exact hN) (hD.evo he) ha' C' (by rw [Deaf_own, hd]; rfl) hn
      rw [hsz] at hJ
      exact ⟨N + N', m', T', runNT_then hr hr', hJ⟩

theorem mode_kd {N : Nat} {ρ : Roles} {st sm : Int} (h : Go.ConcN.Mode N (stg ρ) .kd st sm) : OpenSt N (stg ρ) ∧ st = ((Vc N (stg ρ) : Nat) : Int) * KK ∧ sm = 0 := by
  cases h with
  | opn _ h2 _ => exact ⟨h2, by simp [pend], rfl⟩
  | reg h1 _ _ => exact h1.elim
  | last _ h1 _ _ _ => exact h1.elim
  | fin h1 _ => exact h1.elim
theorem mode_kd_of {N : Nat} {ρ : Roles} (h : OpenSt N (stg ρ)) : Go.ConcN.Mode N (stg ρ) .kd (((Vc N (stg ρ) : Nat) : Int) * KK) 0 := by
  have := Go.ConcN.Mode.opn (j := N) (D := stg ρ) (tag := .kd) trivial h (by simp)
  simpa [pend] using this

/-- ████ FROM THE HEAD OF Wait's LOOP TO ITS END. ████ -/
theorem wait_loop (E : Env ty Wg B Ch SR) (hanch : ∀ g w, Anch g w → ∃ m, Goes P true SR D (XW1 P ty Wg SR D Anch Next) m g w) : ∀ (μ : Nat × Nat) {ρ : Roles} {T : Trace} {gs : Array Goroutine} {w : World} {q : Nat → Nat} {n : Nat} {a : Goroutine} {sl : Option (Nat × Nat)}, μ = meas gs.size ρ q → gs.size + 1 < 2147483648 → Meek Wg B Shun ρ D → gs[0]? = some a → Hub P ty Wg B Shun Ch SR .kd ρ T gs w q →
    (∀ i s st, ρ i = some (s, st) → st ≠ .open) → Deaf T 0 = 1 → Goes P true SR D Anch n a w → ∃ N m' T', runNT P N (crowd gs w sl) T = (.next m', T') ∧ Joined P Shun B Next gs.size m' T' T' := by
  intro μ
  induction μ using (Prod.lex Nat.lt_wfRel Nat.lt_wfRel).wf.induction with
  | _ μ ih =>
    intro ρ T gs w q n a sl hμ hN hD ha C hclosed hd0 hG
    have hVb : ∀ ρ' : Roles, Vc gs.size (stg ρ') < 2147483648 := fun ρ' => by have := Go.ConcN.Vc_le gs.size (stg ρ'); omega
    obtain ⟨N₀, gs₀, a₀, w₀, sl₀, T₀, q₀, ρ₀, hr₀, hsz₀, ha₀, hS₀, C₀, hd₀, he₀, hm₀⟩ := C.hold_walk (sl := sl) E hN (by simp) hD ha hd0 hG
    obtain ⟨m₁, hG₁⟩ := hanch _ _ hS₀
    obtain ⟨N₁, gs₁, a₁, w₁, es, sl₁, T₁, fn, pos, q₁, ρ₁, tag', hr₁, hsz₁, ha₁, hn, C₁, hd₁, he₁, hm₁, _⟩ := C₀.go_step (sl := sl₀) E (by rw [hsz₀]; exact hN) (by simp) (hD.evo he₀) ha₀ hd₀ hG₁ (fun _ _ h => h.1)
      (Next := fun a' w' es tag' ρ' _ => es = #[rd (stA Wg)] ∧ ((tag' = .w4 ∧ ∃ m, Goes P true SR D (XKe P Wg SR D Next) m a' w') ∨ (tag' = .kd ∧ 1 ≤ Vc gs.size (stg ρ') ∧ ∃ m, Goes P true SR D (XW2 P ty Wg SR D Anch Next (Vc gs.size (stg ρ'))) m a' w'))) (fun b₁ v₁ ρ' q' hS hev hle hmode => by
        obtain ⟨_, hx⟩ := hS v₁ (E.refl _)
        obtain ⟨st, sm, hwg, hmo⟩ := hmode
        rw [hsz₀] at hmo
        obtain ⟨hop, rfl, rfl⟩ := mode_kd hmo
        obtain ⟨g', hgo, h0, h1⟩ := hx _ (hVb ρ') hwg
        have hdm := C₀.dm0_wg E (.refl Wg v₁) (es := #[rd (stA Wg)]) (fun e he => by simp at he; subst he; exact C₀.evM_bk E (bk_cell _ _ rfl))
        by_cases hv : Vc gs.size (stg ρ') = 0
        · refine ⟨g', v₁, _, .w4, hgo, hdm, ⟨0, 0, by rw [hv] at hwg; simpa using hwg, ?_⟩, rfl, .inl ⟨rfl, h0 hv⟩⟩
          rw [hsz₀]; exact .fin trivial (quit_of_zero hop hv)
        · exact ⟨g', v₁, _, .kd, hgo, hdm, ⟨_, _, hwg, by rw [hsz₀]; exact hmo⟩, rfl, .inr ⟨rfl, by omega, h1 hv⟩⟩)
    have hsz01 : gs₁.size = gs.size := hsz₁.trans hsz₀
    have hdeaf1 : Deaf (T₁ ++ MemOp.ofEvents 0 fn pos es) 0 = 1 := by
      rw [hn.1, Deaf_own, hd₁]; rfl
    rcases hn with ⟨rfl, ⟨rfl, m, hn⟩ | ⟨rfl, hv1, m, hn⟩⟩
    · obtain ⟨N', m', T', hr', hJ⟩ := ke_step (sl := sl₁) E (by rw [hsz01]; exact hN) ((hD.evo he₀).evo he₁) ha₁ C₁ hdeaf1 hn
      rw [hsz01] at hJ
      exact ⟨N₀ + (N₁ + N'), m', T', runNT_then hr₀ (runNT_then hr₁ hr'), hJ⟩
    · obtain ⟨N₂, gs₂, a₂, w₂, es₂, sl₂, T₂, fn₂, pos₂, q₂, ρ₂, tag₂, hr₂, hsz₂, ha₂, hn₂, C₂, hd₂, he₂, hm₂, _⟩ := C₁.go_step (sl := sl₁) E (by rw [hsz01]; exact hN) (by simp) ((hD.evo he₀).evo he₁) ha₁ hdeaf1 hn (fun _ _ h => h.1)
        (Next := fun a' w' es tag' ρ' _ => (es = #[rd (stA Wg), wr (stA Wg)] ∧ tag' = .w3 ∧ ∃ m, Goes P true SR D (XW3 P ty Wg SR D Next) m a' w') ∨ (es = #[rd (stA Wg)] ∧ tag' = .kd ∧ Vc gs.size (stg ρ') ≠ Vc gs.size (stg ρ₁) ∧ ∃ m, Goes P true SR D Anch m a' w')) (fun b₁ v₁ ρ' q' hS hev hle hmode => by
          obtain ⟨_, hx⟩ := hS v₁ (E.refl _)
          obtain ⟨st, sm, hwg, hmo⟩ := hmode
          rw [hsz01] at hmo
          obtain ⟨hop, rfl, rfl⟩ := mode_kd hmo
          obtain ⟨h0, h1⟩ := hx _ (hVb ρ') hwg
          by_cases hv : Vc gs.size (stg ρ') = Vc gs.size (stg ρ₁)
          · obtain ⟨g', hgo, hn⟩ := h0 hv
            refine ⟨g', _, _, .w3, hgo, C₁.dm0_wg E (aside_setCell v₁ (stA Wg) _) (fun e he => by simp at he; rcases he with rfl | rfl <;> exact C₁.evM_bk E (bk_cell _ _ rfl)), ⟨_, 0, hwg.setSt _, ?_⟩, .inl ⟨rfl, rfl, hn⟩⟩
            rw [hsz01]; exact .reg trivial hop (by omega)
          · obtain ⟨g', hgo, hn⟩ := h1 hv
            exact ⟨g', v₁, _, .kd, hgo, C₁.dm0_wg E (.refl Wg v₁) (fun e he => by simp at he; subst he; exact C₁.evM_bk E (bk_cell _ _ rfl)), ⟨_, _, hwg, by rw [hsz01]; exact hmo⟩, .inr ⟨rfl, rfl, hv, hn⟩⟩)
      have hsz02 : gs₂.size = gs.size := hsz₂.trans hsz01
      rcases hn₂ with ⟨rfl, rfl, m₂, hn₂⟩ | ⟨rfl, rfl, hv2, m₂, hn₂⟩
      · obtain ⟨N', m', T', hr', hJ⟩ := w3_step E _ (sl := sl₂) rfl (by rw [hsz02]; exact hN) (((hD.evo he₀).evo he₁).evo he₂) ha₂ C₂ ((he₀.trans (he₁.trans he₂)).closed hclosed) (by rw [Deaf_own, hd₂]; rfl) hn₂
        rw [hsz02] at hJ
        exact ⟨N₀ + (N₁ + (N₂ + N')), m', T', runNT_then hr₀ (runNT_then hr₁ (runNT_then hr₂ hr')), hJ⟩
      · have hlt : Lt2 (meas gs₂.size ρ₂ q₂) μ := by
          rw [hμ, hsz02]
          rw [hsz₀] at hm₁
          rw [hsz01] at hm₂
          rcases hm₂ with ⟨rfl, rfl⟩ | h
          · exact absurd rfl hv2
          · exact (hm₁.trans hm₀) |>.elim (fun ⟨h1, h2⟩ => by rw [← h1, ← h2]; exact h) (fun h' => lt2_trans' h h')
        obtain ⟨N', m', T', hr', hJ⟩ := ih _ hlt (sl := sl₂) rfl (by rw [hsz02]; exact hN) (((hD.evo he₀).evo he₁).evo he₂) ha₂ C₂ ((he₀.trans (he₁.trans he₂)).closed hclosed) (by rw [Deaf_own, hd₂]; rfl) hn₂
        rw [hsz02] at hJ
        exact ⟨N₀ + (N₁ + (N₂ + N')), m', T', runNT_then hr₀ (runNT_then hr₁ (runNT_then hr₂ hr')), hJ⟩
end
end Go.Proofs.Ytngnkdedfcnfkaa
