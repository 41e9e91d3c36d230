/-
  Jobs in flight: which are given, which answers are taken, who holds what.
-/
import Derived.Test.YtngnkdedfcnfkaaPrG
set_option linter.unusedSimpArgs false
set_option linter.unusedVariables false
namespace Go.Proofs.Ytngnkdedfcnfkaa
open Go Go.Conc
open Go.ConcN (sumTo upd upd_same upd_ne)

theorem sum_le (f : Nat → Nat) : ∀ N, (∀ i, i < N → f i ≤ 1) → sumTo N f ≤ N
  | 0, _ => by simp [sumTo]
  | N + 1, h => by
    have := sum_le f N (fun i hi => h i (by omega))
    have := h N (by omega)
    simp only [sumTo]; omega
theorem sum_full (f : Nat → Nat) : ∀ N, (∀ i, i < N → f i ≤ 1) → sumTo N f = N → ∀ i, i < N → f i = 1
  | 0, _, _, i, hi => by omega
  | N + 1, h, e, i, hi => by
    have h1 := sum_le f N (fun i hi => h i (by omega))
    have h2 := h N (by omega)
    simp only [sumTo] at e
    by_cases hiN : i = N
    · subst hiN; omega
    · exact sum_full f N (fun i hi => h i (by omega)) (by omega) i (by omega)
theorem sum_congr' {f g : Nat → Nat} : ∀ N, (∀ i, i < N → f i = g i) → sumTo N f = sumTo N g
  | 0, _ => rfl
  | N + 1, h => by simp only [sumTo]; rw [sum_congr' N (fun i hi => h i (by omega)), h N (by omega)]
theorem sum_one {f g : Nat → Nat} {x : Nat} : ∀ N, x < N → (∀ i, i < N → i ≠ x → f i = g i) → f x = g x + 1 → sumTo N f = sumTo N g + 1
  | 0, h, _, _ => by omega
  | N + 1, h, he, hx => by
    simp only [sumTo]
    by_cases e : x = N
    · subst e
      rw [sum_congr' x (fun i hi => he i (by omega) (by omega))]; omega
    · have := sum_one N (by omega) (fun i hi hne => he i (by omega) hne) hx
      have := he N (by omega) (by omega)
      omega

theorem goes_R {P : Program} {main : Bool} {R R' : World → World → Prop} {D : World → World → Array Event → Prop} {Stop : Goroutine → World → Prop} (hR : ∀ a b, R' a b → R a b) : ∀ {n : Nat} {g : Goroutine} {w : World}, Goes P main R D Stop n g w → Goes P main R' D Stop n g w
  | 0, _, _, h => fun w₁ h₁ => h w₁ (hR _ _ h₁)
  | n + 1, g, w, h => by
    rcases h with h | ⟨hs, h⟩
    · exact .inl fun w₁ h₁ => h w₁ (hR _ _ h₁)
    · refine .inr ⟨hs, fun w₁ h₁ => ?_⟩
      have := h w₁ (hR _ _ h₁)
      revert this
      cases stepG P main g w₁ <;> simp only [GStep.goes, imp_self]
      exact fun ⟨d, x⟩ => ⟨d, goes_R hR x⟩
theorem goes_inv {P : Program} {main : Bool} {R : World → World → Prop} {D : World → World → Array Event → Prop} {Stop : Goroutine → World → Prop} {I : World → Prop} (hr : ∀ a b, I a → R a b → I b) (hd : ∀ a b es, I a → D a b es → I b) : ∀ {n : Nat} {g : Goroutine} {w : World}, I w → Goes P main R D Stop n g w → Goes P main R D (fun g w => Stop g w ∧ I w) n g w
  | 0, _, _, i, h => fun w₁ h₁ => ⟨h w₁ h₁, hr _ _ i h₁⟩
  | n + 1, g, w, i, h => by
    rcases h with h | ⟨hs, h⟩
    · exact .inl fun w₁ h₁ => ⟨h w₁ h₁, hr _ _ i h₁⟩
    · refine .inr ⟨hs, fun w₁ h₁ => ?_⟩
      have := h w₁ h₁
      revert this
      cases stepG P main g w₁ <;> simp only [GStep.goes, imp_self]
      exact fun ⟨d, x⟩ => ⟨d, goes_inv hr hd (hd _ _ _ (hr _ _ i h₁) d) x⟩
/-- g jobs are given, t answers are taken; worker j stands at its desk, so many jobs done by it (false, d), or holds a job (true, x) -/
structure Fly (n J g t : Nat) (pos : Nat → Bool × Nat) (dn : Nat → Bool) : Prop where
  gJ : g ≤ J
  busy : ∀ j x, j < n → pos j = (true, x) → x < g ∧ dn x = false
  cov : ∀ x, x < g → dn x = true ∨ ∃ j, j < n ∧ pos j = (true, x)
  inj : ∀ j j' x, j < n → j' < n → pos j = (true, x) → pos j' = (true, x) → j = j'
  lt : ∀ x, dn x = true → x < g
  cnt : t = sumTo J (fun x => if dn x then 1 else 0)
  one : n = 1 → pos 0 = (false, g) ∨ (0 < g ∧ pos 0 = (true, g - 1))

section
variable {n J g t : Nat} {pos : Nat → Bool × Nat} {dn : Nat → Bool}
theorem Fly.start (n J : Nat) : Fly n J 0 0 (fun _ => (false, 0)) (fun _ => false) :=
  ⟨Nat.zero_le _, fun j x _ h => by simp at h, fun x hx => by omega, fun j j' x _ _ h => by simp at h, fun x h => by simp at h, by
    have : ∀ N, sumTo N (fun _ => if false = true then 1 else 0) = 0 := fun N => by
      induction N with
      | zero => rfl
      | succ N ih => simp only [sumTo]; rw [ih]; rfl
    exact (this J).symm, fun _ => .inl rfl⟩
theorem Fly.give (F : Fly n J g t pos dn) (hg : g < J) {j d : Nat} (hj : j < n) (hp : pos j = (false, d)) : Fly n J (g + 1) t (upd pos j (true, g)) dn := by
  refine ⟨by omega, fun i x hi h => ?_, fun x hx => ?_, fun i i' x hi hi' h h' => ?_, fun x h => by have := F.lt x h; omega, F.cnt, fun h1 => ?_⟩
  · by_cases e : i = j
    · subst e; rw [upd_same] at h
      obtain rfl := (Prod.mk.inj h).2
      refine ⟨by omega, ?_⟩
      cases hd : dn g with
      | false => rfl
      | true => have := F.lt g hd; omega
    · rw [upd_ne pos _ e] at h
      have := F.busy i x hi h
      exact ⟨by omega, this.2⟩
  · by_cases e : x = g
    · subst e; exact .inr ⟨j, hj, upd_same _ _ _⟩
    · rcases F.cov x (by omega) with h | ⟨i, hi, h⟩
      · exact .inl h
      · refine .inr ⟨i, hi, ?_⟩
        have : i ≠ j := fun e => by subst e; rw [hp] at h; simp at h
        rw [upd_ne pos _ this]; exact h
  · by_cases e : i = j <;> by_cases e' : i' = j
    · omega
    · subst e; rw [upd_same] at h; rw [upd_ne pos _ e'] at h'
      obtain rfl := (Prod.mk.inj h).2
      have := F.busy i' _ hi' h'; omega
    · subst e'; rw [upd_same] at h'; rw [upd_ne pos _ e] at h
      obtain rfl := (Prod.mk.inj h').2
      have := F.busy i _ hi h; omega
    · rw [upd_ne pos _ e] at h; rw [upd_ne pos _ e'] at h'
      exact F.inj i i' x hi hi' h h'
  · obtain rfl : j = 0 := by omega
    exact .inr ⟨by omega, upd_same _ _ _⟩
theorem Fly.take (F : Fly n J g t pos dn) {j x : Nat} (hj : j < n) (hp : pos j = (true, x)) : Fly n J g (t + 1) (upd pos j (false, x + 1)) (upd dn x true) := by
  obtain ⟨hx, hd⟩ := F.busy j x hj hp
  refine ⟨F.gJ, fun i y hi h => ?_, fun y hy => ?_, fun i i' y hi hi' h h' => ?_, fun y h => ?_, ?_, fun h1 => ?_⟩
  · have e : i ≠ j := fun e => by subst e; rw [upd_same] at h; simp at h
    rw [upd_ne pos _ e] at h
    have := F.busy i y hi h
    have hne : y ≠ x := fun e' => by subst e'; exact e (F.inj i j y hi hj h hp)
    exact ⟨this.1, by rw [upd_ne dn _ hne]; exact this.2⟩
  · by_cases e : y = x
    · subst e; exact .inl (upd_same _ _ _)
    · rcases F.cov y hy with h | ⟨i, hi, h⟩
      · exact .inl (by rw [upd_ne dn _ e]; exact h)
      · have : i ≠ j := fun e' => by subst e'; rw [hp] at h; exact e (Prod.mk.inj h).2.symm
        exact .inr ⟨i, hi, by rw [upd_ne pos _ this]; exact h⟩
  · have e : i ≠ j := fun e => by subst e; rw [upd_same] at h; simp at h
    have e' : i' ≠ j := fun e => by subst e; rw [upd_same] at h'; simp at h'
    rw [upd_ne pos _ e] at h; rw [upd_ne pos _ e'] at h'
    exact F.inj i i' y hi hi' h h'
  · by_cases e : y = x
    · subst e; exact hx
    · rw [upd_ne dn _ e] at h; exact F.lt y h
  · rw [F.cnt]
    refine (sum_one J (x := x) (by have := F.gJ; omega) (fun i hi hne => ?_) ?_).symm
    · rw [upd_ne dn _ hne]
    · rw [upd_same, hd]; rfl
  · obtain rfl : j = 0 := by omega
    rcases F.one h1 with h | ⟨h0, h⟩
    · rw [hp] at h; simp at h
    · rw [hp] at h
      obtain rfl := (Prod.mk.inj h).2
      exact .inl (by rw [upd_same]; congr 1; omega)
theorem Fly.tJ (F : Fly n J g t pos dn) : t ≤ J := by
  rw [F.cnt]; exact sum_le _ J (fun i _ => by split <;> omega)
theorem Fly.some_busy (F : Fly n J J t pos dn) (ht : t < J) : ∃ j x, j < n ∧ pos j = (true, x) := by
  by_cases h : ∃ j x, j < n ∧ pos j = (true, x)
  · exact h
  · exfalso
    have hall : ∀ x, x < J → dn x = true := fun x hx => (F.cov x hx).resolve_right (fun ⟨j, hj, hp⟩ => h ⟨j, x, hj, hp⟩)
    have : sumTo J (fun x => if dn x then 1 else 0) = J := by
      rw [sum_congr' (g := fun _ => 1) J (fun i hi => by rw [hall i hi]; rfl)]
      have : ∀ N, sumTo N (fun _ => 1) = N := fun N => by
        induction N with
        | zero => rfl
        | succ N ih => simp only [sumTo]; omega
      exact this J
    have := F.cnt
    omega
theorem Fly.over (F : Fly n J g J pos dn) : g = J ∧ (∀ x, x < J → dn x = true) ∧ ∀ j, j < n → (pos j).1 = false := by
  have hall : ∀ x, x < J → dn x = true := fun x hx => by
    have this : (if dn x = true then 1 else 0) = 1 := sum_full (fun x => if dn x then 1 else 0) J (fun i _ => by show (if dn i = true then 1 else 0) ≤ 1; split <;> omega) F.cnt.symm x hx
    split at this
    · assumption
    · omega
  have hg : g = J := by
    have h1 := F.gJ
    rcases Nat.eq_zero_or_pos J with h | h
    · omega
    · have := F.lt (J - 1) (hall _ (by omega)); omega
  refine ⟨hg, hall, fun j hj => ?_⟩
  cases hp : pos j with
  | mk b x =>
    cases b with
    | false => rfl
    | true =>
      have := F.busy j x hj hp
      rw [hall x (by omega)] at this
      simp at this
end
end Go.Proofs.Ytngnkdedfcnfkaa
