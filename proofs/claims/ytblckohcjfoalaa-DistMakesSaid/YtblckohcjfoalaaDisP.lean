/-
  The plain law of the alias table: what the filling of the slots keeps.
-/
import Derived.Test.YtblckohcjfoalaaDisB
namespace Go.Proofs.Ytblckohcjfoalaa

def upd (f : Nat → Int) (k : Nat) (v : Int) : Nat → Int := fun j => if j = k then v else f j

theorem upd_same (f : Nat → Int) (k : Nat) (v : Int) : upd f k v k = v := by simp [upd]
theorem upd_other {f : Nat → Int} {k j : Nat} {v : Int} (h : j ≠ k) : upd f k v j = f j := by simp [upd, h]

/-- a slot is laid: from k on, three numbers -/
def put3 (sl : Nat → Int) (s : Nat) (x y z : Int) : Nat → Int := upd (upd (upd sl (3 * s) x) (3 * s + 1) y) (3 * s + 2) z

theorem put3_0 (sl : Nat → Int) (s : Nat) (x y z : Int) : put3 sl s x y z (3 * s) = x := by simp [put3, upd]
theorem put3_1 (sl : Nat → Int) (s : Nat) (x y z : Int) : put3 sl s x y z (3 * s + 1) = y := by simp [put3, upd]
theorem put3_2 (sl : Nat → Int) (s : Nat) (x y z : Int) : put3 sl s x y z (3 * s + 2) = z := by simp [put3, upd]
theorem put3_other {sl : Nat → Int} {s t : Nat} {x y z : Int} (h : t ≠ s) : put3 sl s x y z (3 * t) = sl (3 * t) ∧ put3 sl s x y z (3 * t + 1) = sl (3 * t + 1) ∧ put3 sl s x y z (3 * t + 2) = sl (3 * t + 2) := by
  refine ⟨?_, ?_, ?_⟩ <;> (unfold put3 upd; repeat rw [if_neg (by omega)])

theorem pre_upd {h h' : Nat → Int} {k : Nat} (he : ∀ j, j ≠ k → h' j = h j) : ∀ n, k < n → pre h' n = pre h n + (h' k - h k)
  | 0, hk => by omega
  | n + 1, hk => by
    show pre h' n + h' n = pre h n + h n + (h' k - h k)
    by_cases e : n = k
    · subst e
      rw [pre_congr n (fun j hj => he j (by omega))]
      omega
    · rw [pre_upd he n (by omega), he n e]
      omega

theorem pre_le_zero {h : Nat → Int} : ∀ (n : Nat), (∀ j, j < n → h j ≤ 0) → pre h n ≤ 0 ∧ ∀ k, k < n → h k < 0 → pre h n < 0
  | 0, _ => ⟨Int.le_refl _, fun k hk => absurd hk (Nat.not_lt_zero _)⟩
  | n + 1, hl => by
    obtain ⟨a, b⟩ := pre_le_zero n (fun j hj => hl j (by omega))
    have c := hl n (by omega)
    refine ⟨by show pre h n + h n ≤ 0; omega, fun k hk hk2 => ?_⟩
    show pre h n + h n < 0
    by_cases e : k = n
    · subst e; omega
    · have := b k (by omega) hk2; omega

theorem pre_ge_zero {h : Nat → Int} : ∀ (n : Nat), (∀ j, j < n → 0 ≤ h j) → pre h n = 0 → ∀ k, k < n → h k = 0
  | 0, _, _, k, hk => absurd hk (Nat.not_lt_zero _)
  | n + 1, hl, h0, k, hk => by
    have a := pre_nonneg (fun j hj => hl j (by omega)) n (Nat.le_refl n)
    have b := hl n (by omega)
    have e : pre h n + h n = 0 := h0
    by_cases e2 : k = n
    · subst e2; omega
    · exact pre_ge_zero n (fun j hj => hl j (by omega)) (by omega) k (by omega)

/-- what slot s gives to thing i -/
def gives (T : Int) (sl : Nat → Int) (s i : Nat) : Int := (if sl (3 * s + 1) = i then sl (3 * s) else 0) + (if sl (3 * s + 2) = i then T - sl (3 * s) else 0)

theorem gives_put (T : Int) (sl : Nat → Int) (s i : Nat) (x y z : Int) : gives T (put3 sl s x y z) s i = (if y = i then x else 0) + (if z = i then T - x else 0) := by
  unfold gives
  rw [put3_0, put3_1, put3_2]

theorem gives_put_other (T : Int) {sl : Nat → Int} {s t : Nat} (i : Nat) {x y z : Int} (h : t ≠ s) : gives T (put3 sl s x y z) t i = gives T sl t i := by
  obtain ⟨a, b, c⟩ := put3_other (sl := sl) (x := x) (y := y) (z := z) h
  unfold gives
  rw [a, b, c]

/-- the accounts: which things still wait, what is left of them, what the laid slots give -/
structure Acc (n : Nat) (T : Int) (f : Nat → Int) (L : Nat → Bool) (r sl : Nat → Int) : Prop where
  bal : pre (fun s => if L s then r s - T else 0) n = 0
  acc : ∀ i, i < n → pre (fun s => if L s then 0 else gives T sl s i) n + (if L i then r i else 0) = f i * n
  fit : ∀ s, s < n → L s = false → 0 ≤ sl (3 * s) ∧ sl (3 * s) ≤ T ∧ (0 ≤ sl (3 * s + 1) ∧ sl (3 * s + 1) < n) ∧ (0 ≤ sl (3 * s + 2) ∧ sl (3 * s + 2) < n)

def off (L : Nat → Bool) (s : Nat) : Nat → Bool := fun j => if j = s then false else L j

/-- one round: slot s takes what is left of s, and of g the rest -/
theorem Acc.round {n : Nat} {T : Int} {f : Nat → Int} {L : Nat → Bool} {r sl : Nat → Int} (h : Acc n T f L r sl) {s g : Nat} (hs : s < n) (hg : g < n) (hsg : s ≠ g) (Ls : L s = true) (Lg : L g = true) (r0 : 0 ≤ r s) (r1 : r s ≤ T) :
    Acc n T f (off L s) (upd r g (r g - (T - r s))) (put3 sl s (r s) s g) := by
  have og : off L s g = true := by unfold off; rw [if_neg (by omega)]; exact Lg
  have os : off L s s = false := by unfold off; rw [if_pos rfl]
  refine ⟨?_, ?_, ?_⟩
  · have e1 := pre_upd (h := fun t => if L t then r t - T else 0) (h' := fun t => if L t then upd r g (r g - (T - r s)) t - T else 0) (k := g) (fun j hj => by simp only [upd_other hj]) n hg
    have e2 := pre_upd (h := fun t => if L t then upd r g (r g - (T - r s)) t - T else 0) (h' := fun t => if off L s t then upd r g (r g - (T - r s)) t - T else 0) (k := s) (fun j hj => by simp only [off, if_neg hj]) n hs
    simp only [Lg, if_true, upd_same] at e1
    simp only [os, Ls, if_true, upd_other hsg, Bool.false_eq_true, if_false] at e2
    rw [e2, e1, h.bal]
    omega
  · intro i hi
    have e := pre_upd (h := fun t => if L t then 0 else gives T sl t i) (h' := fun t => if off L s t then 0 else gives T (put3 sl s (r s) s g) t i) (k := s) (fun j hj => by simp only [off, if_neg hj, gives_put_other T i hj]) n hs
    have h1 := h.acc i hi
    simp only [os, Ls, if_true, Bool.false_eq_true, if_false, gives_put] at e
    rw [e]
    by_cases his : i = s
    · subst his
      have hgs : ¬ ((g : Int) = i) := by omega
      rw [if_pos rfl, if_neg hgs, os]
      rw [Ls] at h1
      simp only [if_true] at h1
      simp
      omega
    · have n1 : ¬ ((s : Int) = i) := by omega
      have e3 : off L s i = L i := by unfold off; rw [if_neg his]
      rw [if_neg n1, e3]
      by_cases hig : i = g
      · subst hig
        rw [Lg] at h1 ⊢
        simp only [if_true, upd_same] at h1 ⊢
        omega
      · have n2 : ¬ ((g : Int) = i) := by omega
        rw [if_neg n2, upd_other hig]
        omega
  · intro t ht hL
    by_cases hts : t = s
    · subst hts
      rw [put3_0, put3_1, put3_2]
      omega
    · obtain ⟨a, b, c⟩ := put3_other (sl := sl) (x := r s) (y := s) (z := g) hts
      rw [a, b, c]
      have : off L s t = L t := by unfold off; rw [if_neg hts]
      exact h.fit t ht (by rw [← this]; exact hL)

/-- at the end: what is left of g is one slot -/
theorem Acc.last {n : Nat} {T : Int} {f : Nat → Int} {L : Nat → Bool} {r sl : Nat → Int} (h : Acc n T f L r sl) {g : Nat} (hg : g < n) (Lg : L g = true) (hr : r g = T) (hT : 0 ≤ T) :
    Acc n T f (off L g) r (put3 sl g T g g) := by
  have og : off L g g = false := by unfold off; rw [if_pos rfl]
  refine ⟨?_, ?_, ?_⟩
  · have e2 := pre_upd (h := fun t => if L t then r t - T else 0) (h' := fun t => if off L g t then r t - T else 0) (k := g) (fun j hj => by simp only [off, if_neg hj]) n hg
    simp only [og, Lg, if_true, Bool.false_eq_true, if_false] at e2
    rw [e2, h.bal]
    omega
  · intro i hi
    have e := pre_upd (h := fun t => if L t then 0 else gives T sl t i) (h' := fun t => if off L g t then 0 else gives T (put3 sl g T g g) t i) (k := g) (fun j hj => by simp only [off, if_neg hj, gives_put_other T i hj]) n hg
    have h1 := h.acc i hi
    simp only [og, Lg, if_true, Bool.false_eq_true, if_false, gives_put] at e
    rw [e]
    by_cases hig : i = g
    · subst hig
      rw [Lg] at h1
      rw [og]
      simp only [if_true] at h1 ⊢
      simp
      omega
    · have n2 : ¬ ((g : Int) = i) := by omega
      have e3 : off L g i = L i := by unfold off; rw [if_neg hig]
      rw [if_neg n2, if_neg n2, e3]
      omega
  · intro t ht hL
    by_cases hts : t = g
    · subst hts
      rw [put3_0, put3_1, put3_2]
      omega
    · obtain ⟨a, b, c⟩ := put3_other (sl := sl) (x := T) (y := g) (z := g) hts
      rw [a, b, c]
      have : off L g t = L t := by unfold off; rw [if_neg hts]
      exact h.fit t ht (by rw [← this]; exact hL)

end Go.Proofs.Ytblckohcjfoalaa
