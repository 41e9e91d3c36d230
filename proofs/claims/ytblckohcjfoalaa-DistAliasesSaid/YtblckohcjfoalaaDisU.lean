/-
  The walk of DistAliases, and the count of places.
-/
import Derived.Test.YtblckohcjfoalaaDisT
namespace Go.Proofs.Ytblckohcjfoalaa
open Go.RowKit

/-- the thing at place m of slot s -/
def placeOf (sl : Nat → Int) (s : Nat) (m : Int) : Int := if m < sl (3 * s) then sl (3 * s + 1) else sl (3 * s + 2)

def clip (c : Int) : Int := if c < 0 then 0 else c
theorem clip_nn (c : Int) : 0 ≤ clip c := by unfold clip; split <;> omega
theorem clip_id {c : Int} (h : 0 ≤ c) : clip c = c := by unfold clip; rw [if_neg (by omega)]

/-- how many of m places lie below c -/
def low (c m : Int) : Int := if m < c then m else c

/-- how many of the first m places of slot s are thing i's -/
def part (sl : Nat → Int) (s : Nat) (m : Int) (i : Nat) : Int := (if sl (3 * s + 1) = i then low (clip (sl (3 * s))) m else 0) + (if sl (3 * s + 2) = i then m - low (clip (sl (3 * s))) m else 0)

/-- how many places up to place m of slot s are thing i's -/
def cnt (T : Int) (sl : Nat → Int) (s : Nat) (m : Int) (i : Nat) : Int := pre (fun t => gives T sl t i) s + part sl s m i

theorem low_zero {c : Int} (h : 0 ≤ c) : low c 0 = 0 := by unfold low; split <;> omega
theorem low_step {c m : Int} : low c (m + 1) = low c m + (if m < c then 1 else 0) := by unfold low; split <;> split <;> omega
theorem low_full {c T : Int} (h : c ≤ T) : low c T = c := by unfold low; split <;> omega
theorem low_bound {c m : Int} (h : 0 ≤ c) (hm : 0 ≤ m) : 0 ≤ low c m ∧ low c m ≤ m := by unfold low; split <;> omega

section
variable {T : Int} {sl : Nat → Int} {s : Nat} {m : Int} {i : Nat}

theorem part_zero : part sl s 0 i = 0 := by
  unfold part
  rw [low_zero (clip_nn _)]
  split <;> split <;> omega

theorem cnt_zero : cnt T sl s 0 i = pre (fun t => gives T sl t i) s := by
  unfold cnt
  rw [part_zero]
  omega

theorem cnt_step (hc : 0 ≤ sl (3 * s)) : cnt T sl s (m + 1) i = cnt T sl s m i + (if placeOf sl s m = i then 1 else 0) := by
  unfold cnt part placeOf
  rw [low_step, clip_id hc]
  generalize sl (3 * s) = c at *
  generalize sl (3 * s + 1) = x at *
  generalize sl (3 * s + 2) = y at *
  generalize pre (fun t => gives T sl t i) s = p
  generalize low c m = l
  by_cases h1 : m < c
  · simp only [if_pos h1]
    split <;> split <;> omega
  · simp only [if_neg h1]
    split <;> split <;> omega

theorem cnt_full (h0 : 0 ≤ sl (3 * s)) (h : sl (3 * s) ≤ T) : cnt T sl s T i = pre (fun t => gives T sl t i) (s + 1) := by
  show _ = pre (fun t => gives T sl t i) s + gives T sl s i
  unfold cnt part gives
  rw [clip_id h0, low_full h]

theorem part_bound (h : 0 ≤ m) : 0 ≤ part sl s m i ∧ part sl s m i ≤ m := by
  unfold part
  obtain ⟨h1, h2⟩ := low_bound (clip_nn (sl (3 * s))) h
  generalize low (clip (sl (3 * s))) m = l at *
  split <;> split <;> omega
end

theorem gives_bound {T : Int} {sl : Nat → Int} {s i : Nat} (h0 : 0 ≤ sl (3 * s)) (h1 : sl (3 * s) ≤ T) : 0 ≤ gives T sl s i ∧ gives T sl s i ≤ T := by
  unfold gives
  split <;> split <;> omega

theorem pre_bound {g : Nat → Int} {T : Int} : ∀ (s : Nat), (∀ t, t < s → 0 ≤ g t ∧ g t ≤ T) → 0 ≤ pre g s ∧ pre g s ≤ s * T
  | 0, _ => by show (0 : Int) ≤ 0 ∧ (0 : Int) ≤ (0 : Nat) * T; simp
  | s + 1, h => by
    have h1 := pre_bound s (fun t ht => h t (by omega))
    have h2 := h s (by omega)
    show 0 ≤ pre g s + g s ∧ pre g s + g s ≤ ((s + 1 : Nat) : Int) * T
    rw [Int.natCast_add, Int.add_mul]
    simp
    omega

theorem cnt_all {n : Nat} {T : Int} {f r sl : Nat → Int} (h : Acc n T f (fun _ => false) r sl) {i : Nat} (hi : i < n) : pre (fun t => gives T sl t i) n = f i * n := by
  have := h.acc i hi
  simpa using this

/-- where the counting stands -/
def Where (n : Nat) (T : Int) (s : Nat) (m p : Int) : Prop := p = s * T + m ∧ ((s < n ∧ 0 ≤ m ∧ m < T) ∨ (s = n ∧ m = 0))

theorem Where.bounds {n : Nat} {T m p : Int} {s : Nat} (h : Where n T s m p) (hT : 0 < T) : 0 ≤ p ∧ p ≤ n * T ∧ (p < n * T → s < n ∧ 0 ≤ m ∧ m < T) := by
  obtain ⟨hp, h1 | h1⟩ := h
  · have h2 : 0 ≤ (s : Int) * T := Int.mul_nonneg (by omega) (by omega)
    have h3 := Int.mul_le_mul_of_nonneg_right (show (s : Int) + 1 ≤ n by omega) (show 0 ≤ T by omega)
    rw [Int.add_mul, Int.one_mul] at h3
    exact ⟨by omega, by omega, fun _ => h1⟩
  · obtain ⟨rfl, rfl⟩ := h1
    have h2 : 0 ≤ (s : Int) * T := Int.mul_nonneg (by omega) (by omega)
    exact ⟨by omega, by omega, fun h => by omega⟩

theorem Where.next {n : Nat} {T m p : Int} {s : Nat} (h : Where n T s m p) (hs : s < n) (m0 : 0 ≤ m) (m1 : m < T) : (m + 1 < T ∧ Where n T s (m + 1) (p + 1)) ∨ (m + 1 = T ∧ Where n T (s + 1) 0 (p + 1)) := by
  have hp := h.1
  by_cases h1 : m + 1 < T
  · exact .inl ⟨h1, by omega, .inl ⟨hs, by omega, h1⟩⟩
  · refine .inr ⟨by omega, ?_, ?_⟩
    · rw [Int.natCast_add, Int.add_mul]
      simp
      omega
    · by_cases h2 : s + 1 < n
      · exact .inl ⟨h2, by omega, by omega⟩
      · exact .inr ⟨by omega, rfl⟩

/-- the counts in memory -/
def Got (wr : World) (gb n : Nat) (T : Int) (sl : Nat → Int) (s : Nat) (m : Int) : Prop := Fun wr gb 3 n (fun j => .int .i64 (cnt T sl s m j))

theorem Fun.as {w : World} {g : Nat} {t : TypeId} {n : Nat} {f f' : Nat → Value} (h : Fun w g t n f) (e : ∀ j, j < n → f j = f' j) : Fun w g t n f' := by
  obtain ⟨cs, h1, h2, h3⟩ := h
  exact ⟨cs, h1, h2, fun j hj => by rw [h3 j hj, e j hj]⟩

/-- one place more -/
theorem Got.step {wr : World} {gb n : Nat} {T m p : Int} {sl f r : Nat → Int} {s t : Nat} (h : Got wr gb n T sl s m) (ha : Acc n T f (fun _ => false) r sl) (hw : Where n T s m p) (hs : s < n) (m0 : 0 ≤ m) (m1 : m < T) (ht : t < n) (he : placeOf sl s m = t) :
    ∃ s' m', Where n T s' m' (p + 1) ∧ Got (wr.setCell ⟨gb, t, none⟩ (.int .i64 (cnt T sl s m t + 1))) gb n T sl s' m' := by
  have h1 : Got (wr.setCell ⟨gb, t, none⟩ (.int .i64 (cnt T sl s m t + 1))) gb n T sl s (m + 1) := by
    refine Fun.stored h ht ?_ (fun j _ hj => ?_)
    · show Value.int .i64 (cnt T sl s (m + 1) t) = _
      rw [cnt_step (ha.fit s hs rfl).1, he, if_pos rfl]
    · show Value.int .i64 (cnt T sl s (m + 1) j) = Value.int .i64 (cnt T sl s m j)
      rw [cnt_step (ha.fit s hs rfl).1, he, if_neg (by omega), Int.add_zero]
  rcases hw.next hs m0 m1 with ⟨h2, h3⟩ | ⟨h2, h3⟩
  · exact ⟨s, m + 1, h3, h1⟩
  · refine ⟨s + 1, 0, h3, Fun.as h1 (fun j hj => ?_)⟩
    show Value.int .i64 (cnt T sl s (m + 1) j) = Value.int .i64 (cnt T sl (s + 1) 0 j)
    have hf := ha.fit s hs rfl
    rw [cnt_zero, h2, cnt_full hf.1 hf.2.1]

end Go.Proofs.Ytblckohcjfoalaa
