/-
  The contracts of a table's questions at one kind of things (S).
-/
import Derived.Test.YtblckohcjfoalaaDisB
namespace Go.Proofs.Ytblckohcjfoalaa
open Go.RowKit

section
variable {w : World} {b bi be bs ci ce n : Nat} {it : Nat → Value} {f sl : Nat → Int}

set_option maxHeartbeats 400000 in
theorem len_S (h : IsTab w 59 9 b bi be bs ci ce n it f sl) :
    Calls Try.prog 23 #[.pointer (some ⟨b, 0, none⟩)] w fun e w' => e = .returned (.int .i64 n) ∧ w' = w := by
  obtain ⟨c0, c1, c2⟩ := h.cells
  clear h
  go_enter Try.func23, Try.ntmps23
  go_wp2
  go_ret
  exact ⟨rfl, rfl⟩

set_option maxHeartbeats 400000 in
theorem totalC_S (c1 : w.cell? ⟨b, 1, none⟩ = some (.slice (some ⟨be, 0, none⟩) n ce)) (he : Fun w be 3 n (fun j => .int .i64 (pre f (j + 1)))) (h1 : 1 ≤ n) (h2 : n ≤ 4096) :
    Calls Try.prog 24 #[.pointer (some ⟨b, 0, none⟩)] w fun e w' => e = .returned (.int .i64 (pre f n)) ∧ ∃ q, w' = w.drewN q := by
  have ce := he.cell (n - 1) (by omega)
  obtain ⟨m, rfl⟩ : ∃ m, n = m + 1 := ⟨n - 1, by omega⟩
  rw [show m + 1 - 1 = m by omega] at ce
  generalize hS : pre f (m + 1) = S at *
  clear he hS
  go_enter Try.func24, Try.ntmps24
  go_wp2_with fail
  go_quiet (fail)
  go_wp2
  go_ret
  exact ⟨rfl, _, rfl⟩

set_option maxHeartbeats 400000 in
theorem weightC_S (c1 : w.cell? ⟨b, 1, none⟩ = some (.slice (some ⟨be, 0, none⟩) n ce)) (he : Fun w be 3 n (fun j => .int .i64 (pre f (j + 1)))) (i : Nat) (hi : i < n) (h2 : n ≤ 4096) (g : Good n f) :
    Calls Try.prog 25 #[.pointer (some ⟨b, 0, none⟩), .int .i64 i] w fun e w' => e = .returned (.int .i64 (f i)) ∧ ∃ q, w' = w.drewN q := by
  have hf := g.no i hi
  have hm := pre_mono g.no (i + 1) n (by omega) (Nat.le_refl _)
  have hm0 := pre_nonneg g.no i (by omega)
  have hmost := g.most
  have hs : pre f (i + 1) = pre f i + f i := rfl
  cases i with
  | zero =>
    have e0 := he.cell 0 hi
    have h0 : pre f (0 + 1) = f 0 := by show 0 + f 0 = f 0; omega
    rw [h0] at e0
    clear he g hs hm hm0 h0
    go_enter Try.func25, Try.ntmps25
    go_wp2
    go_ret
    exact ⟨rfl, 0, rfl⟩
  | succ i =>
    have e0 := he.cell (i + 1) hi
    have e1 := he.cell i (by omega)
    generalize f (i + 1) = x at *
    generalize pre f (i + 1 + 1) = y at *
    generalize pre f (i + 1) = z at *
    have hyz : wrap64 (y - z) = x := by unfold wrap64; omega
    have hyz2 : IntKind.i64.wrap (y - z) = x := by rw [IntKind.wrap_i64]; omega
    clear he g hs
    go_enter Try.func25, Try.ntmps25
    go_wp2_with fail
    go_quiet (fail)
    go_wp2
    go_ret
    exact ⟨rfl, _, rfl⟩

theorem total_S (h : IsTab w 59 9 b bi be bs ci ce n it f sl) (h1 : 1 ≤ n) (h2 : n ≤ 4096) :
    Calls Try.prog 24 #[.pointer (some ⟨b, 0, none⟩)] w fun e w' => e = .returned (.int .i64 (pre f n)) ∧ ∃ q, w' = w.drewN q := totalC_S h.cells.2.1 h.ends h1 h2

theorem weight_in_S (h : IsTab w 59 9 b bi be bs ci ce n it f sl) (i : Nat) (hi : i < n) (h2 : n ≤ 4096) (g : Good n f) :
    Calls Try.prog 25 #[.pointer (some ⟨b, 0, none⟩), .int .i64 i] w fun e w' => e = .returned (.int .i64 (f i)) ∧ ∃ q, w' = w.drewN q := weightC_S h.cells.2.1 h.ends i hi h2 g

set_option maxHeartbeats 400000 in
theorem weight_out_S (h : IsTab w 59 9 b bi be bs ci ce n it f sl) (i : Int) (hi : ¬ (0 ≤ i ∧ i < n)) :
    Calls Try.prog 25 #[.pointer (some ⟨b, 0, none⟩), .int .i64 i] w fun e w' => e = .returned (.int .i64 0) ∧ w' = w := by
  obtain ⟨c0, c1, c2⟩ := h.cells
  clear h
  by_cases h0 : 0 ≤ i
  · have h1 : ¬ i < n := fun h1 => hi ⟨h0, h1⟩
    clear hi
    go_enter Try.func25, Try.ntmps25
    go_wp2
    go_ret
    exact ⟨rfl, rfl⟩
  · clear hi
    go_enter Try.func25, Try.ntmps25
    go_wp2
    go_ret
    exact ⟨rfl, rfl⟩

set_option maxHeartbeats 400000 in
theorem item_in_S (h : IsTab w 59 9 b bi be bs ci ce n it f sl) (i : Nat) (hi : i < n) :
    Calls Try.prog 22 #[.pointer (some ⟨b, 0, none⟩), .int .i64 i] w fun e w' => e = .returned (.tuple #[it i, .bool true]) ∧ w' = w := by
  obtain ⟨c0, c1, c2⟩ := h.cells
  have e0 := h.items.cell i hi
  generalize it i = v at *
  clear h
  go_enter Try.func22, Try.ntmps22
  go_wp2
  go_ret2
  exact ⟨rfl, rfl⟩

set_option maxHeartbeats 400000 in
theorem item_out_S (h : IsTab w 59 9 b bi be bs ci ce n it f sl) (i : Int) (hi : ¬ (0 ≤ i ∧ i < n)) :
    Calls Try.prog 22 #[.pointer (some ⟨b, 0, none⟩), .int .i64 i] w fun e w' => e = .returned (.tuple #[(.string ByteArray.empty), .bool false]) ∧ w' = w := by
  obtain ⟨c0, c1, c2⟩ := h.cells
  clear h
  by_cases h0 : 0 ≤ i
  · have h1 : ¬ i < n := fun h1 => hi ⟨h0, h1⟩
    clear hi
    go_enter Try.func22, Try.ntmps22
    go_wp2
    go_ret2
    exact ⟨rfl, rfl⟩
  · clear hi
    go_enter Try.func22, Try.ntmps22
    go_wp2
    go_ret2
    exact ⟨rfl, rfl⟩

set_option maxHeartbeats 400000 in
theorem pick_S (h : IsTab w 59 9 b bi be bs ci ce n it f sl) (g : Good n f) (d : Int) (hd0 : 0 ≤ d) (hd1 : d < 4294967296) :
    Calls Try.prog 26 #[.pointer (some ⟨b, 0, none⟩), .int .u32 d] w fun e w' =>
      ∃ k : Nat, e = .returned (.int .i64 k) ∧ k < n ∧ pre f k ≤ d * pre f n / 4294967296 ∧ d * pre f n / 4294967296 < pre f (k + 1) ∧ ∃ q, w' = w.drewN q := by
  obtain ⟨c0, c1, c2⟩ := h.cells
  have HT := Lib.hid h
  have HG := Lib.hid g
  have s1 := g.some
  have s2 := g.most
  have p1 := g.pos
  have p2 := g.few
  obtain ⟨S, hS⟩ : ∃ S, pre f n = S := ⟨_, rfl⟩
  rw [hS] at s1 s2
  have m1 : 0 ≤ d * S := Int.mul_nonneg hd0 (by omega)
  have m2 : d * S ≤ 4294967295 * S := Int.mul_le_mul_of_nonneg_right (by omega) (by omega)
  obtain ⟨M, hM⟩ : ∃ M, d * S = M := ⟨_, rfl⟩
  rw [hM] at m1 m2
  have m3 : M < 4294967296 * S := by omega
  have HM := Lib.hid hM
  have HS := Lib.hid hS
  clear h g hS
  have hmono : Hid (∀ a b, a ≤ b → b < n → pre f (a + 1) ≤ pre f (b + 1)) := Lib.hid (fun a b hab hb => pre_mono HG.out.no _ _ (by omega) (by omega))
  go_enter Try.func26, Try.ntmps26
  go_wp2_with (first
    | (go_at_call 24; refine (total_S HT.out p1 p2).mono ?_; rintro e w1 ⟨rfl, q1, rfl⟩; simp only [HS.out])
    | (go_at_call 28; refine (search be n ce (fun j => pre f (j + 1)) _ _ (by omega) (fun j hj => (HT.out.drewN q1).ends.cell j hj) hmono.out).mono ?_; rintro e w2 ⟨k, bb, rfl, hk, hl, hr, q2, rfl⟩; have HL := Lib.hid hl; have HR := Lib.hid hr; clear hl hr))
  go_ret
  have hlt : M / 4294967296 < S := by omega
  have hL := HL.out
  have hR := HR.out
  have hkn : k < n := by
    rcases Nat.lt_or_ge k n with h1 | h1
    · exact h1
    · have h2 := hL (n - 1) (by omega)
      rw [show n - 1 + 1 = n by omega, HS.out] at h2
      omega
  refine ⟨k, rfl, hkn, ?_, ?_, _, by simp [World.drewN]; rfl⟩
  · rw [HS.out, HM.out]
    cases k with
    | zero => show 0 ≤ _; omega
    | succ k => have h2 := hL k (by omega); omega
  · rw [HS.out, HM.out]
    have h2 := hR k (Nat.le_refl _) hkn
    omega


set_option maxHeartbeats 400000 in
theorem len_nil_S : Calls Try.prog 23 #[.pointer none] w fun e w' => e = .returned (.int .i64 0) ∧ w' = w := by
  go_enter Try.func23, Try.ntmps23
  go_wp2
  go_ret
  exact ⟨rfl, rfl⟩

set_option maxHeartbeats 400000 in
theorem total_nil_S : Calls Try.prog 24 #[.pointer none] w fun e w' => e = .returned (.int .i64 0) ∧ w' = w := by
  go_enter Try.func24, Try.ntmps24
  go_wp2
  go_ret
  exact ⟨rfl, rfl⟩

set_option maxHeartbeats 400000 in
theorem weight_nil_S (i : Int) : Calls Try.prog 25 #[.pointer none, .int .i64 i] w fun e w' => e = .returned (.int .i64 0) ∧ w' = w := by
  go_enter Try.func25, Try.ntmps25
  go_wp2
  go_ret
  exact ⟨rfl, rfl⟩

set_option maxHeartbeats 400000 in
theorem item_nil_S (i : Int) : Calls Try.prog 22 #[.pointer none, .int .i64 i] w fun e w' => e = .returned (.tuple #[(.string ByteArray.empty), .bool false]) ∧ w' = w := by
  go_enter Try.func22, Try.ntmps22
  go_wp2
  go_ret2
  exact ⟨rfl, rfl⟩

set_option maxHeartbeats 400000 in
theorem pick_nil_S (d : Int) : Calls Try.prog 26 #[.pointer none, .int .u32 d] w fun e w' => e = .returned (.int .i64 (-1)) ∧ w' = w := by
  go_enter Try.func26, Try.ntmps26
  go_wp2
  go_ret
  exact ⟨rfl, rfl⟩

set_option maxHeartbeats 400000 in
theorem alias_nil_S (i : Int) : Calls Try.prog 27 #[.pointer none, .int .i64 i] w fun e w' => e = .returned (.int .i64 (-1)) ∧ w' = w := by
  go_enter Try.func27, Try.ntmps27
  go_wp2
  go_ret
  exact ⟨rfl, rfl⟩
end
end Go.Proofs.Ytblckohcjfoalaa
