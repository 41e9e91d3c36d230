/-
  The contract of Each at integer samples, inside a fence.
-/
import Derived.Test.YtellbcgibeglbaaImgP
import Derived.Test.YtellbcgibeglbaaImgF
import Derived.Maps.AppendAt
import Derived.Stop.RegionWithIn
namespace Go.Proofs.Ytellbcgibeglbaa
open Go.RowKit Go.Shelf
attribute [local go_sem] Oper.semAt_some

/-- what yield is handed in round k -/
def eachArgs (Ws : Int) (ps : List Int) (k : Nat) : Array Value := #[.agg #[.int .i64 ((k : Int) % Ws), .int .i64 ((k : Int) / Ws)], .int .i64 (ps[k]?.getD 0)]

set_option maxHeartbeats 1600000 in
set_option maxRecDepth 100000 in
theorem each_in (nn : Nat) (hn1 : 1 ≤ nn) (l b g n : Nat) (Ws Hs : Int) (hW1 : 1 ≤ Ws) (hW2 : Ws ≤ 1024) (hn2 : n ≤ 65536) (ps : List Int) (J : Nat → World → Prop) (Jx : World → Prop)
    (hJi : ∀ k W, J k W → IsImg W 3 66 b g Ws Hs n (ps.map (Value.int .i64))) (hJd : ∀ k W, J k W → J k W.drew)
    (hY : ∀ k W, k < n → J k W → YieldAt Fence.wide (nn - 1) Try.prog l (eachArgs Ws ps k) W (fun e W' => ∃ bb, e = .returned (.bool bb) ∧ ((bb = true ∧ J (k + 1) W') ∨ (bb = false ∧ Jx W'))))
    (W : World) (h0 : J 0 W) :
    CallsIn Fence.wide nn Try.prog 12 #[.pointer (some ⟨b, 0, none⟩), .func (.yield l) #[] #[]] W fun e W' => (∃ v, e = .returned v) ∧ (J n W' ∨ Jx W') := by
  have HY := Lib.hid hY
  have HJi := Lib.hid hJi
  have HJd := Lib.hid hJd
  have H0 := Lib.hid h0
  obtain ⟨c0, c1, c2⟩ := (hJi 0 W h0).cells
  clear hY hJi hJd h0
  refine callsIn_of_wp Try.func12 rfl trivial ?_ rfl
  simp only [Try.ntmps12, List.size_toArray, List.length_cons, List.length_nil, Nat.reduceAdd, Nat.reduceSub, Array.replicate_succ, Array.replicate_zero, List.push_toArray, List.append_toArray, List.nil_append, List.cons_append]
  gi_wp2
  gi_loopw [13] (fun i wr => ∃ k : Nat, k ≤ n ∧ i = .int .i64 k ∧ Hid (J k wr)) (fun i _ => n - (intOf i).toNat)
  case atStart => exact ⟨0, Nat.zero_le _, rfl, H0⟩
  case round =>
    obtain ⟨k, hk, rfl, HJ⟩ := hrel
    clear c0 c1 c2
    have himg := HJi.out k wr HJ.out
    obtain ⟨c0, c1, c2⟩ := himg.cells
    have HIm := Lib.hid himg
    clear himg
    by_cases hkn : k < n
    · have hcell : wr.cell? ⟨g, k, none⟩ = some (.int .i64 (ps.getD k 0)) := by
        refine HIm.out.cell _ _ ?_
        have hl := HIm.out.len
        rw [List.length_map] at hl
        simp [List.getD, show k < ps.length by omega]
      obtain ⟨fn, tmps, assign, body, hy, hR⟩ := HY.out k wr.drew hkn (HJd.out _ _ HJ.out)
      unfold eachArgs at hy
      have hk0 : (0 : Int) ≤ (k : Int) := by omega
      have b1 := Int.emod_nonneg (k : Int) (show Ws ≠ 0 by omega)
      have b2 := Int.emod_lt_of_pos (k : Int) (show 0 < Ws by omega)
      have b3 : 0 ≤ (k : Int) / Ws := Int.ediv_nonneg hk0 (by omega)
      have b4 : (k : Int) / Ws ≤ k := Int.ediv_le_self _ hk0
      have e1 : (k : Int).tmod Ws = (k : Int) % Ws := Int.tmod_eq_emod_of_nonneg hk0
      have e2 : (k : Int).tdiv Ws = (k : Int) / Ws := Int.tdiv_eq_ediv_of_nonneg hk0
      obtain ⟨X, hX⟩ : ∃ X, (k : Int) % Ws = X := ⟨_, rfl⟩
      obtain ⟨Y, hY⟩ : ∃ Y, (k : Int) / Ws = Y := ⟨_, rfl⟩
      rw [hX] at hy e1 b1 b2
      rw [hY] at hy e2 b3 b4
      have e3 : IntKind.i64.wrap X = X := by rw [IntKind.wrap_i64]; omega
      have e4 : IntKind.i64.wrap Y = Y := by rw [IntKind.wrap_i64]; omega
      have e5 : ¬ Ws = 0 := by omega
      clear hX hY
      gi_wp2_with fail
      gi_region_with ((with_reducible refine RoundIn.mono hR ?_); rintro e W3 ⟨bb, rfl, hJ3⟩; have HJ3 := Lib.hid hJ3; clear hJ3)
      all_goals
        rcases HJ3.out with ⟨rfl, hJ⟩ | ⟨rfl, hJ⟩
        · have HJ4 := Lib.hid hJ
          clear hJ
          gi_wp2
          go_roundw
          case rel => exact ⟨k + 1, by omega, by go_num, HJ4⟩
          case measure => simp [intOf]; omega
        · have HJ4 := Lib.hid hJ
          clear hJ
          gi_wp2
          refine bodyPost_ret (results_none rfl _ _ _) rfl ?_
          exact ⟨⟨_, rfl⟩, .inr HJ4.out⟩
    · gi_wp2
      go_end0
      have e : k = n := by omega
      exact ⟨⟨_, rfl⟩, .inl (e ▸ HJ.out)⟩

end Go.Proofs.Ytellbcgibeglbaa
