/-
  The walk of ImageMakes: New and Of of any sides and any list of texts.
-/
import Derived.Test.YtellbcgibeglbaaImgS
import Derived.Laws.AppendOwnNone
namespace Go.Proofs.Ytellbcgibeglbaa
open Go.RowKit

/-- what the walk is told of a list of texts that came in -/
def IsStrs (w : World) (a : Option Addr) (len cap : Nat) (ss : List ByteArray) : Prop :=
  (a = none ∧ len = 0 ∧ cap = 0 ∧ ss = []) ∨
  ∃ x, a = some x ∧ len ≤ cap ∧ cap ≤ maxLen ∧ ss.length = cap ∧ (∀ i, i < ss.length → w.cell? (x.add i) = some (.string (ss.getD i ByteArray.empty))) ∧ ∀ s ∈ ss, s.size ≤ maxLen

/-- a source of an append: nil, or cells that lie there -/
def Src (w : World) (a : Option Addr) (n cap : Nat) (cs : List Value) : Prop :=
  cs.length = n ∧ (a = none → n = 0 ∧ cap = 0) ∧ (∀ ad, a = some ad → ∀ j u, cs[j]? = some u → w.cell? (ad.add j) = some u) ∧ ∀ u ∈ cs, u.oneCell' = true

theorem IsStrs.src {w : World} {a : Option Addr} {len cap : Nat} {ss : List ByteArray} (h : IsStrs w a len cap ss) : Src w a len cap ((ss.take len).map .string) := by
  rcases h with ⟨rfl, rfl, rfl, rfl⟩ | ⟨x, rfl, h1, h2, h3, h4, h5⟩
  · exact ⟨rfl, fun _ => ⟨rfl, rfl⟩, (fun _ h => by cases h), (fun _ h => by simp at h)⟩
  · refine ⟨by simp; omega, (fun h => by cases h), ?_, ?_⟩
    · intro ad had j u hu
      obtain rfl := Option.some.inj had
      rw [List.getElem?_map, List.getElem?_take] at hu
      split at hu
      · rename_i hj
        have hj2 : j < ss.length := by omega
        rw [h4 j hj2]
        rw [List.getElem?_eq_getElem hj2] at hu
        simp at hu
        subst hu
        simp [List.getD, hj2]
      · simp at hu
    · intro u hu
      obtain ⟨s, _, rfl⟩ := List.mem_map.1 hu
      rfl

theorem Src.below {B : Nat} {w w' : World} {a : Option Addr} {n cap : Nat} {cs : List Value} (h : Src w a n cap cs) (hB : w.heap.size ≤ B) (hb : Below B w w') : Src w' a n cap cs :=
  ⟨h.1, h.2.1, fun ad had j u hu => cell_later (hb.mono hB) (h.2.2.1 ad had j u hu), h.2.2.2⟩

/-- append of whatever source onto a row of the call's own that is not nil -/
theorem wpList_append_src {P : Program} (w : World) {ops : Array Oper} {rest : List Oper} {o : Oper} {a : Act} {Q : Exit → Act → World → Prop} (hgd : o.guard = none) (s x : Operand) (t : TypeId)
    (ho : o.op = .call { callee := .builtin .append, args := #[s, x], argTypes := #[t, t] })
    (base : Nat) (e : TypeId) (i : TypeInfo) (z : Value) (bytes : Nat) (ht : P.underlying t = some (.slice e)) (hi : P.info? e = some i) (hz : i.zero = some z)
    (hsize : i.size = 1) (hby : i.bytes = bytes) (hzs : z.cells.size = 1)
    (g : Nat) (n c : Nat) (xs : List Value) (hs : a.eval s = .slice (some ⟨g, 0, none⟩) n c) (hown : w.ownsRow base e 1 (.slice (some ⟨g, 0, none⟩) n c) n xs)
    (ao : Option Addr) (m mc : Nat) (news : List Value) (hx : a.eval x = .slice ao m mc) (hsrc : Src w ao m mc news)
    (h63 : n + m ≤ maxLen) (hbytes : (n + m) * bytes ≤ 140737488355328) (hbase : base ≤ w.heap.size)
    (h : ∀ g' c' w', w'.ownsRow base e 1 (.slice (some ⟨g', 0, none⟩) (n + m) c') (n + m) (xs ++ news) → Below base w w' → wpList P ops Q rest (a.put o.dst (.slice (some ⟨g', 0, none⟩) (n + m) c')) w') : wpList P ops Q (o :: rest) a w := by
  cases ao with
  | none =>
    obtain ⟨rfl, rfl⟩ := hsrc.2.1 rfl
    obtain rfl : news = [] := List.eq_nil_of_length_eq_zero hsrc.1
    refine wpList_append_own_none hgd s x t ho base e i 1 ht hi _ n xs hs hown hx ?_
    exact h g c w (by simpa using hown) (Below.refl _ _)
  | some ad =>
    refine wpList_append_own w hgd s x t ho base e i z 1 bytes ht hi hz hsize hby hzs (by decide) _ n xs hs hown ad m mc news hx (by rw [hsrc.1, Nat.mul_one]) (hsrc.2.2.1 ad rfl) hsrc.2.2.2 h63 hbytes hbase ?_
    intro v' w' hown' hgrow hnil
    have hb : Below base w w' := (Below.refl base w).grown hgrow hbase (fun q hq => (hown.lt q hq).1)
    rcases hown'.2 with ⟨h0, _⟩ | ⟨g', c', cur, rfl, _⟩
    · have := (hnil.1 h0).1; simp at this
    · exact h g' c' w' hown' hb

set_option maxHeartbeats 400000 in
theorem makes_long (a0 a1 : Int) (v : Option Addr) (len cap : Nat) (w : World) (h : 70000 < len) (hm : len ≤ maxLen) :
    Calls Try.prog 5 #[.int .i64 a0, .int .i64 a1, .slice v len cap] w fun e w' => e = .returned (.bool true) ∧ Below w.heap.size w w' := by
  unfold maxLen at hm
  go_enter Try.func5, Try.ntmps5
  go_wp2_with (go_at_call 9; refine (awake_any _).mono ?_; rintro e wa ⟨rfl, hb⟩; have HB := Lib.hid hb; clear hb)
  go_ret
  exact ⟨rfl, HB.out⟩

set_option maxHeartbeats 1600000 in
set_option maxRecDepth 100000 in
theorem makes_unfit (a0 a1 : Int) (v : Option Addr) (len cap : Nat) (ss : List ByteArray) (w : World) (h : len ≤ 70000) (hs : IsStrs w v len cap ss) (hf : ¬ Fits a0 a1) :
    Calls Try.prog 5 #[.int .i64 a0, .int .i64 a1, .slice v len cap] w fun e w' => e = .returned (.bool true) ∧ Below w.heap.size w w' := by
  have HF := Lib.hid hf
  obtain ⟨i0, hi, hz0, hz1, hz2⟩ := info_parts Try.info9
  have HS := Lib.hid hs.src
  have hcase : ¬ 1 ≤ a0 ∨ (1 ≤ a0 ∧ ¬ 1 ≤ a1) ∨ (1 ≤ a0 ∧ 1 ≤ a1 ∧ ¬ a0 ≤ 1024) ∨ (1 ≤ a0 ∧ 1 ≤ a1 ∧ a0 ≤ 1024 ∧ ¬ a1 ≤ 1024) ∨ (1 ≤ a0 ∧ 1 ≤ a1 ∧ a0 ≤ 1024 ∧ a1 ≤ 1024 ∧ 0 ≤ a0 * a1 ∧ a0 * a1 ≤ 1048576 ∧ ¬ a0 * a1 ≤ 65536) := by
    by_cases h1 : 1 ≤ a0
    · by_cases h2 : 1 ≤ a1
      · by_cases h3 : a0 ≤ 1024
        · by_cases h4 : a1 ≤ 1024
          · have p1 : 0 ≤ a0 * a1 := Int.mul_nonneg (by omega) (by omega)
            have p2 : a0 * a1 ≤ 1024 * 1024 := Int.mul_le_mul h3 h4 (by omega) (by omega)
            have h5 : ¬ a0 * a1 ≤ 65536 := fun h5 => hf ⟨h1, h2, h3, h4, h5⟩
            omega
          · omega
        · omega
      · omega
    · omega
  clear hf hs
  rcases hcase with q | ⟨q1, q⟩ | ⟨q1, q2, q⟩ | ⟨q1, q2, q3, q⟩ | ⟨q1, q2, q3, q4, q5, q6, q⟩
  all_goals
    go_enter Try.func5, Try.ntmps5
    go_wp2_with (first
      | (go_at_call 9; refine (awake_any _).mono ?_; rintro e wa ⟨rfl, hb⟩; have HB := Lib.hid hb; clear hb)
      | (go_at_call 13; refine (new_no_S _ _ _ HF.out).mono ?_; rintro e w1 ⟨rfl, rfl⟩)
      | (go_at_call 14; refine (size_nil_S).mono ?_; rintro e w1 ⟨rfl, rfl⟩)
      | (go_at_call 15; refine (of_no_S _ _ _ _ HF.out).mono ?_; rintro e w1 ⟨rfl, rfl⟩)
      | (go_at_call 16; refine (pix_nil_S).mono ?_; rintro e w1 ⟨rfl, rfl⟩)
      | (at_builtin; refine wpList_append_src _ rfl _ _ 34 rfl w.heap.size 9 i0 (.string ByteArray.empty) 16 Try.underlying34 hi hz0 hz1 hz2 rfl _ 0 0 [] rfl (World.ownsRow_made _ #[] 0 HB.out.size (Nat.zero_le _) rfl) v len cap _ rfl (HS.out.below (Nat.le_refl _) (HB.out.alloc HB.out.size _)) (by unfold maxLen; omega) (by omega) (by have := HB.out.size; simp; omega) ?_; intro g' c' w' hown' hb'; have HB2 := Lib.hid ((HB.out.alloc HB.out.size _).trans hb'); clear hown' hb'))
  all_goals
    refine wp_loop_rounds 1 ?_
    rw [rounds_succ]
    go_wp2
  all_goals
    go_ret
    exact ⟨rfl, HB2.out⟩

set_option maxHeartbeats 1600000 in
set_option maxRecDepth 100000 in
theorem makes_len (a0 a1 : Int) (v : Option Addr) (len cap : Nat) (ss : List ByteArray) (w : World) (h : len ≤ 70000) (hs : IsStrs w v len cap ss) (hf : Fits a0 a1) (hlen : ¬ (len : Int) = a0 * a1) :
    Calls Try.prog 5 #[.int .i64 a0, .int .i64 a1, .slice v len cap] w fun e w' => e = .returned (.bool true) ∧ Below w.heap.size w w' := by
  obtain ⟨i0, hi, hz0, hz1, hz2⟩ := info_parts Try.info9
  have HS := Lib.hid hs.src
  have HLn := Lib.hid hlen
  obtain ⟨q1, q2, q3, q4, q5⟩ := hf
  have q6 := Int.mul_pos (show 0 < a0 by omega) (show 0 < a1 by omega)
  have q7 : ((len : Int) == a0 * a1) = false := by simpa using hlen
  clear hs hlen
  go_enter Try.func5, Try.ntmps5
  go_wp2_with (first
    | (go_at_call 9; refine (awake_any _).mono ?_; rintro e wa ⟨rfl, hb⟩; have HB := Lib.hid hb; clear hb)
    | (go_at_call 13; refine (new_S _ _ _ q1 q2 q3 q4 q5 (a0 * a1).toNat (by omega)).mono ?_; rintro e w1 ⟨rfl, himg, hb, hsz⟩; have HI := Lib.hid himg; have HB1 := Lib.hid (HB.out.trans (hb.mono HB.out.size)); clear himg hb hsz)
    | (go_at_call 14; refine (size_S HI.out).mono ?_; rintro e w2 ⟨rfl, nq, rfl⟩; have HB2 := Lib.hid (below_drewN' HB1.out nq))
    | (at_builtin; refine wpList_append_src _ rfl _ _ 34 rfl w.heap.size 9 i0 (.string ByteArray.empty) 16 Try.underlying34 hi hz0 hz1 hz2 rfl _ 0 0 [] rfl (World.ownsRow_made _ #[] 0 HB2.out.size (Nat.zero_le _) rfl) v len cap _ rfl (HS.out.below (Nat.le_refl _) (HB2.out.alloc HB2.out.size _)) (by unfold maxLen; omega) (by omega) (by have := HB2.out.size; simp at this ⊢; omega) ?_; intro g' c' w' hown' hb'; have HB3 := Lib.hid ((HB2.out.alloc HB2.out.size _).trans hb'); clear hown' hb')
    | (go_at_call 15; refine (of_len_S _ _ _ _ _ _ q1 q2 q3 q4 q5 HLn.out).mono ?_; rintro e w4 ⟨rfl, hb⟩; have HB4 := Lib.hid (HB3.out.trans (hb.mono HB3.out.size)); clear hb)
    | (go_at_call 16; refine (pix_nil_S).mono ?_; rintro e w5 ⟨rfl, rfl⟩))
  refine wp_loop_rounds 1 ?_
  rw [rounds_succ]
  go_wp2
  all_goals
    go_ret
    exact ⟨rfl, HB4.out⟩

set_option maxHeartbeats 1600000 in
set_option maxRecDepth 100000 in
theorem makes_good (a0 a1 : Int) (v : Option Addr) (len cap : Nat) (ss : List ByteArray) (w : World) (h : len ≤ 70000) (hs : IsStrs w v len cap ss) (hf : Fits a0 a1) (hlen : a0 * a1 = len) :
    Calls Try.prog 5 #[.int .i64 a0, .int .i64 a1, .slice v len cap] w fun e w' => e = .returned (.bool true) ∧ Below w.heap.size w w' := by
  obtain ⟨i0, hi, hz0, hz1, hz2⟩ := info_parts Try.info9
  have HS := Lib.hid hs.src
  have HLn := Lib.hid hlen
  obtain ⟨q1, q2, q3, q4, q5⟩ := hf
  have q6 := Int.mul_pos (show 0 < a0 by omega) (show 0 < a1 by omega)
  have q7 : ((len : Int) == a0 * a1) = true := by simp [hlen]
  have q8 : 1 ≤ len := by omega
  have q9 : len ≤ 65536 := by omega
  obtain ⟨b, off, rfl, hc0⟩ : ∃ b off, v = some ⟨b, off, none⟩ ∧ ∀ j, j < len → w.cell? ⟨b, off + j, none⟩ = some (.string (ss.getD j ByteArray.empty)) := by
    rcases hs with ⟨_, rfl, _, _⟩ | ⟨x, rfl, hl, _, hz, hcell, _⟩
    · omega
    · obtain ⟨b, off, spot⟩ := x
      have hspot : spot = none := by simpa [Addr.add] using World.cell?_spot (hcell 0 (by omega))
      subst hspot
      exact ⟨b, off, rfl, fun j hj => by rw [← Go.WideShapes.add_plain]; exact hcell j (by omega)⟩
  have hsl : len ≤ ss.length := by
    rcases hs with ⟨_, rfl, _, _⟩ | ⟨x, _, hl, _, hz, _, _⟩ <;> omega
  have HC := Lib.hid hc0
  clear hs hlen hc0
  go_enter Try.func5, Try.ntmps5
  go_wp2_with (first
    | (go_at_call 9; refine (awake_any _).mono ?_; rintro e wa ⟨rfl, hb⟩; have HB := Lib.hid hb; clear hb)
    | (go_at_call 13; refine (new_S _ _ _ q1 q2 q3 q4 q5 (a0 * a1).toNat (by omega)).mono ?_; rintro e w1 ⟨rfl, himg, hb, hsz⟩; have HI := Lib.hid himg; have HB1 := Lib.hid (HB.out.trans (hb.mono HB.out.size)); clear himg hb hsz)
    | (go_at_call 14; refine (size_S HI.out).mono ?_; rintro e w2 ⟨rfl, nq, rfl⟩; have HB2 := Lib.hid (below_drewN' HB1.out nq))
    | (at_builtin; refine wpList_append_src _ rfl _ _ 34 rfl w.heap.size 9 i0 (.string ByteArray.empty) 16 Try.underlying34 hi hz0 hz1 hz2 rfl _ 0 0 [] rfl (World.ownsRow_made _ #[] 0 HB2.out.size (Nat.zero_le _) rfl) _ len cap _ rfl (HS.out.below (Nat.le_refl _) (HB2.out.alloc HB2.out.size _)) (by unfold maxLen; omega) (by omega) (by have := HB2.out.size; simp at this ⊢; omega) ?_; intro g' c' w' hown' hb'; simp only [Nat.zero_add, List.nil_append] at hown'; have HO := Lib.hid hown'; have HB3 := Lib.hid ((HB2.out.alloc HB2.out.size _).trans hb'); clear hown' hb')
    | (go_at_call 15; refine (of_S _ _ _ _ len ((ss.take len).map .string) _ q1 q2 q3 q4 q5 HLn.out (by simp; omega) (fun j u hu => HO.out.cells rfl j u hu) HS.out.2.2.2).mono ?_; rintro e w4 ⟨rfl, himg, hb, hsz⟩; have HI2 := Lib.hid himg; have HB4 := Lib.hid (HB3.out.trans (hb.mono HB3.out.size)); clear himg hb hsz)
    | (go_at_call 16; refine (pix_S HI2.out (by omega) (by omega) HS.out.2.2.2).mono ?_; rintro e w5 ⟨g5, c5, rfl, hown, hb⟩; have HO5 := Lib.hid hown; have HB5 := Lib.hid (HB4.out.trans (hb.mono HB4.out.size)); clear hown hb))
  have HA : Hid (∀ k, k < len → w5.cell? ⟨b, off + k, none⟩ = some (.string (ss.getD k ByteArray.empty))) := fun k hk => cell_later (HB5.out.mono (Nat.le_refl _)) (HC.out k hk)
  have HL5 : Hid (∀ k, k < len → w5.cell? ⟨g5, k, none⟩ = some (.string (ss.getD k ByteArray.empty))) := fun k hk => by
    have := HO5.out.cells rfl k (.string (ss.getD k ByteArray.empty)) (by simp [hk, List.getD, show k < ss.length by omega])
    rwa [Addr.add_lit, Nat.zero_add] at this
  have HD := HB5
  obtain ⟨n5, hn5⟩ : ∃ n : Nat, w5 = w5.drewN n := ⟨0, rfl⟩
  have HN5 := Lib.hid hn5
  clear hn5 HO HO5 HI HI2 HB HB1 HB2 HB3 HB4
  go_loopw [16] (fun i wr => ∃ k : Nat, k ≤ len ∧ i = .int .i64 k ∧ Hid (∃ nq, wr = w5.drewN nq))
    (fun i _ => len - (intOf i).toNat)
  case atStart => exact ⟨0, Nat.zero_le _, rfl, n5, HN5.out⟩
  case round =>
    obtain ⟨k, hk, rfl, HW⟩ := hrel
    obtain ⟨nq, rfl⟩ := HW.out
    clear HW
    by_cases hlt : k < len
    · have hA := HA.out k hlt
      have hL := HL5.out k hlt
      go_wp2_with fail
      go_quiet (fail)
      go_wp2
      go_roundw
      case rel => exact ⟨k + 1, by omega, by go_num, Lib.hid ⟨_, rfl⟩⟩
      case measure => simp [intOf]; omega
    · obtain rfl : k = len := by omega
      have h0 : decide (0 < k) = true := by simp; omega
      go_wp2
      go_ret
      exact ⟨rfl, below_drewN' HB5.out _⟩

theorem makes_walk (a0 a1 : Int) (v : Option Addr) (len cap : Nat) (ss : List ByteArray) (w : World) (_ : (Lit.int .i64 a0).wf = true) (_ : (Lit.int .i64 a1).wf = true) (hs : IsStrs w v len cap ss) :
    Calls Try.prog 5 #[.int .i64 a0, .int .i64 a1, .slice v len cap] w fun e w' => e = .returned (.bool true) ∧ Below w.heap.size w w' := by
  by_cases h : len ≤ 70000
  · by_cases hf : Fits a0 a1
    · by_cases hlen : (len : Int) = a0 * a1
      · exact makes_good a0 a1 v len cap ss w h hs hf hlen.symm
      · exact makes_len a0 a1 v len cap ss w h hs hf hlen
    · exact makes_unfit a0 a1 v len cap ss w h hs hf
  · refine makes_long a0 a1 v len cap w (by omega) ?_
    rcases hs with ⟨_, rfl, _, _⟩ | ⟨x, _, hl, hm, _⟩ <;> omega

end Go.Proofs.Ytellbcgibeglbaa
