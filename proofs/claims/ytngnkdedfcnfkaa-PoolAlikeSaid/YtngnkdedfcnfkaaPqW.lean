/-
  lantern/lanternlaw20.PoolAlike: THE RUN: entered with whatever slices and numbers, in whatever world, on whatever tape.
-/
import Derived.Test.YtngnkdedfcnfkaaPqX
set_option linter.unusedSimpArgs false
set_option linter.unusedVariables false
namespace Go.Proofs.Ytngnkdedfcnfkaa
open Go Go.Conc Go.RowKit Go.Conc.Lib Go.ConcR.Gen Go.ConcN.Gen
open Go.ConcN (WgLive Has RW ShN upd upd_same upd_ne goes_mono)

/-- true, and what was there stands -/
def PostA (W : World) (v : Value) (w' : World) : Prop := v = .bool true ∧ Below W.heap.size W w'
/-- a call of Run that PoolAlike makes -/
def cT (H n J cap jb : Nat) (z : Nat → ByteArray) : Ctx :=
  { H := H, n := n, J := J, cap := cap, jb := jb, ja := some ⟨jb, 0, none⟩, vals := fun i => .string (z i),
    Ans := fun i v w => ∃ b, v = .slice (some ⟨b, 0, none⟩) 2 2 ∧ H + 8 + 2 * n ≤ b ∧ w.heap[b]? = some (.cells #[.string (z i), .string (z i ++ bang)] 9), fn := .func (.func 11) #[] #[], zR := .slice none 0 0 }
theorem okT {H n J cap jb : Nat} {z : Nat → ByteArray} {Shun : Loc → Prop} (h1 : 1 ≤ n) (h2 : n ≤ 64) (hJ : J ≤ 8192) (hj : jb < H) (hS : ∀ a : Addr, jb ≤ a.block → ¬ Shun (.cell a)) : OkC (cT H n J cap jb z) Shun where
  npos := h1
  nmax := h2
  Jmax := hJ
  ja _ := rfl
  jbH _ := hj
  ansK _ _ _ _ h k := by obtain ⟨b, h1, h2, h3⟩ := h; exact ⟨b, h1, h2, k.rows b _ h3⟩
  f1 _ _ _ h := by obtain ⟨b, rfl, _⟩ := h; rfl
  fn1 := rfl
  f2 _ _ _ h := by obtain ⟨b, rfl, _⟩ := h; rfl
  sh a h _ := hS a (by have : H ≤ a.block := h; omega)
  shj a _ h := hS a (by have : a.block = jb := h; omega)
theorem enter4 (jv nv mv tv sv : Value) : Frame.enter Try.prog 4 #[jv, nv, mv, tv, sv] .normal = (base 4).at ⟨(jv :: nv :: mv :: tv :: sv :: List.replicate 129 undef).toArray, []⟩ [.code body4] := by
  simp [Frame.enter, Frame.at, Try.func4, base, body4, Try.f4]
/-- the answers of a call, each with its row -/
theorem answers {H n J cap jb : Nat} {z : Nat → ByteArray} {W w : World} (h : KE (cT H n J cap jb z) 29 W w) : ∃ ba : Nat → Nat, ∀ i, i < J → w.cell? ⟨H + 7 + 2 * n, i, none⟩ = some (.slice (some ⟨ba i, 0, none⟩) 2 2) ∧ H + 8 + 2 * n ≤ ba i ∧ w.heap[ba i]? = some (.cells #[.string (z i), .string (z i ++ bang)] 9) := by
  have key : ∀ i, ∃ b : Nat, i < J → w.cell? ⟨H + 7 + 2 * n, i, none⟩ = some (.slice (some ⟨b, 0, none⟩) 2 2) ∧ H + 8 + 2 * n ≤ b ∧ w.heap[b]? = some (.cells #[.string (z i), .string (z i ++ bang)] 9) := by
    intro i
    by_cases hi : i < J
    · obtain ⟨v, h1, b, rfl, h2, h3⟩ := h.ocell (x := i) hi
      exact ⟨b, fun _ => ⟨h1, h2, h3⟩⟩
    · exact ⟨0, fun h => absurd h hi⟩
  exact ⟨fun i => (key i).choose, fun i hi => (key i).choose_spec hi⟩

set_option maxHeartbeats 4000000 in
theorem alike_run {W : World} {ja ta sa : Option Addr} {J cap tl tc sl sc : Nat} {n m : Int} {zj : Nat → ByteArray} {zt zs : Nat → Int} (hsj : SrcV W ja J W.heap.size (fun i => .string (zj i))) (hjs : ∀ i, i < J → (zj i).size ≤ 140737488355328)
    (hst : SrcV W ta tl W.heap.size (fun i => .int .i64 (zt i))) (htl : tl * 8 ≤ 140737488355328) (hlo : ∀ i, i < tl → -9223372036854775808 ≤ zt i) (hhi : ∀ i, i < tl → zt i < 9223372036854775808)
    (hss : SrcV W sa sl W.heap.size (fun i => .int .i64 (zs i))) (hsl : sl * 8 ≤ 140737488355328) (hlos : ∀ i, i < sl → -9223372036854775808 ≤ zs i) (hhis : ∀ i, i < sl → zs i < 9223372036854775808) :
    ∃ M last o w' t', runNT Try.prog (M + 1) (solo (G (Frame.enter Try.prog 4 #[.slice ja J cap, .int .i64 n, .int .i64 m, .slice ta tl tc, .slice sa sl sc] .normal) []) W) #[] = (.ended o w', t') ∧
      runN Try.prog M (solo (G (Frame.enter Try.prog 4 #[.slice ja J cap, .int .i64 n, .int .i64 m, .slice ta tl tc, .slice sa sl sc] .normal) []) W) = .next last ∧ step Try.prog last = .ended o w' ∧ Good Try.prog (PostA W) last o w' t' := by
  rw [enter4, solo_eq_crowd]
  have fin2 : ∀ {K : Nat} {m m' : Machine} {T₀ T : Trace}, runNT Try.prog K m T₀ = (.next m', T) → (∃ M last o w' t', runNT Try.prog (M + 1) m' T = (.ended o w', t') ∧ runN Try.prog M m' = .next last ∧ step Try.prog last = .ended o w' ∧ Good Try.prog (PostA W) last o w' t') →
      ∃ M last o w' t', runNT Try.prog (M + 1) m T₀ = (.ended o w', t') ∧ runN Try.prog M m = .next last ∧ step Try.prog last = .ended o w' ∧ Good Try.prog (PostA W) last o w' t' := by
    rintro K m m' T₀ T hrun ⟨M, last, o, w', t', e1, e2, e3, e4⟩
    refine ⟨K + M, last, o, w', t', ?_, ?_, e3, e4⟩
    · rw [Nat.add_assoc, runNT_add, hrun]; exact e1
    · rw [runN_add, ← runNT_fst Try.prog _ _ T₀, hrun]; exact e2
  have hpost : ∀ w, Below W.heap.size W w → PostA W (.bool true) w := fun w h => ⟨rfl, h⟩
  -- into Awake
  obtain ⟨K0, gs0, g0, W0, sl0, T0, q0, r0, z0, h00, ⟨rfl, hW0⟩, L0, P0⟩ := walk_beside (P := Try.prog) (Shun := fun _ => False) (B := 0) (fun _ _ _ h => h) _ _ #[G ((base 4).at ⟨(.slice ja J cap :: .int .i64 n :: .int .i64 m :: .slice ta tl tc :: .slice sa sl sc :: List.replicate 129 undef).toArray, []⟩ [.code body4]) []] _ W none #[] (fun _ => 0) (Nat.le_refl _) rfl (leavers_one _ _) past_nil law4a
  have hz0 : W0.heap.size = W.heap.size := by obtain ⟨d, rfl⟩ := hW0; rfl
  have z0' : gs0.size = 1 := by rw [z0]; rfl
  -- Awake
  obtain ⟨K1, gs1, g1, w1, sl1, T1, q1, r1, z1, h01, rfl, hb1, hs1, L1, P1⟩ := awake_phase (W := W0) (sl := sl0) (fun _ _ h => h) (Nat.zero_le _) (by omega) h00 L0 P0
  rw [hz0] at hb1 hs1 P1
  have hB1 : Below W.heap.size W w1 := (Below.at_ (Below.refl _ _) hW0).trans hb1
  have hSh : ∀ a : Addr, a.block ≠ W.heap.size + 8 → ¬ (False ∨ ShN (W.heap.size + 8) (.cell a)) := by
    rintro a ha (h | ⟨b, hb, hbl⟩)
    · exact h
    · cases hb; exact ha hbl
  have hS1 : ∀ a : Addr, a.block < W.heap.size → ¬ (False ∨ ShN (W.heap.size + 8) (.cell a)) := fun a h => hSh a (by omega)
  have hS2 : ∀ a : Addr, w1.heap.size ≤ a.block → ¬ (False ∨ ShN (W.heap.size + 8) (.cell a)) := fun a h => hSh a (by omega)
  refine fin2 (runNT_then r0 r1) ?_
  by_cases hJ : 500 < J
  · exact beside_ends (fun _ _ _ h => h) h01 L1 P1 (law4b hJ hB1 hpost)
  have hJ' : J ≤ 500 := by omega
  -- how many workers
  obtain ⟨K2, gs2, g2, w2, sl2, T2, q2, r2, z2, h02, ⟨Ta, rfl, hTa, hB2, hw2⟩, L2, P2⟩ := walk_beside (P := Try.prog) (B := w1.heap.size) (fun _ _ _ h => h) _ _ gs1 _ w1 sl1 T1 q1 (Nat.le_refl _) h01 L1 P1
    (law4c (n := n) (m := m) (F := fun w => Below W.heap.size W w ∧ w.heap.size = w1.heap.size) hJ' (fun h r => ⟨Below.at_ h.1 r, by obtain ⟨d, rfl⟩ := r; exact h.2⟩) ⟨hB1, rfl⟩)
  -- the rows of the first call
  obtain ⟨K3, gs3, g3, w3, sl3, T3, q3, r3, z3, h03, ⟨Tb, j1, c1, rfl, hTb, h34, hG3⟩, L3, P3⟩ := walk_beside (P := Try.prog) (B := w1.heap.size + 1) (fun _ _ _ h => h) _ _ gs2 _ w2 sl2 T2 q2 (Nat.le_refl _) h02 L2 (P2.mono (by omega))
    (callA6 (W := W) (N0 := W.heap.size) (N₁ := w1.heap.size) hTa (by omega) (by omega) hJ' ⟨⟨hB2, by omega, fun r hr => by cases hr⟩, hsj.below hB2, hw2⟩ hS1 hS2 (Nat.le_refl _))
  obtain ⟨K4, gs4, g4, w4, sl4, T4, q4, r4, z4, h04, ⟨Tc, t1, c2, rfl, hTc, hG4, hgt⟩, L4, P4⟩ := walk_beside (P := Try.prog) (B := w3.heap.size + 1) (fun _ _ _ h => h) _ _ gs3 _ w3 sl3 T3 q3 (Nat.le_refl _) h03 L3 (P3.mono (by have := hG3.size; omega))
    (callB6 (W := W) (N0 := W.heap.size) (N₁ := w1.heap.size) hTb h34 (by omega) (by omega) htl ⟨hG3, hst.below hG3.below⟩ hS1 hS2 rfl (Nat.le_refl _))
  have hm3 := hG3.size
  have hm4 := hG4.size
  obtain ⟨hr1, hr2, hr3⟩ := hG4.rows (t1, tl, fun i => .int .i64 (zt i)) (List.mem_cons_self ..)
  obtain ⟨hr4, hr5, hr6⟩ := hG4.rows (j1, J, fun i => .string (zj i)) (List.mem_cons_of_mem _ (List.mem_cons_self ..))
  simp only at hr1 hr2 hr3 hr4 hr5 hr6
  refine fin2 (runNT_then r2 (runNT_then r3 r4)) ?_
  -- the first call
  obtain ⟨k1, hk1⟩ : ∃ k : Nat, wk n = (k : Int) := ⟨(wk n).toNat, by have := wk_lo n; omega⟩
  have hk11 : 1 ≤ k1 := by have := wk_lo n; omega
  have hk12 : k1 ≤ 64 := by have := wk_hi n; omega
  rw [hk1] at h04
  have hc := okT (H := w4.heap.size) (n := k1) (J := J) (cap := c1) (jb := j1) (z := zj) (Shun := fun l => False ∨ ShN (W.heap.size + 8) l) hk11 hk12 (by omega) hr5 (fun a h => hS2 a (by omega))
  have hT : OkT (cT w4.heap.size k1 J c1 j1 zj) (fun l => False ∨ ShN (W.heap.size + 8) l) w4 (some ⟨t1, 0, none⟩) tl t1 zt := ⟨fun _ => rfl, fun _ => hr2, fun a _ h => hS2 a (by omega), hr3, by omega, hlo, hhi⟩
  obtain ⟨K5, gs5, g5, w5, sl5, T5, q5, r5, z5, h05, hA5, hK5, L5, P5⟩ := R10.run_phase (sl := sl4) (c := cT w4.heap.size k1 J c1 j1 zj) (W := w4) (B := w4.heap.size + 8 + 2 * k1) (B₀ := w4.heap.size) hc (doesText hc rfl (fun i hi => ⟨zj i, rfl, hjs i hi, fun b w hb hw => ⟨b, rfl, hb, hw⟩⟩)) (Nat.le_refl _) rfl hr6 hT (Nat.le_refl _) (by omega) h04 L4 (P4.mono (by omega))
  have z5' : gs5.size = gs4.size + k1 := z5
  have hs5 : w4.heap.size + 8 + 2 * k1 ≤ w5.heap.size := hK5.sz
  have hB45 : Below w4.heap.size w4 w5 := by
    have ho := hK5.kb.old
    exact ⟨ho.os, ho.tape, ho.output, by omega, fun b hb => ho.block b hb⟩
  have hB5 : Below W.heap.size W w5 := hG4.below.trans (hB45.mono (by omega))
  obtain ⟨ba, hba⟩ := answers hK5
  unfold R10.Left3 at hA5
  subst hA5
  refine fin2 r5 ?_
  -- the rows of the second
  have hS15 : ∀ a : Addr, a.block < W.heap.size → ¬ ShunW (cT w4.heap.size k1 J c1 j1 zj) (fun l => False ∨ ShN (W.heap.size + 8) l) (.cell a) := fun a h => shunW_not (hS1 a h) (by show a.block ≠ w4.heap.size + 6; omega)
  have hS25 : ∀ a : Addr, w4.heap.size + 7 ≤ a.block → ¬ ShunW (cT w4.heap.size k1 J c1 j1 zj) (fun l => False ∨ ShN (W.heap.size + 8) l) (.cell a) := fun a h => shunW_not (hS2 a (by omega)) (by show a.block ≠ w4.heap.size + 6; omega)
  obtain ⟨K6, gs6, g6, w6, sl6, T6, q6, r6, z6, h06, ⟨Td, j2, d1, rfl, hTd, h45, h11, h12, hG6⟩, L6, P6⟩ := walk_beside (P := Try.prog) (B := w5.heap.size + 1) (fun _ _ _ h => h) _ _ gs5 _ w5 sl5 T5 q5 (Nat.le_refl _) h05 L5 (P5.mono (by omega))
    (callA7 (W := w5) (N0 := W.heap.size) (N₁ := w5.heap.size) (O := w4.heap.size + 7 + 2 * k1) hTc (by omega) (by omega) hJ' ⟨⟨Below.refl _ _, by omega, fun r hr => by cases hr⟩, hsj.below hB5, rfl⟩ hS15 (fun a h => hS25 a (by omega)) (Nat.le_refl _))
  have hB6 : Below W.heap.size W w6 := hB5.trans (hG6.below.mono (by omega))
  obtain ⟨K7, gs7, g7, w7, sl7, T7, q7, r7, z7, h07, ⟨Te, t2, d2, rfl, hTe, h11e, h12e, hG7, hgt2⟩, L7, P7⟩ := walk_beside (P := Try.prog) (B := w6.heap.size + 1) (fun _ _ _ h => h) _ _ gs6 _ w6 sl6 T6 q6 (Nat.le_refl _) h06 L6 (P6.mono (by have := hG6.size; omega))
    (callB7 (W := w5) (N0 := W.heap.size) (N₁ := w5.heap.size) hTd h45 h11 h12 (by omega) (by omega) hsl ⟨hG6, hss.below hB6⟩ hS15 (fun a h => hS25 a (by omega)) rfl (Nat.le_refl _))
  have hm6 := hG6.size
  have hm7 := hG7.size
  obtain ⟨hs1', hs2', hs3'⟩ := hG7.rows (t2, sl, fun i => .int .i64 (zs i)) (List.mem_cons_self ..)
  obtain ⟨hs4', hs5', hs6'⟩ := hG7.rows (j2, J, fun i => .string (zj i)) (List.mem_cons_of_mem _ (List.mem_cons_self ..))
  simp only at hs1' hs2' hs3' hs4' hs5' hs6'
  refine fin2 (runNT_then r6 r7) ?_
  -- the second call
  obtain ⟨k2, hk2⟩ : ∃ k : Nat, wk m = (k : Int) := ⟨(wk m).toNat, by have := wk_lo m; omega⟩
  have hk21 : 1 ≤ k2 := by have := wk_lo m; omega
  have hk22 : k2 ≤ 64 := by have := wk_hi m; omega
  rw [hk2] at h07
  have hc2 := okT (H := w7.heap.size) (n := k2) (J := J) (cap := d1) (jb := j2) (z := zj) (Shun := ShunW (cT w4.heap.size k1 J c1 j1 zj) (fun l => False ∨ ShN (W.heap.size + 8) l)) hk21 hk22 (by omega) hs5' (fun a h => hS25 a (by omega))
  have hT2 : OkT (cT w7.heap.size k2 J d1 j2 zj) (ShunW (cT w4.heap.size k1 J c1 j1 zj) (fun l => False ∨ ShN (W.heap.size + 8) l)) w7 (some ⟨t2, 0, none⟩) sl t2 zs := ⟨fun _ => rfl, fun _ => hs2', fun a _ h => hS25 a (by omega), hs3', by omega, hlos, hhis⟩
  obtain ⟨K8, gs8, g8, w8, sl8, T8, q8, r8, z8, h08, hA8, hK8, L8, P8⟩ := R10.run_phase (sl := sl7) (c := cT w7.heap.size k2 J d1 j2 zj) (W := w7) (B := w7.heap.size + 8 + 2 * k2) (B₀ := w7.heap.size) hc2 (doesText hc2 rfl (fun i hi => ⟨zj i, rfl, hjs i hi, fun b w hb hw => ⟨b, rfl, hb, hw⟩⟩)) (Nat.le_refl _) rfl hs6' hT2 (Nat.le_refl _) (by omega) h07 L7 (P7.mono (by omega))
  have hs8 : w7.heap.size + 8 + 2 * k2 ≤ w8.heap.size := hK8.sz
  have hB78 : Below w7.heap.size w7 w8 := by
    have ho := hK8.kb.old
    exact ⟨ho.os, ho.tape, ho.output, by omega, fun b hb => ho.block b hb⟩
  have hB58 : Below w5.heap.size w5 w8 := hG7.below.trans (hB78.mono (by omega))
  have hB8 : Below W.heap.size W w8 := hB5.trans (hB58.mono (by omega))
  obtain ⟨bb, hbb⟩ := answers hK8
  unfold R10.Left3 at hA8
  subst hA8
  have cell_of : ∀ {w : World} {b i : Nat} {x y : Value}, w.heap[b]? = some (.cells #[x, y] 9) → w.cell? ⟨b, 0, none⟩ = some x ∧ w.cell? ⟨b, 1, none⟩ = some y := fun h => ⟨by simp [World.cell?, h], by simp [World.cell?, h]⟩
  have hFL : FL4 W ja J (w4.heap.size + 7 + 2 * k1) (w7.heap.size + 7 + 2 * k2) W.heap.size ba bb zj w8 := by
    refine ⟨hB8, hsj.below hB8, fun i hi => ?_, fun i hi => ?_⟩
    · obtain ⟨h1, h2, h3⟩ := hba i hi
      have hlt := (Array.getElem?_eq_some_iff.1 h3).1
      refine ⟨(hB58.cell (by simp only; omega)).trans h1, ?_⟩
      have h4 : w8.heap[ba i]? = some (.cells #[.string (zj i), .string (zj i ++ bang)] 9) := (hB58.block _ hlt).trans h3
      exact cell_of (i := 0) h4
    · obtain ⟨h1, h2, h3⟩ := hbb i hi
      exact ⟨h1, cell_of (i := 0) h3⟩
  have hlow : ∀ a : Addr, a.block < w7.heap.size → a.block ≠ w4.heap.size + 6 → a.block ≠ W.heap.size + 8 → ¬ ShunW (cT w7.heap.size k2 J d1 j2 zj) (ShunW (cT w4.heap.size k1 J c1 j1 zj) (fun l => False ∨ ShN (W.heap.size + 8) l)) (.cell a) := fun a h1 h2 h3 => shunW_not (shunW_not (hSh a h3) (by show a.block ≠ w4.heap.size + 6; exact h2)) (by show a.block ≠ w7.heap.size + 6; omega)
  have hhigh : ∀ a : Addr, w7.heap.size + 7 ≤ a.block → ¬ ShunW (cT w7.heap.size k2 J d1 j2 zj) (ShunW (cT w4.heap.size k1 J c1 j1 zj) (fun l => False ∨ ShN (W.heap.size + 8) l)) (.cell a) := fun a h => shunW_not (hS25 a (by omega)) (by show a.block ≠ w7.heap.size + 6; omega)
  obtain ⟨c, hgood⟩ := good4 (Shun := ShunW (cT w7.heap.size k2 J d1 j2 zj) (ShunW (cT w4.heap.size k1 J c1 j1 zj) (fun l => False ∨ ShN (W.heap.size + 8) l))) (B := w8.heap.size) (W := W) (Post := PostA W) (P := w7.heap.size + 7 + 2 * k2) hpost hJ'
    (fun a h => hlow a (by omega) (by omega) (by omega)) (fun a h => hlow a (by omega) (by omega) (by omega)) (fun a h => hhigh a (by omega))
    (fun i hi => by
      obtain ⟨h1, h2, h3⟩ := hba i hi
      have hlt := (Array.getElem?_eq_some_iff.1 h3).1
      exact ⟨by omega, fun a h => hlow a (by omega) (by omega) (by omega)⟩)
    (fun i hi => by
      obtain ⟨h1, h2, h3⟩ := hbb i hi
      have hlt := (Array.getElem?_eq_some_iff.1 h3).1
      exact ⟨by omega, fun a h => hhigh a (by omega)⟩)
    (by omega) (by omega) (by omega) hTe h11e h12e hFL
  exact fin2 r8 (beside_ends (fun _ _ _ h => h) h08 L8 P8 hgood)
#print axioms alike_run
end Go.Proofs.Ytngnkdedfcnfkaa
