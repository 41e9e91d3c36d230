/-
  lantern/lanternlaw20.PoolKinds: THE RUN: entered with whatever slices and number, in whatever world, on whatever tape.
-/
import Derived.Test.YtngnkdedfcnfkaaPqH
set_option linter.unusedSimpArgs false
set_option linter.unusedVariables false
namespace Go.Proofs.Ytngnkdedfcnfkaa
open Go Go.Conc Go.RowKit Go.Conc.Lib Go.ConcR.Gen Go.ConcN.Gen
open Go.ConcN (WgLive Has RW ShN upd upd_same upd_ne goes_mono)

/-- true, and what was there stands -/
def PostK (W : World) (v : Value) (w' : World) : Prop := v = .bool true ∧ Below W.heap.size W w'
/-- the call of Run that PoolKinds makes -/
def cK (H n J cap jb : Nat) (z : Nat → ByteArray) : Ctx :=
  { H := H, n := n, J := J, cap := cap, jb := jb, ja := some ⟨jb, 0, none⟩, vals := fun i => .string (z i), f := fun i => .int .i64 (z i).size, fn := .func (.func 14) #[] #[], zR := .int .i64 0, ob := fun _ => False, has := fun _ _ => True }
theorem okK {H n J cap jb : Nat} {z : Nat → ByteArray} {Shun : Loc → Prop} (h1 : 1 ≤ n) (h2 : n ≤ 64) (hJ : J ≤ 8192) (hj : jb < H) (hS : ∀ a : Addr, jb ≤ a.block → ¬ Shun (.cell a)) : OkC (cK H n J cap jb z) Shun where
  npos := h1
  nmax := h2
  Jmax := hJ
  ja _ := rfl
  jbH _ := hj
  obH _ h := h.elim
  one _ h := h.elim
  hasS _ _ _ _ _ := trivial
  hasQ := .inr fun _ _ => trivial
  f1 _ := rfl
  fn1 := rfl
  f2 _ := rfl
  sh a h _ := hS a (by have : H ≤ a.block := h; omega)
  shj a _ h := hS a (by have : a.block = jb := h; omega)
  sho _ h := h.elim
theorem enter6 (jv nv tv : Value) : Frame.enter Try.prog 6 #[jv, nv, tv] .normal = (base 6).at ⟨(jv :: nv :: tv :: List.replicate 52 undef).toArray, []⟩ [.code body6] := by
  simp [Frame.enter, Frame.at, Try.func6, base, body6, Try.f6]

set_option maxHeartbeats 2000000 in
theorem kinds_run {W : World} {ja ta : Option Addr} {J cap tl tc : Nat} {n : Int} {zj : Nat → ByteArray} {zt : Nat → Int} (hsj : SrcV W ja J W.heap.size (fun i => .string (zj i))) (hst : SrcV W ta tl W.heap.size (fun i => .int .i64 (zt i))) (htl : tl * 8 ≤ 140737488355328)
    (hlo : ∀ i, i < tl → -9223372036854775808 ≤ zt i) (hhi : ∀ i, i < tl → zt i < 9223372036854775808) :
    ∃ M last o w' t', runNT Try.prog (M + 1) (solo (G (Frame.enter Try.prog 6 #[.slice ja J cap, .int .i64 n, .slice ta tl tc] .normal) []) W) #[] = (.ended o w', t') ∧
      runN Try.prog M (solo (G (Frame.enter Try.prog 6 #[.slice ja J cap, .int .i64 n, .slice ta tl tc] .normal) []) W) = .next last ∧ step Try.prog last = .ended o w' ∧ Good Try.prog (PostK W) last o w' t' := by
  rw [enter6, solo_eq_crowd]
  have fin : ∀ {K : Nat} {m m' : Machine} {T : Trace}, runNT Try.prog K m #[] = (.next m', T) → (∃ M last o w' t', runNT Try.prog (M + 1) m' T = (.ended o w', t') ∧ runN Try.prog M m' = .next last ∧ step Try.prog last = .ended o w' ∧ Good Try.prog (PostK W) last o w' t') →
      ∃ M last o w' t', runNT Try.prog (M + 1) m #[] = (.ended o w', t') ∧ runN Try.prog M m = .next last ∧ step Try.prog last = .ended o w' ∧ Good Try.prog (PostK W) last o w' t' := by
    rintro K m m' T hrun ⟨M, last, o, w', t', e1, e2, e3, e4⟩
    refine ⟨K + M, last, o, w', t', ?_, ?_, e3, e4⟩
    · rw [Nat.add_assoc, runNT_add, hrun]; exact e1
    · rw [runN_add, ← runNT_fst Try.prog _ _ #[], hrun]; exact e2
  have hpost : ∀ w, Below W.heap.size W w → PostK W (.bool true) w := fun w h => ⟨rfl, h⟩
  -- into Awake
  obtain ⟨K0, gs0, g0, W0, sl0, T0, q0, r0, z0, h00, ⟨rfl, hW0⟩, L0, P0⟩ := walk_beside (P := Try.prog) (Shun := fun _ => False) (B := 0) (fun _ _ _ h => h) _ _ #[G ((base 6).at ⟨(.slice ja J cap :: .int .i64 n :: .slice ta tl tc :: List.replicate 52 undef).toArray, []⟩ [.code body6]) []] _ W none #[] (fun _ => 0) (Nat.le_refl _) rfl (leavers_one _ _) past_nil law6a
  have hz0 : W0.heap.size = W.heap.size := by obtain ⟨d, rfl⟩ := hW0; rfl
  -- Awake
  obtain ⟨K1, gs1, g1, w1, sl1, T1, q1, r1, z1, h01, rfl, hb1, hs1, L1, P1⟩ := awake_phase (W := W0) (sl := sl0) (fun _ _ h => h) (Nat.zero_le _) (by rw [z0]; simp) h00 L0 P0
  rw [hz0] at hb1 hs1 P1
  have hB1 : Below W.heap.size W w1 := (Below.at_ (Below.refl _ _) hW0).trans hb1
  have hSh : ∀ a : Addr, a.block ≠ W.heap.size + 8 → ¬ (False ∨ ShN (W.heap.size + 8) (.cell a)) := by
    rintro a ha (h | ⟨b, hb, hbl⟩)
    · exact h
    · cases hb; exact ha hbl
  have hS1 : ∀ a : Addr, a.block < W.heap.size → ¬ (False ∨ ShN (W.heap.size + 8) (.cell a)) := fun a h => hSh a (by omega)
  have hS2 : ∀ a : Addr, W.heap.size + 17 ≤ a.block → ¬ (False ∨ ShN (W.heap.size + 8) (.cell a)) := fun a h => hSh a (by omega)
  refine fin (runNT_then r0 r1) ?_
  by_cases hJ : 1000 < J
  · exact beside_ends (fun _ _ _ h => h) h01 L1 P1 (law6b hJ hB1 hpost)
  have hJ' : J ≤ 1000 := by omega
  -- the rows
  have hj1 := hsj.below hB1
  have ht1 := hst.below hB1
  obtain ⟨K2, gs2, g2, w2, sl2, T2, q2, r2, z2, h02, ⟨j1, c1, v12, v14, v16, rfl, hG2⟩, L2, P2⟩ := walk_beside (P := Try.prog) (B := W.heap.size + 17 + 1) (fun _ _ _ h => h) _ _ gs1 _ w1 sl1 T1 q1 (Nat.le_refl _) h01 L1 (P1.mono (by omega))
    (law6c (W := W) (N₁ := W.heap.size + 17) (tl := tl) (tc := tc) (ta := ta) (n := n) (by omega) hJ' hj1 ⟨⟨hB1, by omega, fun r hr => by cases hr⟩, hj1, hs1⟩ hS1 hS2 (Nat.le_refl _))
  have ht2 := hst.below hG2.below
  obtain ⟨K3, gs3, g3, w3, sl3, T3, q3, r3, z3, h03, ⟨t1, c2, v19, v20, v21, v22, v23, v24, rfl, hG3, hgt⟩, L3, P3⟩ := walk_beside (P := Try.prog) (B := w2.heap.size + 1) (fun _ _ _ h => h) _ _ gs2 _ w2 sl2 T2 q2 (Nat.le_refl _) h02 L2 (P2.mono (by have := hG2.size; omega))
    (law6d (W := W) (N₁ := W.heap.size + 17) (by omega) htl ⟨hG2, ht2⟩ hS1 hS2 rfl (Nat.le_refl _))
  have hm3 := hG3.size
  obtain ⟨hr1, hr2, hr3⟩ := hG3.rows (t1, tl, fun i => .int .i64 (zt i)) (List.mem_cons_self ..)
  obtain ⟨hr4, hr5, hr6⟩ := hG3.rows (j1, J, fun i => .string (zj i)) (List.mem_cons_of_mem _ (List.mem_cons_self ..))
  simp only at hr1 hr2 hr3 hr4 hr5 hr6
  have sofar : ∀ {m : Machine} {T : Trace} {K : Nat}, runNT Try.prog K (crowd gs3 w3 sl3) T3 = (.next m, T) → runNT Try.prog (K2 + (K3 + K)) (crowd gs1 w1 sl1) T1 = (.next m, T) := fun h => runNT_then r2 (runNT_then r3 h)
  have fin2 : ∀ {K : Nat} {m m' : Machine} {T₀ T : Trace}, runNT Try.prog K m T₀ = (.next m', T) → (∃ M last o w' t', runNT Try.prog (M + 1) m' T = (.ended o w', t') ∧ runN Try.prog M m' = .next last ∧ step Try.prog last = .ended o w' ∧ Good Try.prog (PostK W) last o w' t') →
      ∃ M last o w' t', runNT Try.prog (M + 1) m T₀ = (.ended o w', t') ∧ runN Try.prog M m = .next last ∧ step Try.prog last = .ended o w' ∧ Good Try.prog (PostK W) last o w' t' := by
    rintro K m m' T₀ T hrun ⟨M, last, o, w', t', e1, e2, e3, e4⟩
    refine ⟨K + M, last, o, w', t', ?_, ?_, e3, e4⟩
    · rw [Nat.add_assoc, runNT_add, hrun]; exact e1
    · rw [runN_add, ← runNT_fst Try.prog _ _ T₀, hrun]; exact e2
  obtain ⟨m, hm⟩ : ∃ m : Nat, wk n = (m : Int) := ⟨(wk n).toNat, by have := wk_lo n; omega⟩
  have hm1 : 1 ≤ m := by have := wk_lo n; omega
  have hm2 : m ≤ 64 := by have := wk_hi n; omega
  rw [hm] at h03
  have hc := okK (H := w3.heap.size) (n := m) (J := J) (cap := c1) (jb := j1) (z := zj) (Shun := fun l => False ∨ ShN (W.heap.size + 8) l) (by omega) (by omega) (by omega) hr5 (fun a h => hS2 a (by omega))
  have hT : OkT (cK w3.heap.size m J c1 j1 zj) (fun l => False ∨ ShN (W.heap.size + 8) l) w3 (some ⟨t1, 0, none⟩) tl t1 zt := ⟨fun _ => rfl, fun _ => hr2, fun _ h => h, fun a _ h => hS2 a (by omega), hr3, by omega, hlo, hhi⟩
  obtain ⟨K4, gs4, g4, w4, sl4, T4, q4, r4, z4, h04, hA4, hK4, L4, P4⟩ := R13.run_phase (sl := sl3) (c := cK w3.heap.size m J c1 j1 zj) (W := w3) (B := w3.heap.size + 8 + 2 * m + J) (B₀ := w3.heap.size) hc (doesSize hc (fun _ _ => trivial) rfl (fun i _ => ⟨zj i, rfl, rfl⟩)) (Nat.le_refl _) rfl trivial hr6 hT (Nat.le_refl _) (by rw [z3, z2, z1, z0]; simp) h03 L3 (P3.mono (by omega))
  have hB4 : Below W.heap.size W w4 := by
    have ho := hK4.kb.old
    have hs : w4.heap.size = w3.heap.size + 8 + 2 * m + J := hK4.sz
    exact hG3.below.trans ⟨ho.os, ho.tape, ho.output, by omega, fun b hb => ho.block b (by show b < w3.heap.size; omega) (fun h => h)⟩
  unfold R13.Left3 at hA4
  subst hA4
  have hFL : FT W ja J (w3.heap.size + 7 + 2 * m) zj w4 := ⟨hB4, hsj, hsj.below hB4, fun i hi => hK4.ocell (x := i) hi⟩
  refine fin2 (sofar r4) (beside_ends (Shun := ShunW (cK w3.heap.size m J c1 j1 zj) (fun l => False ∨ ShN (W.heap.size + 8) l)) (fun _ _ _ h => h) h04 L4 P4 (good6 (O := w3.heap.size + 7 + 2 * m) (B := w3.heap.size + 8 + 2 * m + J) (J := J) hpost (by omega) (fun a h => shunW_not (hS1 a h) (by show a.block ≠ w3.heap.size + 6; omega)) (fun a h => shunW_not (hS2 a (by omega)) (by show a.block ≠ w3.heap.size + 6; omega)) (by omega) (by omega) hFL))
#print axioms kinds_run
end Go.Proofs.Ytngnkdedfcnfkaa
