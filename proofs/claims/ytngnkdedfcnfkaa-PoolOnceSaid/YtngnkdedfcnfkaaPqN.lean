/-
  lantern/lanternlaw20.PoolOnce: THE RUN: entered with whatever number and script, in whatever world, on whatever tape.
-/
import Derived.Test.YtngnkdedfcnfkaaPqM
set_option linter.unusedSimpArgs false
set_option linter.unusedVariables false
namespace Go.Proofs.Ytngnkdedfcnfkaa
open Go Go.Conc Go.RowKit Go.Conc.Lib Go.ConcR.Gen Go.ConcN.Gen
open Go.ConcN (WgLive Has RW ShN upd upd_same upd_ne goes_mono)

/-- true, and what was there stands -/
def PostO (W : World) (v : Value) (w' : World) : Prop := v = .bool true ∧ Below W.heap.size W w'
/-- the call of Run that PoolOnce makes -/
def cO (H N₁ m : Nat) : Ctx :=
  { H := H, n := 1, J := m, cap := m, jb := N₁, ja := some ⟨N₁, 0, none⟩, vals := fun i => .int .i64 i, f := fun i => .int .i64 i, fn := .func (.func 12) #[] #[.pointer (some ⟨N₁ + 2, 0, none⟩)], zR := .int .i64 0, ob := fun b => b = N₁ + 1 ∨ b = N₁ + 2, has := fun d w => Seen (N₁ + 2) (N₁ + 1) m d w }
theorem okO {H N₁ m : Nat} {Shun : Loc → Prop} (hm : m ≤ 99) (hj : N₁ + 2 < H) (hS : ∀ a : Addr, N₁ ≤ a.block → ¬ Shun (.cell a)) : OkC (cO H N₁ m) Shun where
  npos := Nat.le_refl _
  nmax := by show 1 ≤ 64; omega
  Jmax := by show m ≤ 8192; omega
  ja _ := rfl
  jbH _ := by show N₁ < H; omega
  obH b h := by
    have h' : b = N₁ + 1 ∨ b = N₁ + 2 := h
    exact ⟨by show b < H; omega, fun _ => by show b ≠ N₁; omega⟩
  one _ _ := rfl
  hasS d w w' h r := Seen.same h r
  hasQ := .inl rfl
  f1 _ := rfl
  fn1 := rfl
  f2 _ := rfl
  sh a h _ := hS a (by have : H ≤ a.block := h; omega)
  shj a _ h := hS a (by have : a.block = N₁ := h; omega)
  sho a h := hS a (by have h' : a.block = N₁ + 1 ∨ a.block = N₁ + 2 := h; omega)
theorem enter5 (nv tv : Value) : Frame.enter Try.prog 5 #[nv, tv] .normal = (base 5).at ⟨(nv :: tv :: List.replicate 57 undef).toArray, []⟩ [.code body5] := by
  simp [Frame.enter, Frame.at, Try.func5, base, body5, Try.f5]
set_option maxHeartbeats 2000000 in
theorem once_run {W : World} {ta : Option Addr} {tl tc : Nat} {n : Int} {zt : Nat → Int} (hst : SrcV W ta tl W.heap.size (fun i => .int .i64 (zt i))) (htl : tl * 8 ≤ 140737488355328)
    (hlo : ∀ i, i < tl → -9223372036854775808 ≤ zt i) (hhi : ∀ i, i < tl → zt i < 9223372036854775808) :
    ∃ M last o w' t', runNT Try.prog (M + 1) (solo (G (Frame.enter Try.prog 5 #[.int .i64 n, .slice ta tl tc] .normal) []) W) #[] = (.ended o w', t') ∧
      runN Try.prog M (solo (G (Frame.enter Try.prog 5 #[.int .i64 n, .slice ta tl tc] .normal) []) W) = .next last ∧ step Try.prog last = .ended o w' ∧ Good Try.prog (PostO W) last o w' t' := by
  rw [enter5, solo_eq_crowd]
  have fin : ∀ {K : Nat} {m m' : Machine} {T : Trace}, runNT Try.prog K m #[] = (.next m', T) → (∃ M last o w' t', runNT Try.prog (M + 1) m' T = (.ended o w', t') ∧ runN Try.prog M m' = .next last ∧ step Try.prog last = .ended o w' ∧ Good Try.prog (PostO W) last o w' t') →
      ∃ M last o w' t', runNT Try.prog (M + 1) m #[] = (.ended o w', t') ∧ runN Try.prog M m = .next last ∧ step Try.prog last = .ended o w' ∧ Good Try.prog (PostO W) last o w' t' := by
    rintro K m m' T hrun ⟨M, last, o, w', t', e1, e2, e3, e4⟩
    refine ⟨K + M, last, o, w', t', ?_, ?_, e3, e4⟩
    · rw [Nat.add_assoc, runNT_add, hrun]; exact e1
    · rw [runN_add, ← runNT_fst Try.prog _ _ #[], hrun]; exact e2
  have hpost : ∀ w, Below W.heap.size W w → PostO W (.bool true) w := fun w h => ⟨rfl, h⟩
  -- into Awake
  obtain ⟨K0, gs0, g0, W0, sl0, T0, q0, r0, z0, h00, ⟨rfl, hW0⟩, L0, P0⟩ := walk_beside (P := Try.prog) (Shun := fun _ => False) (B := 0) (fun _ _ _ h => h) _ _ #[G ((base 5).at ⟨(.int .i64 n :: .slice ta tl tc :: List.replicate 57 undef).toArray, []⟩ [.code body5]) []] _ W none #[] (fun _ => 0) (Nat.le_refl _) rfl (leavers_one _ _) past_nil law5a
  have hz0 : W0.heap.size = W.heap.size := by obtain ⟨d, rfl⟩ := hW0; rfl
  -- Awake
  obtain ⟨K1, gs1, g1, w1, sl1, T1, q1, r1, z1, h01, rfl, hb1, hs1, L1, P1⟩ := awake_phase (W := W0) (sl := sl0) (fun _ _ h => h) (Nat.zero_le _) (by rw [z0]; simp) h00 L0 P0
  rw [hz0] at hb1 hs1 P1
  have hB1 : Below W.heap.size W w1 := (Below.at_ (Below.refl _ _) hW0).trans hb1
  have hSh : ∀ a : Addr, a.block ≠ W.heap.size + 8 → ¬ (False ∨ ShN (W.heap.size + 8) (.cell a)) := by
    rintro a ha (h | ⟨b, hb, hbl⟩)
    · exact h
    · cases hb; exact ha hbl
  have hS1 : ∀ a : Addr, a.block < W.heap.size → ¬ (False ∨ ShN (W.heap.size + 8) (.cell a)) := fun a h => hSh a (by omega)
  have hS2 : ∀ a : Addr, W.heap.size + 17 ≤ a.block → ¬ (False ∨ ShN (W.heap.size + 8) (.cell a)) := fun a h => hSh a (by omega)
  refine fin (runNT_then r0 r1) ?_
  have ht1 := hst.below hB1
  have hm := mk5_hi n
  obtain ⟨K3, gs3, g3, w3, sl3, T3, q3, r3, z3, h03, ⟨t1, c2, T, rfl, hT5, hG3, hn3, hgt⟩, L3, P3⟩ := walk_beside (P := Try.prog) (B := W.heap.size + 17 + 4) (fun _ _ _ h => h) _ _ gs1 _ w1 sl1 T1 q1 (Nat.le_refl _) h01 L1 (P1.mono (by omega))
    (law5b (W := W) (N₁ := W.heap.size + 17) (tl := tl) (tc := tc) (ta := ta) (n := n) (by omega) htl hS1 hS2 (Nat.le_refl _) ⟨hB1, ht1, hs1⟩)
  have hm3 := hG3.size
  obtain ⟨hr1, hr2, hr3⟩ := hG3.rows (t1, tl, fun i => .int .i64 (zt i)) (List.mem_cons_self ..)
  obtain ⟨hr4, hr5, hr6⟩ := hG3.rows (W.heap.size + 17, mk5 n, fun i => .int .i64 i) (List.mem_cons_of_mem _ (List.mem_cons_self ..))
  simp only at hr1 hr2 hr3 hr4 hr5 hr6
  have sofar : ∀ {m : Machine} {T : Trace} {K : Nat}, runNT Try.prog K (crowd gs3 w3 sl3) T3 = (.next m, T) → runNT Try.prog (K3 + K) (crowd gs1 w1 sl1) T1 = (.next m, T) := fun h => runNT_then r3 h
  have fin2 : ∀ {K : Nat} {m m' : Machine} {T₀ T : Trace}, runNT Try.prog K m T₀ = (.next m', T) → (∃ M last o w' t', runNT Try.prog (M + 1) m' T = (.ended o w', t') ∧ runN Try.prog M m' = .next last ∧ step Try.prog last = .ended o w' ∧ Good Try.prog (PostO W) last o w' t') →
      ∃ M last o w' t', runNT Try.prog (M + 1) m T₀ = (.ended o w', t') ∧ runN Try.prog M m = .next last ∧ step Try.prog last = .ended o w' ∧ Good Try.prog (PostO W) last o w' t' := by
    rintro K m m' T₀ T hrun ⟨M, last, o, w', t', e1, e2, e3, e4⟩
    refine ⟨K + M, last, o, w', t', ?_, ?_, e3, e4⟩
    · rw [Nat.add_assoc, runNT_add, hrun]; exact e1
    · rw [runN_add, ← runNT_fst Try.prog _ _ T₀, hrun]; exact e2
  have hc := okO (H := w3.heap.size) (N₁ := W.heap.size + 17) (m := mk5 n) (Shun := fun l => False ∨ ShN (W.heap.size + 8) l) hm (by omega) hS2
  have hT : OkT (cO w3.heap.size (W.heap.size + 17) (mk5 n)) (fun l => False ∨ ShN (W.heap.size + 8) l) w3 (some ⟨t1, 0, none⟩) tl t1 zt := ⟨fun _ => rfl, fun _ => hr2, fun _ h => by have h' : t1 = W.heap.size + 17 + 1 ∨ t1 = W.heap.size + 17 + 2 := h; omega, fun a _ h => hS2 a (by omega), hr3, by omega, hlo, hhi⟩
  obtain ⟨K4, gs4, g4, w4, sl4, T4, q4, r4, z4, h04, hA4, hK4, L4, P4⟩ := R8.run_phase (sl := sl3) (c := cO w3.heap.size (W.heap.size + 17) (mk5 n)) (W := w3) (B := w3.heap.size + 8 + 2 * 1 + mk5 n) (B₀ := w3.heap.size) hc (doesSeen (bb := W.heap.size + 17 + 2) (sb := W.heap.size + 17 + 1) (by omega) hc (by show w3.heap.size ≤ _; omega) rfl rfl rfl (fun i _ => ⟨rfl, rfl⟩)) (Nat.le_refl _) rfl hn3 hr6 hT (Nat.le_refl _) (by rw [z3, z1, z0]; simp) h03 L3 (P3.mono (by omega))
  have hB4 : Below W.heap.size W w4 := by
    have ho := hK4.kb.old
    have hs : w4.heap.size = w3.heap.size + 8 + 2 * 1 + mk5 n := hK4.sz
    exact hG3.below.trans ⟨ho.os, ho.tape, ho.output, by omega, fun b hb => ho.block b (by show b < w3.heap.size; omega) (fun h => by have h' : b = W.heap.size + 17 + 1 ∨ b = W.heap.size + 17 + 2 := h; omega)⟩
  unfold R8.Left3 at hA4
  subst hA4
  have hF5 : F5 W (W.heap.size + 17 + 2) (W.heap.size + 17 + 1) (mk5 n) w4 := ⟨hB4, hK4.hs⟩
  refine fin2 (sofar r4) (beside_ends (Shun := ShunW (cO w3.heap.size (W.heap.size + 17) (mk5 n)) (fun l => False ∨ ShN (W.heap.size + 8) l)) (fun _ _ _ h => h) h04 L4 P4 (good5 (O := w3.heap.size + 7 + 2 * 1) (B := w3.heap.size + 8 + 2 * 1 + mk5 n) hpost hm (fun a h => shunW_not (hS2 a (by omega)) (by show a.block ≠ w3.heap.size + 6; omega)) (fun a h => shunW_not (hS2 a (by omega)) (by show a.block ≠ w3.heap.size + 6; omega)) (by omega) (by omega) hT5 hF5))
#print axioms once_run
end Go.Proofs.Ytngnkdedfcnfkaa
