/-
  The contract of alias, the filling of the slots, at one kind of things (I).
-/
import Derived.Test.YtblckohcjfoalaaDisH
import Derived.Deep.DeepCutAuto
import Derived.StillTailTactics
import Derived.Test.YtblckohcjfoalaaDisI
namespace Go.Proofs.Ytblckohcjfoalaa
open Go.RowKit

set_option maxHeartbeats 1600000 in
set_option maxRecDepth 100000 in
theorem alias_I (w : World) (b be ce n : Nat) (vi : Value) (f : Nat → Int) (hh : w.heap[b]? = some (.cells #[vi, .slice (some ⟨be, 0, none⟩) n ce, .slice none 0 0] 53 (0, 0))) (bi ci : Nat) (hvi : vi = .slice (some ⟨bi, 0, none⟩) n ci)
    (he : Fun w be 3 n (fun j => .int .i64 (pre f (j + 1)))) (g : Good n f) (hb : b < w.heap.size) (hbe : be < w.heap.size) :
    Calls Try.prog 30 #[.pointer (some ⟨b, 0, none⟩)] w fun e w' => (∃ v, e = .returned v) ∧ ∃ bs r sl, w'.heap[b]? = some (.cells #[vi, .slice (some ⟨be, 0, none⟩) n ce, .slice (some ⟨bs, 0, none⟩) n n] 53 (0, 0)) ∧
      w.heap.size ≤ bs ∧ bs < w'.heap.size ∧ Fun w' bs 56 (3 * n) (fun j => .int .i64 (sl j)) ∧ Acc n (pre f n) f (fun _ => false) r sl ∧ Kept w.heap.size b w w' := by
  subst hvi
  have HH := Lib.hid hh
  have HE := Lib.hid he
  have HG := Lib.hid g
  have g1 := g.pos
  have g2 := g.few
  have s1 := g.some
  have s2 := g.most
  obtain ⟨T, hT⟩ : ∃ T, pre f n = T := ⟨_, rfl⟩
  rw [hT] at s1 s2
  have HT := Lib.hid hT
  rw [hT]
  have c0 : w.cell? ⟨b, 0, none⟩ = some (.slice (some ⟨bi, 0, none⟩) n ci) := by simp [World.cell?, hh]
  have c1 : w.cell? ⟨b, 1, none⟩ = some (.slice (some ⟨be, 0, none⟩) n ce) := by simp [World.cell?, hh]
  have hmk := run_makeFull (P := Try.prog) Try.underlying22 Try.info3 rfl (n : Int) (by omega) (by omega) (by omega)
  obtain ⟨i0, hi, hz0, hz1, hz2⟩ := info_parts Try.info3
  have hw8 : wrap64 n = n := by unfold wrap64; omega
  have tq : Hid (∀ q, Calls Try.prog 15 #[.pointer (some ⟨b, 0, none⟩)] (w.drewN q) fun e w' => e = .returned (.int .i64 T) ∧ ∃ q2, w' = (w.drewN q).drewN q2) :=
    Lib.hid (fun q => by rw [← HT.out]; exact totalC_I c1 (HE.out.drewN q) g1 g2)
  clear hh he g hT
  go_enter Try.func30, Try.ntmps30
  go_wp2_with fail
  go_quiet ((go_at_call 15; exact Calls.quiet_of (tq.out _)))
  rename_i nq
  go_wp2_with fail
  have HM : Hid (M1 w ((w.drewN nq).alloc (.cells (madeCells #[.int .i64 0] n) 3)) n (fun _ => 0) (.slice none 0 0) (.slice none 0 0) [] []) := by
    refine Lib.hid ⟨⟨madeCells #[.int .i64 0] n, heap_alloc_new (w.drewN nq) _, by simp [size_madeCells], fun j hj => ?_⟩, World.ownsRow_nil _ _ _ _, World.ownsRow_nil _ _ _ _, .inl rfl, ?_⟩
    · rw [← Array.getElem?_toList, toList_madeCells_one, List.getElem?_replicate, if_pos hj]
    · exact (below_drewN' (Below.refl _ w) nq).alloc (Nat.le_refl _) _
  go_loopw [5, 6, 23] (fun vS vG i wr => ∃ (k : Nat) (S G : List Nat) (r : Nat → Int), k ≤ n ∧ i = .int .i64 k ∧ Hid (M1 w wr n r vS vG S G) ∧ Hid (L1 n T f r k S G)) (fun _ _ i _ => n - (intOf i).toNat)
  case atStart => exact ⟨0, [], [], fun _ => 0, Nat.zero_le _, rfl, HM, Lib.hid ⟨by simp, fun i => by simp, fun i hi => by simp at hi, fun i hi => by simp at hi, fun j hj => absurd hj (Nat.not_lt_zero _), rfl⟩⟩
  case round =>
    obtain ⟨k, S, G, r, hk, rfl, HM2, HL⟩ := hrel
    by_cases hkn : k < n
    · obtain ⟨X, hX⟩ : ∃ X, f k = X := ⟨_, rfl⟩
      have x0 := HG.out.no k hkn
      have x1 : X ≤ 1073741824 := by
        have h1 := pre_mono HG.out.no (k + 1) n (by omega) (Nat.le_refl _)
        have h2 := pre_nonneg HG.out.no k (by omega)
        have h3 : pre f (k + 1) = pre f k + f k := rfl
        rw [HT.out] at h1
        omega
      rw [hX] at x0
      have y0 : 0 ≤ X * (n : Int) := Int.mul_nonneg x0 (by omega)
      have y1 : X * (n : Int) ≤ 1073741824 * 4096 := Int.mul_le_mul x1 (by omega) (by omega) (by omega)
      have hw : wrap64 (X * (n : Int)) = X * (n : Int) := by unfold wrap64; omega
      have HX := Lib.hid hX
      have wq : Hid (∀ q, Calls Try.prog 14 #[.pointer (some ⟨b, 0, none⟩), .int .i64 k] (wr.drewN q) fun e w' => e = .returned (.int .i64 X) ∧ ∃ q2, w' = (wr.drewN q).drewN q2) :=
        Lib.hid (fun q => by rw [← HX.out]; exact weightC_I (by rw [World.cell?_drewN]; exact cell_later HM2.out.below c1) ((HE.out.below HM2.out.below hbe).drewN q) k hkn g2 HG.out)
      clear hX
      have cr := HM2.out.rest.cell k hkn
      have fr := HM2.out.rest.free k
      have hlen := HL.out.len
      have hsz2 : w.heap.size + 1 ≤ wr.heap.size := by
        obtain ⟨cs, h1, _, _⟩ := HM2.out.rest
        exact (Array.getElem?_eq_some_iff.1 h1).1
      by_cases hlt : X * (n : Int) < T
      · have HL2 : Hid (L1 n T f (upd r k (X * (n : Int))) (k + 1) (S ++ [k]) G) := Lib.hid (by rw [← HX.out]; exact HL.out.small (by rw [HX.out]; exact hlt))
        go_wp2_with (first
          | (go_at_call 14; refine (wq.out 0).mono ?_; rintro e w' ⟨rfl, q, rfl⟩
             have HA : Hid (M1 w (((wr.drewN q).setCell ⟨w.heap.size, k, none⟩ (.int .i64 (X * (n : Int)))).alloc (.cells #[.int .i64 (k : Int)] 3)) n (upd r k (X * (n : Int))) u5 u6 S G) := HM2.out.store hkn q _ _)
          | (at_builtin; go_loud (refine wpList_append_own_at _ rfl _ _ 22 rfl (w.heap.size + 1) 3 i0 (.int .i64 0) 1 8 Try.underlying22 hi hz0 hz1 hz2 rfl (by decide) _ S.length (S.map (fun (i : Nat) => Value.int .i64 (i : Int))) rfl HA.out.stS ⟨wr.heap.size, 0, none⟩ 1 1 [.int .i64 (k : Int)] rfl rfl (new_at wr _ (by simp [World.setCell]) _ _) (by intro u hu; simp at hu; subst hu; rfl) (by unfold maxLen; omega) (by omega) (Nat.le_trans (show w.heap.size + 1 ≤ wr.heap.size from hsz2) (by simp [World.setCell])) ?_; intro v' w1 hown' hgrow _ hat; have HM3 : Hid (M1 w w1 n (upd r k (X * (n : Int))) v' u6 (S ++ [k]) G) := HA.out.pushS hown' hgrow hat; clear hown' hgrow hat)))
        go_roundw
        case rel => exact ⟨k + 1, S ++ [k], G, upd r k (X * (n : Int)), by omega, by go_num, HM3, HL2⟩
        case measure => simp [intOf]; omega
      · have HL2 : Hid (L1 n T f (upd r k (X * (n : Int))) (k + 1) S (G ++ [k])) := Lib.hid (by rw [← HX.out]; exact HL.out.great (by rw [HX.out]; omega))
        go_wp2_with (first
          | (go_at_call 14; refine (wq.out 0).mono ?_; rintro e w' ⟨rfl, q, rfl⟩
             have HA : Hid (M1 w (((wr.drewN q).setCell ⟨w.heap.size, k, none⟩ (.int .i64 (X * (n : Int)))).alloc (.cells #[.int .i64 (k : Int)] 3)) n (upd r k (X * (n : Int))) u5 u6 S G) := HM2.out.store hkn q _ _)
          | (at_builtin; go_loud (refine wpList_append_own_at _ rfl _ _ 22 rfl (w.heap.size + 1) 3 i0 (.int .i64 0) 1 8 Try.underlying22 hi hz0 hz1 hz2 rfl (by decide) _ G.length (G.map (fun (i : Nat) => Value.int .i64 (i : Int))) rfl HA.out.stG ⟨wr.heap.size, 0, none⟩ 1 1 [.int .i64 (k : Int)] rfl rfl (new_at wr _ (by simp [World.setCell]) _ _) (by intro u hu; simp at hu; subst hu; rfl) (by unfold maxLen; omega) (by omega) (Nat.le_trans (show w.heap.size + 1 ≤ wr.heap.size from hsz2) (by simp [World.setCell])) ?_; intro v' w1 hown' hgrow _ hat; have HM3 : Hid (M1 w w1 n (upd r k (X * (n : Int))) u5 v' S (G ++ [k])) := HA.out.pushG hown' hgrow hat; clear hown' hgrow hat)))
        go_roundw
        case rel => exact ⟨k + 1, S, G ++ [k], upd r k (X * (n : Int)), by omega, by go_num, HM3, HL2⟩
        case measure => simp [intOf]; omega
    · have hkn2 : k = n := by omega
      subst hkn2
      have hmk2 := run_makeSlots k g2
      have hsz3 : w.heap.size < wr.heap.size := by
        obtain ⟨cs, h1, _, _⟩ := HM2.out.rest
        exact (Array.getElem?_eq_some_iff.1 h1).1
      have hhr : wr.heap[b]? = some (.cells #[.slice (some ⟨bi, 0, none⟩) k ci, .slice (some ⟨be, 0, none⟩) k ce, .slice none 0 0] 53 (0, 0)) := by rw [HM2.out.below.block b hb]; exact HH.out
      have d2 : wr.cell? ⟨b, 2, none⟩ = some (.slice none 0 0) := by simp [World.cell?, hhr]
      have d3 : wr.frozen? ⟨b, 2, none⟩ = false := by simp [World.frozen?, hhr]
      have HHR := Lib.hid hhr
      clear hhr
      have hbw : b < wr.heap.size := by omega
      obtain ⟨aS, cS, rfl⟩ := HM2.out.stS.val
      obtain ⟨aG, cG, rfl⟩ := HM2.out.stG.val
      have d4 : ∀ o, (wr.alloc o).cell? ⟨b, 2, none⟩ = some (.slice none 0 0) := fun o => by simp [World.cell?, Below.heap_alloc wr o b hbw, HHR.out]
      have d5 : ∀ o, (wr.alloc o).frozen? ⟨b, 2, none⟩ = false := fun o => by simp [World.frozen?, Below.heap_alloc wr o b hbw, HHR.out]
      have HM5 := Lib.hid (HM2.out.toM2 hb HH.out)
      have HL5 : Hid (L2 k T f S G r (fun _ => 0)) := Lib.hid (by have h1 := HL.out; rw [← HT.out] at h1 ⊢; exact h1.start HG.out _)
      go_wp2
      have hbs1 : w.heap.size < wr.heap.size := hsz3
      have hlen5 : S.length + G.length ≤ k := by have := HL.out.len; omega
      clear d2 d3 d4 d5 HL HHR
      rw [World.setCell_alloc_past _ _ _ _ (by omega)] at HM5
      generalize (wr.setCell ⟨b, 2, none⟩ (.slice (some ⟨wr.heap.size, 0, none⟩) k k)).alloc (.cells (madeCells #[.int .i64 0, .int .i64 0, .int .i64 0] (k * 3)) 56) = W5 at *
      generalize wr.heap.size = bs at *
      go_loopw [5, 6] (fun vS vG wr => ∃ (S G : List Nat) (r sl : Nat → Int), Hid (M2 53 w wr b bs k (.slice (some ⟨bi, 0, none⟩) k ci) (.slice (some ⟨be, 0, none⟩) k ce) r sl vS vG S G) ∧ Hid (L2 k T f S G r sl) ∧ S.length + G.length ≤ k) (fun vS vG _ => lenOf vS + 2 * lenOf vG)
      case atStart => exact ⟨S, G, r, _, HM5, HL5, hlen5⟩
      case round =>
        obtain ⟨S, G, r, sl, HM, HL, hlen⟩ := hrel
        by_cases hS : S = []
        · subst hS
          obtain ⟨aS2, cS2, rfl⟩ := HM.out.stS.val
          obtain ⟨aG2, cG2, rfl⟩ := HM.out.stG.val
          have b1 : G.length ≤ 4096 := by simp at hlen; omega
          go_wp2
          have HN : Hid (G.Nodup) := Lib.hid (by have := HL.out.nd; simpa using this)
          have HF : Hid (∀ i, i ∈ G → i < k ∧ r i = T) := Lib.hid (fun i hi => ⟨HL.out.lt i (by simpa using hi), HL.out.fin i hi⟩)
          have HL3 : Hid (Acc k T f (fun i => decide (i ∈ G.drop 0)) r sl) := Lib.hid (HL.out.acc.congr (fun i => by simp))
          clear hlen hw8 HL
          generalize wr = W2 at *
          go_loopw [129] (fun i wr => ∃ (j : Nat) (sl : Nat → Int), j ≤ G.length ∧ i = .int .i64 j ∧ Hid (M2 53 w wr b bs k (.slice (some ⟨bi, 0, none⟩) k ci) (.slice (some ⟨be, 0, none⟩) k ce) r sl (.slice aS2 0 cS2) (.slice aG2 G.length cG2) [] G) ∧ Hid (Acc k T f (fun i => decide (i ∈ G.drop j)) r sl)) (fun i _ => G.length - (intOf i).toNat)
          case atStart => exact ⟨0, sl, by omega, rfl, HM, HL3⟩
          case round =>
            obtain ⟨j, sl2, hj, rfl, HM4, HL4⟩ := hrel
            by_cases hjl : j < G.length
            · obtain ⟨q, g, rfl, hgj, gc⟩ := HM4.out.stG.at hjl
              obtain ⟨t1, t2⟩ := HF.out g (List.mem_of_getElem? hgj)
              have HL5 := Lib.hid (HL4.out.tail HN.out hgj t1 t2 (by omega))
              have c2 : wr.cell? ⟨b, 2, none⟩ = some (.slice (some ⟨bs, 0, none⟩) k k) := by simp [World.cell?, HM4.out.head]
              have d0 := HM4.out.slots.cell (g * 3) (by omega)
              have d1 := HM4.out.slots.cell (g * 3 + 1) (by omega)
              have d2 := HM4.out.slots.cell (g * 3 + 2) (by omega)
              have e0 := HM4.out.slots.free (g * 3)
              have e1 := HM4.out.slots.free (g * 3 + 1)
              have e2 := HM4.out.slots.free (g * 3 + 2)
              have HM5 := Lib.hid (HM4.out.slot t1 T g g)
              rw [Nat.mul_comm 3 g] at HM5
              clear t2 hgj
              go_wp2
              go_roundw
              case rel => exact ⟨j + 1, _, by omega, by go_num, HM5, HL5⟩
              case measure => simp [intOf]; omega
            · have hj2 : j = G.length := by omega
              have HL5 : Hid (Acc k T f (fun _ => false) r sl2) := Lib.hid (HL4.out.congr (fun i => by rw [hj2]; simp))
              go_wp2
              go_end0
              refine ⟨⟨_, rfl⟩, bs, r, sl2, HM4.out.head, Nat.le_of_lt HM4.out.lo, ?_, HM4.out.slots, HL5.out, HM4.out.kept⟩
              obtain ⟨cs, h1, _, _⟩ := HM4.out.slots
              exact (Array.getElem?_eq_some_iff.1 h1).1
        · obtain ⟨S0, s, rfl⟩ : ∃ S0 s, S = S0 ++ [s] := ⟨S.dropLast, S.getLast hS, (List.dropLast_concat_getLast hS).symm⟩
          have hG : G ≠ [] := fun e => by
            subst e
            have := HL.out.noG
            simp at this
          obtain ⟨G0, g, rfl⟩ : ∃ G0 g, G = G0 ++ [g] := ⟨G.dropLast, G.getLast hG, (List.dropLast_concat_getLast hG).symm⟩
          obtain ⟨gS, cS2, hvS, _, _⟩ := HM.out.stS.form (by simp)
          obtain ⟨gG, cG2, hvG, _, _⟩ := HM.out.stG.form (by simp)
          rw [List.length_append, List.length_singleton] at hvS hvG
          subst hvS
          subst hvG
          obtain ⟨_, ps, pc⟩ := HM.out.stS.pop
          obtain ⟨_, qs, qc⟩ := HM.out.stG.pop
          obtain ⟨t1, t2, t3, t4⟩ := HL.out.tops
          have HR := Lib.hid t4
          clear t4
          have c2 : wr.cell? ⟨b, 2, none⟩ = some (.slice (some ⟨bs, 0, none⟩) k k) := by simp [World.cell?, HM.out.head]
          have rs := HM.out.rest.cell s t1
          have rg := HM.out.rest.cell g t2
          simp only [List.length_append, List.length_singleton] at hlen
          have b1 : S0.length ≤ 4096 := by omega
          have b2 : G0.length ≤ 4096 := by omega
          have HLen := Lib.hid hlen
          clear hlen hw8
          go_upto_region 18 with fail
          clear ps qs pc qc c2 rs rg
          have HMp := Lib.hid (HM.out.popS.drewN 1)
          have hwd : { wr with drawn := wr.drawn + 1 } = wr.drewN 1 := rfl
          try simp only [List.append_eq, List.cons_append, List.nil_append]
          refine wp_region_still_tail 13 (by kernel_rfl) (by kernel_rfl) ?_
          simp only [List.take_succ_cons, List.take_zero, List.drop_succ_cons, List.drop_zero]
          rw [hwd]
          clear hwd
          generalize wr.drewN 1 = W2 at HMp ⊢
          have c2 : W2.cell? ⟨b, 2, none⟩ = some (.slice (some ⟨bs, 0, none⟩) k k) := by simp [World.cell?, HMp.out.head]
          have rs := HMp.out.rest.cell s t1
          have d0 := HMp.out.slots.cell (s * 3) (by omega)
          have d1 := HMp.out.slots.cell (s * 3 + 1) (by omega)
          have d2 := HMp.out.slots.cell (s * 3 + 2) (by omega)
          have e0 := HMp.out.slots.free (s * 3)
          have e1 := HMp.out.slots.free (s * 3 + 1)
          have e2 := HMp.out.slots.free (s * 3 + 2)
          repeat still_step
          refine wpStill_nil ?_
          go_upto_region 19 with fail
          have HMq := Lib.hid ((HMp.out.slot t1 (r s) s g).drewN 1)
          rw [Nat.mul_comm 3 s] at HMq
          clear rs c2 d0 d1 d2 e0 e1 e2
          generalize ((W2.setCell ⟨bs, s * 3, none⟩ (.int .i64 (r s))).setCell ⟨bs, s * 3 + 1, none⟩ (.int .i64 (s : Int))).setCell ⟨bs, s * 3 + 2, none⟩ (.int .i64 (g : Int)) = W3 at HMq ⊢
          have hwd : { W3 with drawn := W3.drawn + 1 } = W3.drewN 1 := rfl
          try simp only [List.append_eq, List.cons_append, List.nil_append]
          refine wp_region_still_tail 12 (by kernel_rfl) (by kernel_rfl) ?_
          simp only [List.take_succ_cons, List.take_zero, List.drop_succ_cons, List.drop_zero]
          rw [hwd]
          clear hwd
          generalize W3.drewN 1 = W4 at HMq ⊢
          have rs := HMq.out.rest.cell s t1
          have rg := HMq.out.rest.cell g t2
          have fg := HMq.out.rest.free g
          obtain ⟨X, hX⟩ : ∃ X, r s = X := ⟨_, rfl⟩
          obtain ⟨Y, hY⟩ : ∃ Y, r g = Y := ⟨_, rfl⟩
          have HX := Lib.hid hX
          have HY := Lib.hid hY
          have HR2 := HR.out
          rw [hX, hY] at HR2
          rw [hX] at rs
          rw [hY] at rg
          clear hX hY
          obtain ⟨x0, x1, x2, x3⟩ := HR2
          repeat still_step
          refine wpStill_nil ?_
          go_upto_region 20 with fail
          have HMr := Lib.hid (HMq.out.store t2 (Y - (T - X)))
          clear rs rg fg
          generalize W4.setCell ⟨w.heap.size, g, none⟩ (.int .i64 (Y - (T - X))) = W6 at HMr ⊢
          have rg := HMr.out.rest.cell g t2
          rw [upd_same] at rg
          by_cases hz : Y - (T - X) < T
          · have HL2 : Hid (L2 k T f (S0 ++ [g]) G0 (upd r g (Y - (T - X))) (put3 sl s (r s) s g)) := Lib.hid (by rw [← HX.out, ← HY.out]; exact HL.out.toS (by rw [HX.out, HY.out]; exact hz))
            obtain ⟨_, qs, qc⟩ := HMr.out.stG.pop
            have hsz3 : w.heap.size + 1 ≤ W6.heap.size := by
              have h1 := HMr.out.stG.lt _ rfl
              omega
            have HA : Hid (M2 53 w (W6.alloc (.cells #[.int .i64 (g : Int)] 3)) b bs k (.slice (some ⟨bi, 0, none⟩) k ci) (.slice (some ⟨be, 0, none⟩) k ce) (upd r g (Y - (T - X))) (put3 sl s (r s) s g) (.slice (some ⟨gS, 0, none⟩) S0.length cS2) (.slice (some ⟨gG, 0, none⟩) G0.length cG2) S0 G0) := Lib.hid (HMr.out.popG.alloc _)
            go_wp2_with (at_builtin; go_loud (refine wpList_append_own_at _ rfl _ _ 22 rfl (w.heap.size + 1) 3 i0 (.int .i64 0) 1 8 Try.underlying22 hi hz0 hz1 hz2 rfl (by decide) _ S0.length (S0.map (fun (i : Nat) => Value.int .i64 (i : Int))) rfl HA.out.stS ⟨W6.heap.size, 0, none⟩ 1 1 [.int .i64 (g : Int)] rfl rfl (new_at W6 W6 rfl _ _) (by intro u hu; simp at hu; subst hu; rfl) (by unfold maxLen; omega) (by omega) (Nat.le_trans hsz3 (by simp)) ?_; intro v' w1 hown' hgrow _ hat; have HM3 : Hid (M2 53 w w1 b bs k (.slice (some ⟨bi, 0, none⟩) k ci) (.slice (some ⟨be, 0, none⟩) k ce) (upd r g (Y - (T - X))) (put3 sl s (r s) s g) v' (.slice (some ⟨gG, 0, none⟩) G0.length cG2) (S0 ++ [g]) G0) := HA.out.pushS hown' hgrow hat; clear hown' hgrow hat))
            go_roundw
            case rel => exact ⟨S0 ++ [g], G0, _, _, HM3, HL2, by have := HLen.out; simp; omega⟩
            case measure => have h1 := HM3.out.stS.len; rw [List.length_append, List.length_singleton] at h1; show lenOf v' + 2 * G0.length < (S0.length + 1) + 2 * (G0.length + 1); omega
          · have HL2 : Hid (L2 k T f S0 (G0 ++ [g]) (upd r g (Y - (T - X))) (put3 sl s (r s) s g)) := Lib.hid (by rw [← HX.out, ← HY.out]; exact HL.out.toG (by rw [HX.out, HY.out]; omega))
            have HM3 : Hid (M2 53 w W6 b bs k (.slice (some ⟨bi, 0, none⟩) k ci) (.slice (some ⟨be, 0, none⟩) k ce) (upd r g (Y - (T - X))) (put3 sl s (r s) s g) (.slice (some ⟨gS, 0, none⟩) S0.length cS2) (.slice (some ⟨gG, 0, none⟩) (G0.length + 1) cG2) S0 (G0 ++ [g])) := HMr
            go_wp2
            go_roundw
            case rel => exact ⟨S0, G0 ++ [g], _, _, HM3, HL2, by have := HLen.out; simp; omega⟩
            case measure => simp [lenOf]

end Go.Proofs.Ytblckohcjfoalaa
