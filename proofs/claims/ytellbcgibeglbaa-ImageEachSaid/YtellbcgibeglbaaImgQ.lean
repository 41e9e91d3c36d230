/-
  The contract of Each at integer samples; the walk of ImageEach.
-/
import Derived.Test.YtellbcgibeglbaaImgT
import Derived.Sort.QuietTacIn
import Derived.Maps.AppendAt
namespace Go.Proofs.Ytellbcgibeglbaa
open Go.RowKit Go.Shelf
attribute [local go_sem] Oper.semAt_some

/-- no operation defers -/
def noDefer (ops : Array Oper) : Bool := ops.all fun o => match o.op with | .defer _ => false | _ => true

theorem noDefer_spec {ops : Array Oper} (h : noDefer ops = true) {i : Nat} {o : Oper} (hi : ops[i]? = some o) : ∀ c, o.op ≠ .defer c := by
  intro c hc
  unfold noDefer at h
  rw [Array.all_eq_true] at h
  obtain ⟨hlt, he⟩ := Array.getElem?_eq_some_iff.1 hi
  have := h i hlt
  rw [he, hc] at this
  simp at this

theorem oper_inRound {F : Fence} {n : Nat} {P : Program} {o : Oper} {a : Act} {w : World} {K : Act → World → Prop} {Q : Exit → Act → World → Prop} (l : Nat) (hnd : ∀ c, o.op ≠ .defer c)
    (h : o.wpIn F n P a w K Q) : o.wpIn (F.inRound l) n P a w K Q := by
  refine ⟨h.1, ?_⟩
  have h2 := h.2
  rw [Oper.semAt_eq _ _ _ hnd] at h2 ⊢
  exact h2

theorem oper_mono_in {F : Fence} {n : Nat} {P : Program} {ops : Array Oper} {Q : Exit → Act → World → Prop} {i : Nat} {K K' : Act → World → Prop} {a : Act} {w : World} (l : Nat) (hnd : noDefer ops = true)
    (hK : ∀ a w, K a w → K' a w) (h : wpOpIn F n P ops Q i K a w) : wpOpIn (F.inRound l) n P ops Q i K' a w := by
  have h1 := wpOpIn_mono hK h
  unfold wpOpIn at h1 ⊢
  cases ho : ops[i]? with
  | none => simp only [ho] at h1 ⊢; exact h1
  | some o =>
    simp only [ho] at h1 ⊢
    split
    · rename_i hw
      simp only [hw, if_true] at h1
      exact oper_inRound l (noDefer_spec hnd ho) h1
    · rename_i hw
      simp only [hw] at h1
      exact h1

theorem any_inRound {F : Fence} {n : Nat} {P : Program} {md : Region.Mode} {ops : Array Oper} {Q : Exit → Act → World → Prop} (l : Nat) (hnd : noDefer ops = true) :
    ∀ (fuel : Nat) (listed : Array Bool) (a : Act) (w : World), wpAnyIn F n P md ops Q fuel listed a w → wpAnyIn (F.inRound l) n P md ops Q fuel listed a w
  | 0, _, _, _, h => h
  | fuel + 1, _, _, _, h => ⟨h.1, fun i hi => oper_mono_in l hnd (fun a w h2 => any_inRound l hnd fuel _ a w h2) (h.2 i hi)⟩

/-- A region that draws its order and only reads, in a round: one walk in the text's order, walked as outside a round. -/
theorem quiet_inRound {F : Fence} {n : Nat} {P : Program} {id : Nat} {Q : Exit → Act → World → Prop} {a : Act} {w : World} {l : List Oper} (r : Nat) (hro : F.round = none) (hm : P.follows .mixedOrders = true) (hB : Region.lexB .any l.toArray = true) (hnd : noDefer l.toArray = true)
    (h : wpQuietIn F n P l.toArray (fun w' => ∃ n, w' = w.drewN n) (fun a' => ∀ w', (∃ n, w' = w.drewN n) → Q .normal a' w') l a) : (Code.region id l.toArray true).wpIn (F.inRound r) n P Q a w := by
  simp only [Region.lexB, Bool.and_eq_true] at hB
  refine wpIn_region_any hm (any_inRound r hnd _ _ _ _ (wpAnyIn_of_quiet (C := fun w' => ∃ n, w' = w.drewN n) (Q := fun a' => ∀ w', (∃ n, w' = w.drewN n) → Q .normal a' w') hro (fun _ w' hw' h => h w' hw') _ _ _ _ ⟨1, rfl⟩ ?_))
  have := wpAnyQIn_lex (F := F) (n := n) (C := fun w' => ∃ n, w' = w.drewN n) (md := .any) hB.1 l.toArray.toList 0 (Array.replicate l.toArray.size false) a (by simp) (by simpa using hB.2) (by simpa using h)
  simpa using this

/-- the law's own boxes: the side, how many, the result -/
structure Boxes (W : World) (B : Nat) (x m : Int) (r : Value) : Prop where
  side : W.heap[B]? = some (.cells #[.int .i64 x] 3 (0, 0))
  most : W.heap[B + 1]? = some (.cells #[.int .i64 m] 3 (0, 0))
  res : W.heap[B + 2]? = some (.cells #[r] 4 (0, 0))

theorem Boxes.below {W W' : World} {B C : Nat} {x m : Int} {r : Value} (h : Boxes W B x m r) (hb : Below C W W') (hC : B + 2 < C) : Boxes W' B x m r :=
  ⟨by rw [hb.block _ (by omega)]; exact h.side, by rw [hb.block _ (by omega)]; exact h.most, by rw [hb.block _ (by omega)]; exact h.res⟩

theorem Boxes.cells {W : World} {B : Nat} {x m : Int} {r : Value} (h : Boxes W B x m r) :
    W.cell? ⟨B, 0, none⟩ = some (.int .i64 x) ∧ W.cell? ⟨B + 1, 0, none⟩ = some (.int .i64 m) ∧ W.cell? ⟨B + 2, 0, none⟩ = some r ∧
    W.frozen? ⟨B, 0, none⟩ = false ∧ W.frozen? ⟨B + 1, 0, none⟩ = false ∧ W.frozen? ⟨B + 2, 0, none⟩ = false :=
  ⟨cell_of_one h.side, cell_of_one h.most, cell_of_one h.res, free_of_one h.side, free_of_one h.most, free_of_one h.res⟩

/-- what holds in the loop: the law's boxes, the count, the image -/
structure EA (w W : World) (b g bn : Nat) (Ws Hs : Int) (n M k : Nat) : Prop where
  boxes : Boxes W w.heap.size Ws M (.bool false)
  nbox : W.heap[bn]? = some (.cells #[.int .i64 k] 3 (0, 0))
  img : IsImg W 3 66 b g Ws Hs n ((sevens n).map (Value.int .i64))
  below : Below w.heap.size w W

theorem EA.later {w W W' : World} {b g bn C : Nat} {Ws Hs : Int} {n M k : Nat} (h : EA w W b g bn Ws Hs n M k) (hb : Below C W W') (h0 : w.heap.size + 2 < C) (h1 : b < C) (h2 : g < C) (h3 : bn < C) : EA w W' b g bn Ws Hs n M k :=
  ⟨h.boxes.below hb h0, by rw [hb.block _ h3]; exact h.nbox, h.img.below hb h1 h2, h.below.trans (hb.mono (by omega))⟩

theorem EA.drew {w W : World} {b g bn : Nat} {Ws Hs : Int} {n M k : Nat} (h : EA w W b g bn Ws Hs n M k) : EA w W.drew b g bn Ws Hs n M k :=
  ⟨⟨h.boxes.side, h.boxes.most, h.boxes.res⟩, h.nbox, ⟨h.img.head, h.img.row, h.img.len⟩, h.below.drew⟩

theorem EA.next {w W : World} {b g bn : Nat} {Ws Hs : Int} {n M k : Nat} (h : EA w W b g bn Ws Hs n M k) (h0 : w.heap.size + 2 < bn) (h1 : b ≠ bn) (h2 : g ≠ bn) (k' : Nat) :
    EA w (W.setCell ⟨bn, 0, none⟩ (.int .i64 k')) b g bn Ws Hs n M k' := by
  refine ⟨⟨?_, ?_, ?_⟩, one_setCell h.nbox, ⟨?_, ?_, h.img.len⟩, h.below.setCell (by simp; omega) _⟩
  · rw [Below.heap_setCell _ _ _ _ (by simp; omega)]; exact h.boxes.side
  · rw [Below.heap_setCell _ _ _ _ (by simp; omega)]; exact h.boxes.most
  · rw [Below.heap_setCell _ _ _ _ (by simp; omega)]; exact h.boxes.res
  · rw [Below.heap_setCell _ _ _ _ h1]; exact h.img.head
  · rw [Below.heap_setCell _ _ _ _ h2]; exact h.img.row

theorem below_putObj (W : World) (l : Nat) (o : Obj) : Below l W (W.putObj l o) :=
  ⟨rfl, rfl, rfl, by simp, fun k hk => World.putObj_heap_other (by omega)⟩

/-- the round's end: n is stored, the record is laid anew -/
theorem each_end {w Vc : World} {b g bn D : Nat} {Ws Hs : Int} {n M k : Nat} {r : Loop} (h : EA w Vc b g bn Ws Hs n M k) (hK : Vc.heap[D]? = some (.deferred (some []))) (hL : Vc.heap[D + 1]? = some (.loop r))
    (h0 : w.heap.size + 2 < bn) (h1 : b < bn) (h2 : g < bn) (h3 : bn < D) (k' : Nat) (jump : Option Code) :
    ∃ W', (Instr.endRound (D + 1) jump).run Try.prog (Vc.setCell ⟨bn, 0, none⟩ (.int .i64 k')) = .ok (.bool jump.isNone) W' ∧ EA w W' b g bn Ws Hs n M k' ∧ W'.heap[D]? = some (.deferred (some [])) ∧
      W'.heap[D + 1]? = some (.loop { r with state := if jump.isNone then .ready else .done, pending := jump }) ∧ W'.heap.size = Vc.heap.size := by
  have hL2 : (Vc.setCell ⟨bn, 0, none⟩ (.int .i64 k')).heap[D + 1]? = some (.loop r) := by rw [Below.heap_setCell _ _ _ _ (by simp; omega)]; exact hL
  have hlt : D + 1 < (Vc.setCell ⟨bn, 0, none⟩ (.int .i64 k')).heap.size := (Array.getElem?_eq_some_iff.1 hL2).1
  refine ⟨_, run_endRound jump hL2, ?_, ?_, World.putObj_heap_same hlt, by simp [World.setCell]⟩
  · exact (h.next h0 (by omega) (by omega) k').later (below_putObj _ _ _) (by omega) (by omega) (by omega) (by omega)
  · rw [World.putObj_heap_other (by omega), Below.heap_setCell _ _ _ _ (by simp; omega)]; exact hK

theorem EA.drewN {w W : World} {b g bn : Nat} {Ws Hs : Int} {n M k : Nat} (h : EA w W b g bn Ws Hs n M k) (q : Nat) : EA w (W.drewN q) b g bn Ws Hs n M k :=
  ⟨⟨h.boxes.side, h.boxes.most, h.boxes.res⟩, h.nbox, ⟨h.img.head, h.img.row, h.img.len⟩, below_drewN' h.below q⟩


theorem each_out {P : Program} {w Vc : World} {b g bn D : Nat} {Ws Hs : Int} {n M k : Nat} {r : Loop} (h : EA w Vc b g bn Ws Hs n M k) (hK : Vc.heap[D]? = some (.deferred (some []))) (hL : Vc.heap[D + 1]? = some (.loop r)) (hb : r.state ≠ .busy)
    (h0 : w.heap.size + 2 < bn) (h1 : b < bn) (h2 : g < bn) (h3 : bn < D) :
    ∃ W', (Instr.endLoop (D + 1)).run P Vc = .ok r.pending W' ∧ EA w W' b g bn Ws Hs n M k ∧ W'.heap[D]? = some (.deferred (some [])) := by
  refine ⟨_, run_endLoop hL hb, ?_, ?_⟩
  · exact h.later (below_putObj _ _ _) (by omega) (by omega) (by omega) (by omega)
  · rw [World.putObj_heap_other (by omega)]; exact hK


theorem each_close {w W : World} {b g bn D : Nat} {Ws Hs : Int} {n M k : Nat} (h : EA w W b g bn Ws Hs n M k) (hK : W.heap[D]? = some (.deferred (some []))) (h0 : w.heap.size + 2 < D) (x : Bool) :
    (W.setCell ⟨w.heap.size + 1 + 1, 0, none⟩ (.bool x)).heap[D]? = some (.deferred (some [])) ∧
    ((W.setCell ⟨w.heap.size + 1 + 1, 0, none⟩ (.bool x)).putObj D (.deferred none)).cell? ⟨w.heap.size + 1 + 1, 0, none⟩ = some (.bool x) ∧
    Below w.heap.size w ((W.setCell ⟨w.heap.size + 1 + 1, 0, none⟩ (.bool x)).putObj D (.deferred none)) := by
  have h1 : (W.setCell ⟨w.heap.size + 1 + 1, 0, none⟩ (.bool x)).heap[w.heap.size + 1 + 1]? = some (.cells #[.bool x] 4 (0, 0)) := one_setCell h.boxes.res
  refine ⟨by rw [Below.heap_setCell _ _ _ _ (by simp; omega)]; exact hK, cell_of_one ((World.putObj_heap_other (by omega)).trans h1), ?_⟩
  exact (h.below.setCell (by simp; omega) _).trans ((below_putObj _ _ _).mono (by omega))


theorem rem100 (a : Int) : ∃ M : Nat, M < 100 ∧ wrap64 ((IntKind.u64.wrap a).tmod 100) = (M : Int) := by
  have h0 : 0 ≤ IntKind.u64.wrap a := by rw [IntKind.wrap_u64]; omega
  have h1 := Int.tmod_lt_of_pos (IntKind.u64.wrap a) (show (0 : Int) < 100 by omega)
  have h2 := Int.tmod_nonneg 100 h0
  refine ⟨((IntKind.u64.wrap a).tmod 100).toNat, by omega, ?_⟩
  unfold wrap64; omega

set_option maxHeartbeats 1600000 in
set_option maxRecDepth 100000 in
theorem each_walk (a0 a1 a2 : Int) (w : World) (_ : (Lit.int .i64 a0).wf = true) (_ : (Lit.int .i64 a1).wf = true) (_ : (Lit.int .i64 a2).wf = true) :
    Calls Try.prog 4 #[.int .i64 a0, .int .i64 a1, .int .i64 a2] w fun e w' => e = .returned (.bool true) ∧ Below w.heap.size w w' := by
  have hmf : ∀ (fn : Fn) (first cap : Array Value) (w : World), (Instr.makeFunc fn first cap).run Try.prog w = .ok (.func fn first cap) w := fun _ _ _ _ => rfl
  obtain ⟨i0, hi, hz0, hz1, hz2⟩ := info_parts Try.info3
  obtain ⟨W, Wl, Wu, eW⟩ := side9 a0
  obtain ⟨H, H1, H2, eH⟩ := side9 a1
  have P1 : 1 ≤ W * H := Int.mul_pos (by omega) (by omega)
  have P2 : W * H ≤ 9 * 9 := Int.mul_le_mul Wu H2 (by omega) (by omega)
  refine (callsIn_wide (n := 5)).1 ?_
  refine callsIn_of_wp_marks Try.func4 rfl trivial ?_ rfl
  simp only [Try.ntmps4, List.size_toArray, List.length_cons, List.length_nil, Nat.reduceAdd, Nat.reduceSub, Array.replicate_succ, Array.replicate_zero, List.push_toArray, List.append_toArray, List.nil_append, List.cons_append]
  have HBx0 : Hid (Boxes (((w.alloc (.cells #[.int .i64 a0] 3)).alloc (.cells #[.int .i64 a2] 3)).alloc (.cells #[.bool false] 4)) w.heap.size a0 a2 (.bool false)) := by
    refine Lib.hid ⟨?_, ?_, ?_⟩
    · rw [Below.heap_alloc _ _ _ (by simp; omega), Below.heap_alloc _ _ _ (by simp)]; exact heap_alloc_new w _
    · rw [Below.heap_alloc _ _ _ (by simp)]
      have := heap_alloc_new (w.alloc (.cells #[.int .i64 a0] 3)) (.cells #[.int .i64 a2] 3)
      rwa [World.size_alloc] at this
    · have := heap_alloc_new ((w.alloc (.cells #[.int .i64 a0] 3)).alloc (.cells #[.int .i64 a2] 3)) (.cells #[.bool false] 4)
      rwa [World.size_alloc, World.size_alloc] at this
  gi_wp2_with (first
    | (refine ⟨trivial, ?_⟩; gi_at_call 9; refine (callsIn_wide.2 (awake_any _)).mono ?_; rintro e wa ⟨rfl, hb⟩
       have HBa : Hid (Boxes wa w.heap.size a0 a2 (.bool false)) := HBx0.out.below hb (by simp only [World.size_alloc]; omega)
       have HB : Hid (Below w.heap.size w wa ∧ w.heap.size + 3 ≤ wa.heap.size) := Lib.hid ⟨((((Below.refl _ w).alloc (Nat.le_refl _) _).alloc (by simp) _).alloc (by simp; omega) _).trans (hb.mono (by simp only [World.size_alloc]; omega)), by have := hb.size; simp only [World.size_alloc] at this; omega⟩
       obtain ⟨c0, c1, c2, f0, f1, f2⟩ := HBa.out.cells
       clear hb))
  simp only [eW, eH]
  have HB1 : Hid (Boxes (wa.setCell ⟨w.heap.size, 0, none⟩ (.int .i64 W)) w.heap.size W a2 (.bool false)) := by
    refine Lib.hid ⟨one_setCell HBa.out.side, ?_, ?_⟩
    · rw [Below.heap_setCell _ _ _ _ (by simp)]; exact HBa.out.most
    · rw [Below.heap_setCell _ _ _ _ (by simp)]; exact HBa.out.res
  have HB2 : Hid (Below w.heap.size w (wa.setCell ⟨w.heap.size, 0, none⟩ (.int .i64 W)) ∧ w.heap.size + 3 ≤ (wa.setCell ⟨w.heap.size, 0, none⟩ (.int .i64 W)).heap.size) := by
    refine Lib.hid ⟨HB.out.1.setCell (Nat.le_refl _) _, ?_⟩
    have := HB.out.2
    simpa [World.setCell] using this
  clear eW eH HBx0 HBa HB c0 c1 c2 f0 f1 f2
  generalize wa.setCell ⟨w.heap.size, 0, none⟩ (.int .i64 W) = wb at *
  gi_loopw [7, 8] (fun v i wr => ∃ j : Nat, (j : Int) ≤ W * H ∧ i = .int .i64 j ∧ Hid (wr.ownsRow (w.heap.size + 3) 3 1 v j ((sevens j).map (Value.int .i64))) ∧ Hid (Boxes wr w.heap.size W a2 (.bool false) ∧ Below w.heap.size w wr ∧ w.heap.size + 3 ≤ wr.heap.size))
    (fun _ i _ => (W * H).toNat - (intOf i).toNat)
  case atStart => exact ⟨0, by omega, rfl, Lib.hid (World.ownsRow_nil _ _ _ _), HB1.out, HB2.out.1, HB2.out.2⟩
  case round =>
    obtain ⟨j, hj, rfl, HO, HX⟩ := hrel
    obtain ⟨c0, c1, c2, f0, f1, f2⟩ := HX.out.1.cells
    by_cases hlt : (j : Int) < W * H
    · gi_wp2_with (first
        | (gi_at_builtin; refine wpListIn_append_own _ rfl _ _ 24 rfl (w.heap.size + 3) 3 i0 (.int .i64 0) 1 8 Try.underlying24 hi hz0 hz1 hz2 rfl (by decide) _ _ _ rfl (HO.out.alloc _) ⟨wr.heap.size, 0, none⟩ 1 1 [.int .i64 (7 * (j : Int))] rfl rfl (cell_one_new _ _ _) (by intro u hu; simp at hu; subst hu; rfl) (by unfold maxLen; omega) (by omega) (by have := HX.out.2.2; simp; omega) ?_
           intro v' w1 hown' hgrow _
           rw [← sevens_succ] at hown'
           have HO' := Lib.hid hown'
           have hb3 : Below (w.heap.size + 3) wr w1 := ((Below.refl _ wr).alloc HX.out.2.2 _).grown hgrow (by have := HX.out.2.2; simp; omega) (fun q hq => (HO.out.lt q hq).1)
           have HX' : Hid (Boxes w1 w.heap.size W a2 (.bool false) ∧ Below w.heap.size w w1 ∧ w.heap.size + 3 ≤ w1.heap.size) := Lib.hid ⟨HX.out.1.below hb3 (by omega), HX.out.2.1.trans (hb3.mono (by omega)), Nat.le_trans HX.out.2.2 hb3.size⟩
           clear hown' hgrow hb3))
      go_roundw
      case rel => exact ⟨j + 1, by omega, by go_num, HO', HX'⟩
      case measure => simp [intOf]; omega
    · have hn : W * H = (j : Nat) := by omega
      have HN := Lib.hid hn
      obtain ⟨g, cap, rfl⟩ : ∃ g cap, u7 = .slice (some ⟨g, 0, none⟩) j cap := by
        rcases HO.out.2 with ⟨_, h0⟩ | ⟨g, cap, _, h, _⟩
        · omega
        · exact ⟨g, cap, h⟩
      have j1 : 1 ≤ j := by omega
      have j2 : j ≤ 81 := by omega
      obtain ⟨M, hM, eM⟩ := rem100 a2
      clear hn
      gi_wp2_with (first
        | (refine ⟨trivial, ?_⟩; gi_at_call 10; refine (callsIn_wide.2 (of_ok W H g cap (w.heap.size + 3) j (sevens j) _ (by omega) (by omega) (by omega) (by omega) (by omega) HN.out (sevens_len j) HO.out)).mono ?_
           rintro e w1 ⟨rfl, himg, hb, hsz⟩
           have HI := Lib.hid himg
           have hgr : w.heap.size + 3 ≤ wr.heap.size := HX.out.2.2
           have HGR := Lib.hid hgr
           have HX1 : Hid (Boxes w1 w.heap.size W a2 (.bool false) ∧ Below w.heap.size w w1 ∧ w1.heap.size = wr.heap.size + 2) := Lib.hid ⟨HX.out.1.below hb (by omega), HX.out.2.1.trans (hb.mono HX.out.2.1.size), hsz⟩
           clear c0 c1 c2 f0 f1 f2 hgr
           obtain ⟨c0, c1, c2, f0, f1, f2⟩ := HX1.out.1.cells
           clear himg hb hsz))
      have hsz1 := HX1.out.2.2
      have hEA : EA w ((w1.setCell ⟨w.heap.size + 1, 0, none⟩ (.int .i64 M)).alloc (.cells #[.int .i64 0] 3)) (wr.heap.size + 1) wr.heap.size w1.heap.size W H j M 0 := by
        have hE : Boxes (w1.setCell ⟨w.heap.size + 1, 0, none⟩ (.int .i64 M)) w.heap.size W M (.bool false) := by
          refine ⟨?_, one_setCell HX1.out.1.most, ?_⟩
          · rw [Below.heap_setCell _ _ _ _ (by simp)]; exact HX1.out.1.side
          · rw [Below.heap_setCell _ _ _ _ (by simp)]; exact HX1.out.1.res
        have hg := HGR.out
        have hsz2 : (w1.setCell ⟨w.heap.size + 1, 0, none⟩ (.int .i64 M)).heap.size = w1.heap.size := by simp [World.setCell]
        have hb2 : Below w1.heap.size (w1.setCell ⟨w.heap.size + 1, 0, none⟩ (.int .i64 M)) ((w1.setCell ⟨w.heap.size + 1, 0, none⟩ (.int .i64 M)).alloc (.cells #[.int .i64 0] 3)) := (Below.refl _ _).alloc (by omega) _
        refine ⟨hE.below hb2 (by omega), ?_, ?_, ?_⟩
        · have := heap_alloc_new (w1.setCell ⟨w.heap.size + 1, 0, none⟩ (.int .i64 M)) (.cells #[.int .i64 0] 3)
          rwa [hsz2] at this
        · have hi2 : IsImg (w1.setCell ⟨w.heap.size + 1, 0, none⟩ (.int .i64 M)) 3 66 (wr.heap.size + 1) wr.heap.size W H j ((sevens j).map (Value.int .i64)) :=
            ⟨by rw [Below.heap_setCell _ _ _ _ (by simp; omega)]; exact HI.out.head, by rw [Below.heap_setCell _ _ _ _ (by simp; omega)]; exact HI.out.row, HI.out.len⟩
          exact hi2.below hb2 (by omega) (by omega)
        · exact (HX1.out.2.1.setCell (by simp) _).trans (hb2.mono (by omega))
      have hW0 : ((w1.setCell ⟨w.heap.size + 1, 0, none⟩ (.int .i64 M)).alloc (.cells #[.int .i64 0] 3)).heap.size = w1.heap.size + 1 := by simp [World.setCell]
      have HEA := Lib.hid hEA
      have HW0 := Lib.hid hW0
      have HS1 := Lib.hid hsz1
      clear hEA hW0 hsz1 c0 c1 c2 f0 f1 f2 HI HX1 HX HO
      have l1 : w.heap.size + 2 < w1.heap.size := by have := HS1.out; have := HGR.out; omega
      have l2 : wr.heap.size + 1 < w1.heap.size := by have := HS1.out; omega
      generalize (w1.setCell ⟨w.heap.size + 1, 0, none⟩ (.int .i64 M)).alloc (.cells #[.int .i64 0] 3) = W0 at *
      generalize w1.heap.size = bn at *
      generalize wr.heap.size = g2 at *
      refine wpIn_rangeFunc_method rfl (by omega) (gf := 12) (m := .pointer (some ⟨g2 + 1, 0, none⟩)) rfl trivial (enters_of Try.func12 (by kernel_rfl) rfl) ?_
      intro fn rec W1 hfn hrec hb1 hsz1 hK1 hL1
      have hD1 : bn < W0.heap.size := by have := HW0.out; omega
      refine (each_in (5 - 1) (by omega) (W0.heap.size + 1) (g2 + 1) g2 j W H Wl (by omega) (by omega) (sevens j)
        (fun k V => EA w V (g2 + 1) g2 bn W H j M k ∧ k ≤ M ∧ V.heap[W0.heap.size]? = some (.deferred (some [])) ∧ V.heap[W0.heap.size + 1]? = some (.loop (rec .ready none)) ∧ W0.heap.size + 2 ≤ V.heap.size)
        (fun V => EA w V (g2 + 1) g2 bn W H j M (M + 1) ∧ M + 1 ≤ j ∧ V.heap[W0.heap.size]? = some (.deferred (some [])) ∧ V.heap[W0.heap.size + 1]? = some (.loop (rec .done (some (.exit 2)))))
        (fun k V h => h.1.img) (fun k V h => ⟨h.1.drew, h.2⟩) ?yield W1 ⟨HEA.out.later hb1 (by omega) (by omega) (by omega) (by omega), Nat.zero_le _, hK1, hL1, by omega⟩).mono ?behind
      case yield =>
        rintro k V hkn ⟨hE, hkM, hK, hL, hsz⟩
        have hgen : ∀ R : Ending → World → Prop,
            (∀ W', EA w W' (g2 + 1) g2 bn W H j M (k + 1) → k + 1 ≤ M → W'.heap[W0.heap.size]? = some (.deferred (some [])) → W'.heap[W0.heap.size + 1]? = some (.loop (rec .ready none)) → W0.heap.size + 2 ≤ W'.heap.size → R (.returned (.bool true)) W') →
            (∀ W', EA w W' (g2 + 1) g2 bn W H j M (M + 1) → M + 1 ≤ j → W'.heap[W0.heap.size]? = some (.deferred (some [])) → W'.heap[W0.heap.size + 1]? = some (.loop (rec .done (some (.exit 2)))) → R (.returned (.bool false)) W') →
            YieldAt Fence.wide (5 - 1 - 1) Try.prog (W0.heap.size + 1) (eachArgs W (sevens j) k) V R := by
         intro R hRt hRf
         have HRt := Lib.hid hRt
         have HRf := Lib.hid hRf
         clear hRt hRf
         have hy := run_yield (P := Try.prog) (args := eachArgs W (sevens j) k) hL (by rw [hrec]; rfl)
         rw [hrec] at hy
         refine ⟨fn, _, _, _, hy, roundIn_of_wpIn hfn ?_⟩
         have HE := Lib.hid hE
         have HK := Lib.hid hK
         have HL := Lib.hid hL
         clear hy hE hK hL hL1 hK1
         unfold eachArgs
         gi_wp2
         have hLa : (V.alloc (.cells #[.int .i64 ((k : Int) % W), .int .i64 ((k : Int) / W)] 32)).heap[W0.heap.size + 1]? = some (.loop (rec .ready none)) := by rw [Below.heap_alloc _ _ _ (by omega)]; exact HL.out
         have hrb := run_beginRound (P := Try.prog) hLa (by rw [hrec])
         obtain ⟨Va, hVa⟩ : ∃ Va, V.alloc (.cells #[.int .i64 ((k : Int) % W), .int .i64 ((k : Int) / W)] 32) = Va := ⟨_, rfl⟩
         have hba : Below V.heap.size V Va := by rw [← hVa]; exact (Below.refl _ _).alloc (Nat.le_refl _) _
         have hsa : Va.heap.size = V.heap.size + 1 := by rw [← hVa]; simp
         have hpa : Va.heap[V.heap.size]? = some (.cells #[.int .i64 ((k : Int) % W), .int .i64 ((k : Int) / W)] 32 (0, 0)) := by rw [← hVa]; exact heap_alloc_new V _
         rw [hVa] at hrb ⊢
         obtain ⟨Vb, hVb⟩ : ∃ Vb, Va.putObj (W0.heap.size + 1) (.loop { rec .ready none with state := .busy }) = Vb := ⟨_, rfl⟩
         rw [hVb] at hrb
         refine ⟨Vb, hrb, ?_⟩
         have hbp : Below (W0.heap.size + 1) Va Vb := by rw [← hVb]; exact below_putObj _ _ _
         have HE2 : Hid (EA w Vb (g2 + 1) g2 bn W H j M k) := (HE.out.later hba (by omega) (by omega) (by omega) (by omega)).later hbp (by omega) (by omega) (by omega) (by omega)
         have HK2 : Hid (Vb.heap[W0.heap.size]? = some (.deferred (some []))) := (hbp.block _ (by omega)).trans ((hba.block _ (by omega)).trans HK.out)
         have HL2 : Hid (Vb.heap[W0.heap.size + 1]? = some (.loop { rec .ready none with state := .busy })) := by
           refine Lib.hid ?_
           rw [← hVb]
           exact World.putObj_heap_same (by omega)
         have HP2 : Hid (Vb.heap[V.heap.size]? = some (.cells #[.int .i64 ((k : Int) % W), .int .i64 ((k : Int) / W)] 32 (0, 0))) := by
           refine Lib.hid ?_
           rw [← hVb]
           exact (World.putObj_heap_other (by omega)).trans hpa
         have HS2 : Hid (W0.heap.size + 2 ≤ Vb.heap.size) := by
           refine Lib.hid ?_
           rw [← hVb, World.putObj_size, hsa]
           omega
         clear hLa hrb hba hbp HE HK HL hVa hVb hsa hpa
         generalize V.heap.size = q at *
         have hk0 : (0 : Int) ≤ (k : Int) := by omega
         have e5 : ¬ W = 0 := by omega
         obtain ⟨X, hX⟩ : ∃ X, (k : Int) % W = X := ⟨_, rfl⟩
         obtain ⟨Y, hY⟩ : ∃ Y, (k : Int) / W = Y := ⟨_, rfl⟩
         rw [hX, hY] at HP2
         obtain ⟨c0, c1, c2, f0, f1, f2⟩ := HE2.out.boxes.cells
         have cn := cell_of_one HE2.out.nbox
         have fn2 := free_of_one HE2.out.nbox
         have cp0 : Vb.cell? ⟨q, 0, none⟩ = some (.int .i64 X) := by have := HP2.out; simp [World.cell?, this]
         have cp1 : Vb.cell? ⟨q, 1, none⟩ = some (.int .i64 Y) := by have := HP2.out; simp [World.cell?, this]
         have hmix : Try.prog.follows .mixedOrders = true := by kernel_rfl
         have hv : (sevens j)[k]?.getD 0 = 7 * (k : Int) := by rw [← List.getD_eq_getElem?_getD]; exact sevens_get j k hkn
         rw [hX, hY, hv]
         have HXX := Lib.hid hX
         have HYY := Lib.hid hY
         clear hX hY hv
         have b1 := Int.emod_nonneg (k : Int) (show W ≠ 0 by omega)
         have b2 := Int.emod_lt_of_pos (k : Int) (show 0 < W by omega)
         have b3 : 0 ≤ (k : Int) / W := Int.ediv_nonneg hk0 (by omega)
         have b4 : (k : Int) / W ≤ k := Int.ediv_le_self _ hk0
         rw [HXX.out] at b1 b2
         rw [HYY.out] at b3 b4
         have e1 : (k : Int).tmod W = X := by rw [Int.tmod_eq_emod_of_nonneg hk0]; exact HXX.out
         have e2 : (k : Int).tdiv W = Y := by rw [Int.tdiv_eq_ediv_of_nonneg hk0]; exact HYY.out
         have e3 : IntKind.i64.wrap X = X := by rw [IntKind.wrap_i64]; omega
         have e4 : IntKind.i64.wrap Y = Y := by rw [IntKind.wrap_i64]; omega
         have e6 : IntKind.i64.wrap (7 * (k : Int)) = 7 * (k : Int) := by rw [IntKind.wrap_i64]; omega
         gi_wp2_with fail
         refine quiet_inRound _ rfl hmix (by kernel_rfl) (by kernel_rfl) ?_
         have hq := neq_point X Y
         repeat (quiet_step_in (fail))
         refine wpQuietIn_nil ?_
         intro _ hw'
         obtain ⟨nq, hw''⟩ := hw'
         subst hw''
         have hE3 := HE2.out.drewN nq
         have hK3 : (Vb.drewN nq).heap[W0.heap.size]? = some (.deferred (some [])) := HK2.out
         have hL3 : (Vb.drewN nq).heap[W0.heap.size + 1]? = some (.loop { rec .ready none with state := .busy }) := HL2.out
         have e7 : wrap64 ((k : Int) + 1) = ((k + 1 : Nat) : Int) := by unfold wrap64; omega
         have E7 := Lib.hid e7
         clear e7
         by_cases hM2 : (M : Int) < (k : Int) + 1
         · obtain ⟨W', hr, hE4, hK4, hL4, hs4⟩ := each_end hE3 hK3 hL3 (by omega) (by omega) (by omega) (by omega) (k + 1) (some (.exit 2))
           have HR := Lib.hid hr
           rw [← E7.out] at hr
           have HR' := Lib.hid hr
           have HE4 := Lib.hid hE4
           have HK4 := Lib.hid hK4
           have HL4 := Lib.hid hL4
           clear hr hE3 hK3 hL3 hE4 hK4 hL4 hs4
           gi_wp2
           have hkM2 : k + 1 = M + 1 := by omega
           have F1 : EA w W' (g2 + 1) g2 bn W H j M (M + 1) := by rw [← hkM2]; exact HE4.out
           have F2 : M + 1 ≤ j := by omega
           have F3 : W'.heap[W0.heap.size + 1]? = some (.loop (rec .done (some (.exit 2)))) := by rw [HL4.out, hrec]; rfl
           first
             | exact ⟨_, _, HR'.out, HRf.out _ F1 F2 HK4.out F3⟩
             | exact ⟨_, _, HR.out, HRf.out _ F1 F2 HK4.out F3⟩
         · obtain ⟨W', hr, hE4, hK4, hL4, hs4⟩ := each_end hE3 hK3 hL3 (by omega) (by omega) (by omega) (by omega) (k + 1) none
           have HR := Lib.hid hr
           rw [← E7.out] at hr
           have HR' := Lib.hid hr
           have HE4 := Lib.hid hE4
           have HK4 := Lib.hid hK4
           have HL4 := Lib.hid hL4
           have HS4 := Lib.hid hs4
           clear hr hE3 hK3 hL3 hE4 hK4 hL4 hs4
           gi_wp2
           have F2 : k + 1 ≤ M := by omega
           have F3 : W'.heap[W0.heap.size + 1]? = some (.loop (rec .ready none)) := by rw [HL4.out, hrec]; rfl
           have F4 : W0.heap.size + 2 ≤ W'.heap.size := by have := HS2.out; have hdr : (Vb.drewN nq).heap = Vb.heap := rfl; rw [HS4.out, hdr]; exact this
           first
             | exact ⟨_, _, HR'.out, HRt.out _ HE4.out F2 HK4.out F3 F4⟩
             | exact ⟨_, _, HR.out, HRt.out _ HE4.out F2 HK4.out F3 F4⟩
        exact hgen _ (fun W' a b c d e => ⟨true, rfl, .inl ⟨rfl, a, b, c, d, e⟩⟩) (fun W' a b c d => ⟨false, rfl, .inr ⟨rfl, a, b, c, d⟩⟩)
      case behind =>
        rintro e W5 ⟨⟨v, rfl⟩, h5⟩
        rcases h5 with ⟨hE, hjM, hK, hL, _⟩ | ⟨hE, hjM, hK, hL⟩
        · obtain ⟨W6, hend, hE6, hK6⟩ := each_out (P := Try.prog) hE hK hL (by rw [hrec]; simp) (by omega) (by omega) (by omega) (by omega)
          have HE6 := Lib.hid hE6
          have HK6 := Lib.hid hK6
          refine ⟨none, W6, by rw [hrec] at hend; exact hend, ?_⟩
          obtain ⟨c0, c1, c2, f0, f1, f2⟩ := hE6.boxes.cells
          have cn := cell_of_one hE6.nbox
          clear hE hK hL hend hE6 hK6 hL1 hK1 hb1
          have e8 : IntKind.i64.wrap (W * H) = j := by rw [IntKind.wrap_i64, HN.out]; omega
          gi_wp2
          all_goals (
            refine ⟨by simp, .inl ⟨_, _, rfl, run_takeDeferred (each_close HE6.out HK6.out (by omega) _).1, ?_⟩⟩
            have hc7 := fun x => (each_close HE6.out HK6.out (by omega) x).2.1
            refine ⟨.bool true, ?_, rfl, (each_close HE6.out HK6.out (by omega) _).2.2⟩
            have hj9 := HN.out
            simp [results, Try.f4, go_sem, hc7]
            first | done | omega)
        · obtain ⟨W6, hend, hE6, hK6⟩ := each_out (P := Try.prog) hE hK hL (by rw [hrec]; simp) (by omega) (by omega) (by omega) (by omega)
          have HE6 := Lib.hid hE6
          have HK6 := Lib.hid hK6
          refine ⟨some (.exit 2), W6, by rw [hrec] at hend; exact hend, ?_⟩
          obtain ⟨c0, c1, c2, f0, f1, f2⟩ := hE6.boxes.cells
          have cn := cell_of_one hE6.nbox
          clear hE hK hL hend hE6 hK6 hL1 hK1 hb1
          gi_wp2
          all_goals (
            refine ⟨by simp, .inl ⟨_, _, rfl, run_takeDeferred (each_close HE6.out HK6.out (by omega) _).1, ?_⟩⟩
            have hc7 := fun x => (each_close HE6.out HK6.out (by omega) x).2.1
            refine ⟨.bool true, ?_, rfl, (each_close HE6.out HK6.out (by omega) _).2.2⟩
            have hj9 := HN.out
            simp [results, Try.f4, go_sem, hc7]
            first | done | omega)
end Go.Proofs.Ytellbcgibeglbaa
