/-
  PoolAlike holds: two scripts and two numbers of workers: the same answers, of texts.
-/
import Derived.Test.YtngnkdedfcnfkaaPqW
import Derived.Test.YtngnkdedfcnfkaaPqJ
set_option linter.unusedSimpArgs false
set_option linter.unusedVariables false
namespace Go.Proofs.Ytngnkdedfcnfkaa.poolAlike
open Go Go.ChangeShapes Go.WideShapes Go.ChangeAt Go.RowKit Go.Conc

section
variable {H : Type} {enc : TypeId × Value → H} {P : Program} {w : World} {base : Nat} {spare : Nat → Bool} {held : Bool}
theorem trodAll_five {t t' t'' t3 t4 : TypeId} {args : Array Value} {ds : List (DataW H)} {ps : List MemPlace} (h : DataW.TrodAll enc P w base spare held [t, t', t'', t3, t4] args.toList ds ps) :
    ∃ v v' v'' v3 v4 d d' d'' d3 d4 p p' p'' p3 p4, args = #[v, v', v'', v3, v4] ∧ ds = [d, d', d'', d3, d4] ∧ ps = p ++ p' ++ p'' ++ p3 ++ p4 ∧ DataW.Trod enc P w base spare held t v d p ∧ DataW.Trod enc P w base spare held t' v' d' p' ∧ DataW.Trod enc P w base spare held t'' v'' d'' p'' ∧
      DataW.Trod enc P w base spare held t3 v3 d3 p3 ∧ DataW.Trod enc P w base spare held t4 v4 d4 p4 := by
  obtain ⟨v, vs, d, ds', p, q, hargs, rfl, rfl, hd, hrest⟩ := trodAll_cons h
  obtain ⟨v', vs', d', ds2, p', q', rfl, rfl, rfl, hd', hrest'⟩ := trodAll_cons hrest
  obtain ⟨v'', vs'', d'', ds3, p'', q'', rfl, rfl, rfl, hd'', hrest''⟩ := trodAll_cons hrest'
  obtain ⟨v3, vs3, d3, ds4, p3, q3, rfl, rfl, rfl, hd3, hrest3⟩ := trodAll_cons hrest''
  obtain ⟨v4, vs4, d4, ds5, p4, q4, rfl, rfl, rfl, hd4, hrest4⟩ := trodAll_cons hrest3
  obtain ⟨rfl, rfl, rfl⟩ := trodAll_nil hrest4
  exact ⟨v, v', v'', v3, v4, d, d', d'', d3, d4, p, p', p'', p3, p4, by cases args; simp_all, rfl, by simp, hd, hd', hd'', hd3, hd4⟩
end

set_option maxRecDepth 100000 in
theorem lifted (os : Os) (started : os.Started) (H : Type) (enc : TypeId × Value → H) :
    ReturnsInLeavingWide {} Try.checked os 4 .any (Rows.poolAlikeSpec.pre6 enc Try.prog Try.f4 Rows.poolAlikeRow.domain false) (Rows.poolAlikeSpec.post enc Try.prog Try.f4 false true false false) := by
  refine returnsInLeavingWide_of_change_sized (C := Try.checked) Try.own started Try.func4
    (ChangeSpec.witness6 (enc := enc) (C := Try.checked) false ⟨#[], #[.slice none 0 0, .int .i64 0, .int .i64 0, .slice none 0 0, .slice none 0 0], []⟩ 8 (by kernel_rfl) (by kernel_rfl) (by kernel_rfl) (by kernel_rfl)) ?_
  intro W base args ds gs before hval0 hW _ hsz0 _
  have hsz : (DataW.weightsEach Try.prog (Try.f4.params.toList ++ Rows.poolAlikeSpec.plain.varTypes Try.prog) (ds ++ gs)).all (· ≤ reachBytes) = true := hsz0
  clear hsz0
  have hval : ∀ (j : Nat) t v, Try.f4.params[j]? = some t → args[j]? = some v → Value.okWide Try.prog W .any base t v := hval0
  have hW' := hW
  obtain ⟨p, q, hA0, hV, rfl, _, _⟩ := hW
  have hA : DataW.TrodAll enc Try.prog W 0 (fun _ => true) true Try.f4.params.toList args.toList ds p := hA0
  rw [Try.params4] at hA hval hsz
  obtain ⟨v0, v1, v2, v3, v4, d0, d1, d2, d3, d4, p0, p1, p2, p3, p4, rfl, rfl, rfl, h0, h1, h2, h3, h4⟩ := trodAll_five hA
  obtain ⟨rfl, rfl⟩ := trodVars_none hV
  obtain ⟨ja, J, cap, zj, rfl, hsj, _, hrj⟩ := open_txt (hval 0 29 v0 rfl rfl) h0
  obtain ⟨n, rfl, rfl, rfl, hn⟩ := open_int Try.underlying3 (hval 1 3 v1 rfl rfl) h1
  obtain ⟨m, rfl, rfl, rfl, hm⟩ := open_int Try.underlying3 (hval 2 3 v2 rfl rfl) h2
  obtain ⟨ta, tl, tc, zt, rfl, hst, hrt, hlen⟩ := open_src (hval 3 22 v3 rfl rfl) h3
  obtain ⟨sa, sl, sc, zs, rfl, hss, hrs, hlens⟩ := open_src (hval 4 22 v4 rfl rfl) h4
  clear hA0 hval0
  have htl : tl * 8 ≤ 140737488355328 := by
    rcases Nat.eq_zero_or_pos tl with h | h
    · omega
    · obtain ⟨es, sp, rfl, hl⟩ := hlen h
      have := sized_slice hsz (j := 3) (t := 22) (e := 3) rfl rfl Try.underlying22
      rw [Try.bytes3] at this
      simp only [reachBytes] at this
      omega
  have hsl : sl * 8 ≤ 140737488355328 := by
    rcases Nat.eq_zero_or_pos sl with h | h
    · omega
    · obtain ⟨es, sp, rfl, hl⟩ := hlens h
      have := sized_slice hsz (j := 4) (t := 22) (e := 3) rfl rfl Try.underlying22
      rw [Try.bytes3] at this
      simp only [reachBytes] at this
      omega
  have hjs : ∀ i, i < J → (zj i).size ≤ 140737488355328 := fun i hi => by
    obtain ⟨es, sp, rfl, hm⟩ := hrj i hi
    have h1 := sized_text hsz (j := 0) (t := 29) (e := 9) rfl rfl Try.underlying29 hm
    have h2 : (zj i).size = (zj i).data.toList.length := rfl
    simp only [reachBytes] at h1
    omega
  obtain ⟨M, last, o, w', t', e1, e2, e3, e4⟩ := alike_run (W := W) (cap := cap) (tc := tc) (sc := sc) (n := n) (m := m) hsj hjs hst htl (fun i hi => (hrt i hi).1) (fun i hi => (hrt i hi).2) hss hsl (fun i hi => (hrs i hi).1) (fun i hi => (hrs i hi).2)
  refine ⟨M, last, o, w', t', e1, e2, e3, e4.mono fun v hF => ?_⟩
  obtain ⟨rfl, bel⟩ : PostA W v w' := hF
  have lt0 : ∀ x ∈ p0, x.block < W.heap.size := by obtain ⟨m, hm⟩ := h0; exact DataW.trod_lt m _ _ _ hm
  have lt3 : ∀ x ∈ p3, x.block < W.heap.size := by obtain ⟨m, hm⟩ := h3; exact DataW.trod_lt m _ _ _ hm
  have lt4 : ∀ x ∈ p4, x.block < W.heap.size := by obtain ⟨m, hm⟩ := h4; exact DataW.trod_lt m _ _ _ hm
  have b0 := Below.trod Try.laidOut (by kernel_rfl) (of_decide_eq_true (by kernel_rfl)) h0 bel lt0
  have b1 := Below.trod Try.laidOut (by kernel_rfl) (of_decide_eq_true (by kernel_rfl)) h1 bel (fun _ h => by cases h)
  have b2 := Below.trod Try.laidOut (by kernel_rfl) (of_decide_eq_true (by kernel_rfl)) h2 bel (fun _ h => by cases h)
  have b3 := Below.trod Try.laidOut (by kernel_rfl) (of_decide_eq_true (by kernel_rfl)) h3 bel lt3
  have b4 := Below.trod Try.laidOut (by kernel_rfl) (of_decide_eq_true (by kernel_rfl)) h4 bel lt4
  have t1 := trodAll_cons_mk b0 (trodAll_cons_mk b1 (trodAll_mk3 b2 b3 b4))
  exact ⟨_, _, _, [], _, [], hW', trodAll_mk1 (shut_bool Try.underlying4 _), t1, rfl, bel.frame _, fun h => by cases h⟩

theorem poolAlike_holds : Rows.PoolAlikeSaid :=
  OpenClaim.holds_of_wide_leaving 4 Try.f4 rfl rfl rfl rfl rfl rfl rfl ⟨rfl, rfl, rfl, rfl, rfl⟩ rfl rfl rfl rfl rfl (by kernel_rfl) Try.func4 (by kernel_rfl)
    (of_decide_eq_true (by kernel_rfl)) (by unfold Func.isWrapper; first | (rw [if_pos (by decide +kernel)]; kernel_rfl) | (rw [if_neg (by decide +kernel)]; exact ⟨rfl, rfl⟩))
    (fun os started H enc _ => lifted os started H enc)

#print axioms poolAlike_holds
end Go.Proofs.Ytngnkdedfcnfkaa.poolAlike
