/-
  What a worker does with a job: the square of a number; the length of a text.
-/
import Derived.Test.YtngnkdedfcnfkaaPrA
set_option linter.unusedSimpArgs false
set_option linter.unusedVariables false
namespace Go.Proofs.Ytngnkdedfcnfkaa
open Go Go.Conc Go.RowKit Go.Conc.Lib Go.ConcR.Gen Go.ConcN.Gen
open Go.ConcN (WgLive Has RW)
open Go.ConcR (KK WgAt stA smA)

theorem nm9 : (Try.f9.name == "runtime.NumGoroutine") = false := by kernel_rfl
theorem nm14 : (Try.f14.name == "runtime.NumGoroutine") = false := by kernel_rfl
theorem events_len_text (s : ByteArray) (w : World) (es : Array Event) : (Builtin.len_ #[9] 3 #[.string s]).events Try.prog w es = es := by
  simp [Builtin.len_, run_underlying Try.underlying9]
section
variable {c : Ctx} {Shun : Loc → Prop} {B : Nat}
set_option maxRecDepth 100000 in
theorem doesSquare (hc : OkC c Shun) (hq : ∀ d w, c.has d w) (hfn : c.fn = .func (.func 9) #[] #[]) (hv : ∀ i, i < c.J → ∃ x : Int, c.vals i = .int .i64 x ∧ c.f i = .int .i64 (IntKind.wrap .i64 (x * x))) : Does c B 14 := by
  intro k j home b a ops i rest o x y ats k₀ cs m' hk hj ho hw hb hop hx hy w hF hnext
  obtain ⟨x0, hx0, hfx⟩ := hv j hj
  unfold GoesTo backW at hnext ⊢
  rw [hfx] at hnext ⊢
  rw [hx0] at hy
  rw [hfn] at hx
  (refine Goes.step rfl (fun _ h₁_ => ?_); replace hF := (FW.rely hc) hF h₁_; clear h₁_)
  refine goes_callv ho hw hb hop hx Try.func9 nm9 rfl ⟨by (refine dps_none ?_; intro e he; simp at he), ?_⟩
  simp only [List.map_toArray, List.map_cons, List.map_nil, hy]
  walk_nrmf Try.f9
  (refine Goes.step rfl (fun _ h₁_ => ?_); replace hF := (FW.rely hc) hF h₁_; clear h₁_; rw [stepG_seq]; simp only [goes_go]; refine ⟨by (refine dps_none ?_; intro e he; simp at he), ?_⟩)
  (refine Goes.step rfl (fun _ h₁_ => ?_); replace hF := (FW.rely hc) hF h₁_; clear h₁_; rw [stepG_region]; simp only [goes_go, List.size_toArray, List.length_cons, List.length_nil, Nat.reduceAdd, Nat.zero_add, List.range, List.range.loop]; refine ⟨by (refine dps_none ?_; intro e he; simp at he), ?_⟩)
  (refine Goes.step rfl (fun _ h₁_ => ?_); replace hF := (FW.rely hc) hF h₁_; clear h₁_; refine goes_oper_k rfl rfl (by k_ne) (fun K_ hK_ => ?_); go_simp; refine hK_ _ _ ⟨?_, ?_⟩; (focus (refine dps_none ?_; intro e he; have hm := mem_listed he; simp [go_sem, *] at hm)); clear hK_ K_; try w_num)
  (refine Goes.step rfl (fun _ h₁_ => ?_); replace hF := (FW.rely hc) hF h₁_; clear h₁_; rw [stepG_region_end]; simp only [goes_go]; refine ⟨by (refine dps_none ?_; intro e he; simp at he), ?_⟩)
  (refine Goes.step rfl (fun _ h₁_ => ?_); replace hF := (FW.rely hc) hF h₁_; clear h₁_; rw [stepG_seq]; simp only [goes_go]; refine ⟨by (refine dps_none ?_; intro e he; simp at he), ?_⟩)
  (refine Goes.step rfl (fun _ h₁_ => ?_); replace hF := (FW.rely hc) hF h₁_; clear h₁_; rw [stepG_region]; simp only [goes_go, List.size_toArray, List.length_cons, List.length_nil, Nat.reduceAdd, Nat.zero_add, List.range, List.range.loop]; refine ⟨by (refine dps_none ?_; intro e he; simp at he), ?_⟩)
  (refine Goes.step rfl (fun _ h₁_ => ?_); replace hF := (FW.rely hc) hF h₁_; clear h₁_; refine goes_oper_k rfl rfl (by k_ne) (fun K_ hK_ => ?_); go_simp; refine hK_ _ _ ⟨?_, ?_⟩; (focus (refine dps_none ?_; intro e he; have hm := mem_listed he; simp [go_sem, *] at hm)); clear hK_ K_; try w_num)
  (refine Goes.step rfl (fun _ h₁_ => ?_); replace hF := (FW.rely hc) hF h₁_; clear h₁_; refine goes_oper_k rfl rfl (by k_ne) (fun K_ hK_ => ?_); go_simp; refine hK_ _ _ ⟨?_, ?_⟩; (focus (refine dps_none ?_; intro e he; have hm := mem_listed he; simp [go_sem, *] at hm)); clear hK_ K_; try w_num)
  (refine Goes.step rfl (fun _ h₁_ => ?_); replace hF := (FW.rely hc) hF h₁_; clear h₁_; refine goes_oper_k rfl rfl (by k_ne) (fun K_ hK_ => ?_); go_simp; refine hK_ _ _ ⟨?_, ?_⟩; (focus (refine dps_none ?_; intro e he; have hm := mem_listed he; simp [go_sem, *] at hm)); clear hK_ K_; try w_num)
  (refine Goes.step rfl (fun _ h₁_ => ?_); replace hF := (FW.rely hc) hF h₁_; clear h₁_; refine goes_oper_k rfl rfl (by k_ne) (fun K_ hK_ => ?_); go_simp; refine hK_ _ _ ⟨?_, ?_⟩; (focus (refine dps_none ?_; intro e he; have hm := mem_listed he; simp [go_sem, *] at hm)); clear hK_ K_; try w_num)
  (refine Goes.step rfl (fun _ h₁_ => ?_); replace hF := (FW.rely hc) hF h₁_; clear h₁_; rw [stepG_region_end]; simp only [goes_go]; refine ⟨by (refine dps_none ?_; intro e he; simp at he), ?_⟩)
  (refine Goes.step rfl (fun _ h₁_ => ?_); replace hF := (FW.rely hc) hF h₁_; clear h₁_; rw [stepG_ret']; simp only [goes_go]; refine ⟨by (refine dps_none ?_; intro e he; simp at he), ?_⟩)
  (refine Goes.step rfl (fun _ h₁_ => ?_); replace hF := (FW.rely hc) hF h₁_; clear h₁_)
  refine goes_leave1 rfl rfl Try.func9 rfl ⟨by (refine dps_none ?_; intro e he; simp at he), ?_⟩
  rw [ho]
  exact hnext _ ⟨hF.1, hq _ _⟩

set_option maxRecDepth 100000 in
theorem doesSize (hc : OkC c Shun) (hq : ∀ d w, c.has d w) (hfn : c.fn = .func (.func 14) #[] #[]) (hv : ∀ i, i < c.J → ∃ s : ByteArray, c.vals i = .string s ∧ c.f i = .int .i64 s.size) : Does c B 13 := by
  intro k j home b a ops i rest o x y ats k₀ cs m' hk hj ho hw hb hop hx hy w hF hnext
  obtain ⟨x0, hx0, hfx⟩ := hv j hj
  unfold GoesTo backW at hnext ⊢
  rw [hfx] at hnext ⊢
  rw [hx0] at hy
  rw [hfn] at hx
  (refine Goes.step rfl (fun _ h₁_ => ?_); replace hF := (FW.rely hc) hF h₁_; clear h₁_)
  refine goes_callv ho hw hb hop hx Try.func14 nm14 rfl ⟨by (refine dps_none ?_; intro e he; simp at he), ?_⟩
  simp only [List.map_toArray, List.map_cons, List.map_nil, hy]
  walk_nrmf Try.f14
  (refine Goes.step rfl (fun _ h₁_ => ?_); replace hF := (FW.rely hc) hF h₁_; clear h₁_; rw [stepG_seq]; simp only [goes_go]; refine ⟨by (refine dps_none ?_; intro e he; simp at he), ?_⟩)
  (refine Goes.step rfl (fun _ h₁_ => ?_); replace hF := (FW.rely hc) hF h₁_; clear h₁_; rw [stepG_region]; simp only [goes_go, List.size_toArray, List.length_cons, List.length_nil, Nat.reduceAdd, Nat.zero_add, List.range, List.range.loop]; refine ⟨by (refine dps_none ?_; intro e he; simp at he), ?_⟩)
  (refine Goes.step rfl (fun _ h₁_ => ?_); replace hF := (FW.rely hc) hF h₁_; clear h₁_; refine goes_oper_k rfl rfl (by k_ne) (fun K_ hK_ => ?_); go_simp; refine hK_ _ _ ⟨?_, ?_⟩; (focus (refine dps_none ?_; intro e he; have hm := mem_listed he; simp [go_sem, *] at hm)); clear hK_ K_; try w_num)
  (refine Goes.step rfl (fun _ h₁_ => ?_); replace hF := (FW.rely hc) hF h₁_; clear h₁_; rw [stepG_region_end]; simp only [goes_go]; refine ⟨by (refine dps_none ?_; intro e he; simp at he), ?_⟩)
  (refine Goes.step rfl (fun _ h₁_ => ?_); replace hF := (FW.rely hc) hF h₁_; clear h₁_; rw [stepG_seq]; simp only [goes_go]; refine ⟨by (refine dps_none ?_; intro e he; simp at he), ?_⟩)
  (refine Goes.step rfl (fun _ h₁_ => ?_); replace hF := (FW.rely hc) hF h₁_; clear h₁_; rw [stepG_region]; simp only [goes_go, List.size_toArray, List.length_cons, List.length_nil, Nat.reduceAdd, Nat.zero_add, List.range, List.range.loop]; refine ⟨by (refine dps_none ?_; intro e he; simp at he), ?_⟩)
  (refine Goes.step rfl (fun _ h₁_ => ?_); replace hF := (FW.rely hc) hF h₁_; clear h₁_; refine goes_oper_k rfl rfl (by k_ne) (fun K_ hK_ => ?_); go_simp; refine hK_ _ _ ⟨?_, ?_⟩; (focus (refine dps_none ?_; intro e he; have hm := mem_listed he; simp [go_sem, *] at hm)); clear hK_ K_; try w_num)
  (refine Goes.step rfl (fun _ h₁_ => ?_); replace hF := (FW.rely hc) hF h₁_; clear h₁_; refine goes_oper_k rfl rfl (by k_ne) (fun K_ hK_ => ?_); have hf0_ := events_len_text x0; go_simp; refine hK_ _ _ ⟨?_, ?_⟩; (focus (refine dps_none ?_; intro e he; have hm := mem_listed he; simp [go_sem, *] at hm)); clear hK_ K_ hf0_; try w_num)
  (refine Goes.step rfl (fun _ h₁_ => ?_); replace hF := (FW.rely hc) hF h₁_; clear h₁_; refine goes_oper_k rfl rfl (by k_ne) (fun K_ hK_ => ?_); go_simp; refine hK_ _ _ ⟨?_, ?_⟩; (focus (refine dps_none ?_; intro e he; have hm := mem_listed he; simp [go_sem, *] at hm)); clear hK_ K_; try w_num)
  (refine Goes.step rfl (fun _ h₁_ => ?_); replace hF := (FW.rely hc) hF h₁_; clear h₁_; rw [stepG_region_end]; simp only [goes_go]; refine ⟨by (refine dps_none ?_; intro e he; simp at he), ?_⟩)
  (refine Goes.step rfl (fun _ h₁_ => ?_); replace hF := (FW.rely hc) hF h₁_; clear h₁_; rw [stepG_ret']; simp only [goes_go]; refine ⟨by (refine dps_none ?_; intro e he; simp at he), ?_⟩)
  (refine Goes.step rfl (fun _ h₁_ => ?_); replace hF := (FW.rely hc) hF h₁_; clear h₁_)
  refine goes_leave1 rfl rfl Try.func14 rfl ⟨by (refine dps_none ?_; intro e he; simp at he), ?_⟩
  rw [ho]
  exact hnext _ ⟨hF.1, hq _ _⟩
end
end Go.Proofs.Ytngnkdedfcnfkaa
