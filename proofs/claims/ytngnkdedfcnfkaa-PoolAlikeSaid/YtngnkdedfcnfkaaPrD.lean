/-
  What a worker does with a job: the square of a number; the length of a text.
-/
import Derived.Test.YtngnkdedfcnfkaaPrA
set_option linter.unusedSimpArgs false
set_option linter.unusedVariables false
namespace Go.Proofs.Ytngnkdedfcnfkaa
open Go Go.Conc Go.RowKit Go.Conc.Lib Go.ConcR.Gen Go.ConcN.Gen
open Go.ConcN (WgLive Has RW)
open Go.ConcR (KK WgAt stA smA)

theorem nm9 : (Try.f9.name == "runtime.NumGoroutine") = false := by kernel_rfl
theorem nm14 : (Try.f14.name == "runtime.NumGoroutine") = false := by kernel_rfl
theorem events_len_text (s : ByteArray) (w : World) (es : Array Event) : (Builtin.len_ #[9] 3 #[.string s]).events Try.prog w es = es := by
  simp [Builtin.len_, run_underlying Try.underlying9]
section
variable {c : Ctx} {Shun : Loc → Prop} {B : Nat}
set_option maxRecDepth 100000 in
theorem doesSquare (hfn : c.fn = .func (.func 9) #[] #[]) (hv : ∀ i, i < c.J → ∃ x : Int, c.vals i = .int .i64 x ∧ ∀ w, c.Ans i (.int .i64 (IntKind.wrap .i64 (x * x))) w) : Does c B 14 := by
  intro k j home b a ops i rest o x y ats k₀ cs m' hk hj ho hw hb hop hx hy w hF hnext
  obtain ⟨x0, hx0, hfx⟩ := hv j hj
  unfold GoesTo backW at hnext ⊢
  rw [hx0] at hy
  rw [hfn] at hx
  (refine Goes.step rfl (fun _ h₁_ => ?_); replace hF := FW.rely hF h₁_; clear h₁_)
  refine goes_callv ho hw hb hop hx Try.func9 nm9 rfl ⟨by ((first | refine dps_none ?_ | refine dpg_none ?_); intro e he; simp at he), ?_⟩
  simp only [List.map_toArray, List.map_cons, List.map_nil, hy]
  walk_nrmf Try.f9
  (refine Goes.step rfl (fun _ h₁_ => ?_); replace hF := FW.rely hF h₁_; clear h₁_; rw [stepG_seq]; simp only [goes_go]; refine ⟨by ((first | refine dps_none ?_ | refine dpg_none ?_); intro e he; simp at he), ?_⟩)
  (refine Goes.step rfl (fun _ h₁_ => ?_); replace hF := FW.rely hF h₁_; clear h₁_; rw [stepG_region]; simp only [goes_go, List.size_toArray, List.length_cons, List.length_nil, Nat.reduceAdd, Nat.zero_add, List.range, List.range.loop]; refine ⟨by ((first | refine dps_none ?_ | refine dpg_none ?_); intro e he; simp at he), ?_⟩)
  (refine Goes.step rfl (fun _ h₁_ => ?_); replace hF := FW.rely hF h₁_; clear h₁_; refine goes_oper_k rfl rfl (by k_ne) (fun K_ hK_ => ?_); go_simp; refine hK_ _ _ ⟨?_, ?_⟩; (focus ((first | refine dps_none ?_ | refine dpg_none ?_); intro e he; have hm := mem_listed he; simp [go_sem, *] at hm)); clear hK_ K_; try w_num)
  (refine Goes.step rfl (fun _ h₁_ => ?_); replace hF := FW.rely hF h₁_; clear h₁_; rw [stepG_region_end]; simp only [goes_go]; refine ⟨by ((first | refine dps_none ?_ | refine dpg_none ?_); intro e he; simp at he), ?_⟩)
  (refine Goes.step rfl (fun _ h₁_ => ?_); replace hF := FW.rely hF h₁_; clear h₁_; rw [stepG_seq]; simp only [goes_go]; refine ⟨by ((first | refine dps_none ?_ | refine dpg_none ?_); intro e he; simp at he), ?_⟩)
  (refine Goes.step rfl (fun _ h₁_ => ?_); replace hF := FW.rely hF h₁_; clear h₁_; rw [stepG_region]; simp only [goes_go, List.size_toArray, List.length_cons, List.length_nil, Nat.reduceAdd, Nat.zero_add, List.range, List.range.loop]; refine ⟨by ((first | refine dps_none ?_ | refine dpg_none ?_); intro e he; simp at he), ?_⟩)
  (refine Goes.step rfl (fun _ h₁_ => ?_); replace hF := FW.rely hF h₁_; clear h₁_; refine goes_oper_k rfl rfl (by k_ne) (fun K_ hK_ => ?_); go_simp; refine hK_ _ _ ⟨?_, ?_⟩; (focus ((first | refine dps_none ?_ | refine dpg_none ?_); intro e he; have hm := mem_listed he; simp [go_sem, *] at hm)); clear hK_ K_; try w_num)
  (refine Goes.step rfl (fun _ h₁_ => ?_); replace hF := FW.rely hF h₁_; clear h₁_; refine goes_oper_k rfl rfl (by k_ne) (fun K_ hK_ => ?_); go_simp; refine hK_ _ _ ⟨?_, ?_⟩; (focus ((first | refine dps_none ?_ | refine dpg_none ?_); intro e he; have hm := mem_listed he; simp [go_sem, *] at hm)); clear hK_ K_; try w_num)
  (refine Goes.step rfl (fun _ h₁_ => ?_); replace hF := FW.rely hF h₁_; clear h₁_; refine goes_oper_k rfl rfl (by k_ne) (fun K_ hK_ => ?_); go_simp; refine hK_ _ _ ⟨?_, ?_⟩; (focus ((first | refine dps_none ?_ | refine dpg_none ?_); intro e he; have hm := mem_listed he; simp [go_sem, *] at hm)); clear hK_ K_; try w_num)
  (refine Goes.step rfl (fun _ h₁_ => ?_); replace hF := FW.rely hF h₁_; clear h₁_; refine goes_oper_k rfl rfl (by k_ne) (fun K_ hK_ => ?_); go_simp; refine hK_ _ _ ⟨?_, ?_⟩; (focus ((first | refine dps_none ?_ | refine dpg_none ?_); intro e he; have hm := mem_listed he; simp [go_sem, *] at hm)); clear hK_ K_; try w_num)
  (refine Goes.step rfl (fun _ h₁_ => ?_); replace hF := FW.rely hF h₁_; clear h₁_; rw [stepG_region_end]; simp only [goes_go]; refine ⟨by ((first | refine dps_none ?_ | refine dpg_none ?_); intro e he; simp at he), ?_⟩)
  (refine Goes.step rfl (fun _ h₁_ => ?_); replace hF := FW.rely hF h₁_; clear h₁_; rw [stepG_ret']; simp only [goes_go]; refine ⟨by ((first | refine dps_none ?_ | refine dpg_none ?_); intro e he; simp at he), ?_⟩)
  (refine Goes.step rfl (fun _ h₁_ => ?_); replace hF := FW.rely hF h₁_; clear h₁_)
  refine goes_leave1 rfl rfl Try.func9 rfl ⟨by ((first | refine dps_none ?_ | refine dpg_none ?_); intro e he; simp at he), ?_⟩
  rw [ho]
  exact hnext _ _ hF (hfx _)

theorem kept_new (w : World) (o : Obj) : Kept w (w.alloc o) := ⟨fun b arr e => by rw [← e]; exact heap_alloc_old w o b (Array.getElem?_eq_some_iff.1 e).1, by simp⟩
theorem nm11 : (Try.f11.name == "runtime.NumGoroutine") = false := by kernel_rfl
/-- '!' -/
def bang : ByteArray := ⟨#[33]⟩
theorem run_bang (s : ByteArray) (h : s.size ≤ 140737488355328) (w : World) : (Go.Op.stringOp .add s bang).run Try.prog w = .ok (.string (s ++ bang)) w := by
  have hb : bang.size = 1 := rfl
  unfold Go.Op.stringOp
  simp only [hb]
  rw [if_neg (by simp [IntKind.max, IntKind.signed, IntKind.bits]; omega)]
  rfl
theorem events_bang (s : ByteArray) (h : s.size ≤ 140737488355328) (w : World) (es : Array Event) : (Go.Op.stringOp .add s bang).events Try.prog w es = es := by
  have hb : bang.size = 1 := rfl
  unfold Go.Op.stringOp
  simp only [hb]
  rw [if_neg (by simp [IntKind.max, IntKind.signed, IntKind.bits]; omega)]
  rfl
set_option maxRecDepth 100000 in
set_option maxHeartbeats 1000000 in
/-- 'text': a new row of two texts -/
theorem doesText (hc : OkC c Shun) (hfn : c.fn = .func (.func 11) #[] #[]) (hv : ∀ i, i < c.J → ∃ s : ByteArray, c.vals i = .string s ∧ s.size ≤ 140737488355328 ∧ ∀ b w, c.E ≤ b → w.heap[b]? = some (.cells #[.string s, .string (s ++ bang)] 9) → c.Ans i (.slice (some ⟨b, 0, none⟩) 2 2) w) : Does c B 15 := by
  intro k j home b a ops i rest o x y ats k₀ cs m' hk hj ho hw hb hop hx hy w hF hnext
  obtain ⟨x0, hx0, hxs, hfx⟩ := hv j hj
  unfold GoesTo backW at hnext ⊢
  rw [hx0] at hy
  rw [hfn] at hx
  have hr := run_bang x0 hxs
  have he := events_bang x0 hxs
  unfold bang at hr he
  (refine Goes.step rfl (fun _ h₁_ => ?_); replace hF := FW.rely hF h₁_; clear h₁_)
  refine goes_callv ho hw hb hop hx Try.func11 nm11 rfl ⟨by ((first | refine dps_none ?_ | refine dpg_none ?_); intro e he; simp at he), ?_⟩
  simp only [List.map_toArray, List.map_cons, List.map_nil, hy]
  walk_nrmf Try.f11
  (refine Goes.step rfl (fun _ h₁_ => ?_); replace hF := FW.rely hF h₁_; clear h₁_; rw [stepG_seq]; simp only [goes_go]; refine ⟨by ((first | refine dps_none ?_ | refine dpg_none ?_); intro e he; simp at he), ?_⟩)
  (refine Goes.step rfl (fun _ h₁_ => ?_); replace hF := FW.rely hF h₁_; clear h₁_; rw [stepG_region]; simp only [goes_go, List.size_toArray, List.length_cons, List.length_nil, Nat.reduceAdd, Nat.zero_add, List.range, List.range.loop]; refine ⟨by ((first | refine dps_none ?_ | refine dpg_none ?_); intro e he; simp at he), ?_⟩)
  (refine Goes.step rfl (fun _ h₁_ => ?_); replace hF := FW.rely hF h₁_; clear h₁_; refine goes_oper_k rfl rfl (by k_ne) (fun K_ hK_ => ?_); go_simp; refine hK_ _ _ ⟨?_, ?_⟩; (focus ((first | refine dps_none ?_ | refine dpg_none ?_); intro e he; have hm := mem_listed he; simp [go_sem, *] at hm)); clear hK_ K_; try w_num)
  (refine Goes.step rfl (fun _ h₁_ => ?_); replace hF := FW.rely hF h₁_; clear h₁_; rw [stepG_region_end]; simp only [goes_go]; refine ⟨by ((first | refine dps_none ?_ | refine dpg_none ?_); intro e he; simp at he), ?_⟩)
  (refine Goes.step rfl (fun _ h₁_ => ?_); replace hF := FW.rely hF h₁_; clear h₁_; rw [stepG_seq]; simp only [goes_go]; refine ⟨by ((first | refine dps_none ?_ | refine dpg_none ?_); intro e he; simp at he), ?_⟩)
  (refine Goes.step rfl (fun _ h₁_ => ?_); replace hF := FW.rely hF h₁_; clear h₁_; rw [stepG_region]; simp only [goes_go, List.size_toArray, List.length_cons, List.length_nil, Nat.reduceAdd, Nat.zero_add, List.range, List.range.loop]; refine ⟨by ((first | refine dps_none ?_ | refine dpg_none ?_); intro e he; simp at he), ?_⟩)
  (refine Goes.step rfl (fun _ h₁_ => ?_); replace hF := FW.rely hF h₁_; clear h₁_; refine goes_oper_k rfl rfl (by k_ne) (fun K_ hK_ => ?_); go_simp; refine hK_ _ _ ⟨?_, ?_⟩; (focus ((first | refine dps_none ?_ | refine dpg_none ?_); intro e he; have hm := mem_listed he; simp [go_sem, *] at hm)); clear hK_ K_; try w_num)
  (refine Goes.step rfl (fun _ h₁_ => ?_); replace hF := FW.rely hF h₁_; clear h₁_; refine goes_oper_k rfl rfl (by k_ne) (fun K_ hK_ => ?_); go_simp; refine hK_ _ _ ⟨?_, ?_⟩; (focus ((first | refine dps_none ?_ | refine dpg_none ?_); intro e he; have hm := mem_listed he; simp [go_sem, *] at hm)); clear hK_ K_; try w_num)
  (refine Goes.step rfl (fun _ h₁_ => ?_); replace hF := FW.rely hF h₁_; clear h₁_; refine goes_oper_k rfl rfl (by k_ne) (fun K_ hK_ => ?_); have hf0_ := hr; have hf1_ := he; go_simp; refine hK_ _ _ ⟨?_, ?_⟩; (focus ((first | refine dps_none ?_ | refine dpg_none ?_); intro e he; have hm := mem_listed he; simp [go_sem, *] at hm)); clear hK_ K_ hf0_ hf1_; try w_num)
  (refine Goes.step rfl (fun _ h₁_ => ?_); replace hF := FW.rely hF h₁_; clear h₁_)
  rename_i w₁
  refine goes_oper_k rfl rfl (by decide) (fun K_ hK_ => ?_)
  go_simp
  have hE := hF.2 rfl
  have hal : OffG (fun _ => False) c.E w₁ (w₁.alloc (.cells #[.string x0, .string (x0 ++ bang)] 9)) := ⟨rfl, rfl, rfl, kept_new w₁ _, fun b hb _ => heap_alloc_old w₁ _ b (by omega)⟩
  refine hK_ _ _ ⟨⟨hal, fun e he => ?_⟩, ?_⟩
  · have hm := mem_listed he
    simp [go_sem] at hm
  clear hK_ K_
  have hnew := heap_alloc_new w₁ (.cells #[.string x0, .string (x0 ++ bang)] 9)
  replace hF : FW c k true (w₁.alloc (.cells #[.string x0, .string (x0 ++ bang)] 9)) := ⟨hF.1.grow hal, fun _ => Nat.le_trans hE hal.kept.size⟩
  replace hnew := hfx _ _ hE hnew
  have hA : FW c k true (w₁.alloc (.cells #[.string x0, .string (x0 ++ bang)] 9)) ∧ c.Ans j (.slice (some ⟨w₁.heap.size, 0, none⟩) 2 2) (w₁.alloc (.cells #[.string x0, .string (x0 ++ bang)] 9)) := ⟨hF, hnew⟩
  clear hF hnew
  have fa : ∀ {w w' : World}, (FW c k true w ∧ c.Ans j (.slice (some ⟨w₁.heap.size, 0, none⟩) 2 2) w) → RP (spotW c k true (c.H + 4) (fun u w => ∃ v, u = .agg #[.int .i64 j, v] ∧ c.Ans j v w) undef home (OffG (fun _ => False) c.E)) w w' → (FW c k true w' ∧ c.Ans j (.slice (some ⟨w₁.heap.size, 0, none⟩) 2 2) w') := fun h r => ⟨h.1.rely r, hc.ansK _ _ _ _ h.2 r.2.2⟩
  (refine Goes.step rfl (fun _ h₁_ => ?_); replace hA := fa hA h₁_; clear h₁_; refine goes_oper_k rfl rfl (by k_ne) (fun K_ hK_ => ?_); go_simp; refine hK_ _ _ ⟨?_, ?_⟩; (focus ((first | refine dps_none ?_ | refine dpg_none ?_); intro e he; have hm := mem_listed he; simp [go_sem, *] at hm)); clear hK_ K_; try w_num)
  (refine Goes.step rfl (fun _ h₁_ => ?_); replace hA := fa hA h₁_; clear h₁_; rw [stepG_region_end]; simp only [goes_go]; refine ⟨by ((first | refine dps_none ?_ | refine dpg_none ?_); intro e he; simp at he), ?_⟩)
  (refine Goes.step rfl (fun _ h₁_ => ?_); replace hA := fa hA h₁_; clear h₁_; rw [stepG_ret']; simp only [goes_go]; refine ⟨by ((first | refine dps_none ?_ | refine dpg_none ?_); intro e he; simp at he), ?_⟩)
  (refine Goes.step rfl (fun _ h₁_ => ?_); replace hA := fa hA h₁_; clear h₁_)
  refine goes_leave1 rfl rfl Try.func11 rfl ⟨by ((first | refine dps_none ?_ | refine dpg_none ?_); intro e he; simp at he), ?_⟩
  rw [ho]
  exact hnext _ _ hA.1 hA.2

end
end Go.Proofs.Ytngnkdedfcnfkaa
