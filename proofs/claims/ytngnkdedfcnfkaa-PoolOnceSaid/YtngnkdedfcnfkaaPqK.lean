/-
  What PoolOnce's worker does with a job: it counts it in the law's own list.
-/
import Derived.Test.YtngnkdedfcnfkaaPrA
set_option linter.unusedSimpArgs false
set_option linter.unusedVariables false
namespace Go.Proofs.Ytngnkdedfcnfkaa
open Go Go.Conc Go.RowKit Go.Conc.Lib Go.ConcR.Gen Go.ConcN.Gen
open Go.ConcN (WgLive Has RW)
open Go.ConcR (KK WgAt stA smA)

theorem nm12 : (Try.f12.name == "runtime.NumGoroutine") = false := by kernel_rfl
section
variable {P : Program} {main : Bool} {b : Frame} {a : Act} {k : List Item} {cs : List Frame} {w : World}
/-- the call of a function's value that has captured something -/
theorem goes_callvc {ops : Array Oper} {i : Nat} {rest : List Nat} {o : Oper} {K : Goroutine → World → Array Event → Prop} {x : Operand} {f : FuncId} {fn : Func} {c : Code} {args : Array Operand} {ats : Array TypeId} {vs : Array Value}
    (ho : ops[i]? = some o) (hw : Region.wanted o (yielded ops a.tmps) = true) (hk : b.kind ≠ .early) (hop : o.op = .call { callee := .value x, args, argTypes := ats }) (hx : a.eval x = .func (.func f) #[] vs)
    (hf : P.funcs[f]? = some fn) (hname : (fn.name == "runtime.NumGoroutine") = false) (hb : fn.body = some c)
    (h : K (G ((base f).at { tmps := (args.map a.eval ++ vs) ++ Array.replicate (fn.ntmps - (args.map a.eval ++ vs).size) undef, defers := [] } [.code c]) (b.at a (.inRegion ops (i :: rest) :: k) :: cs)) w #[]) :
    (stepG P main (G (b.at a (.inRegion ops (i :: rest) :: k)) cs) w).goes K := by
  have h1 : ¬ fn.name = "runtime.NumGoroutine" := by simpa using hname
  have h2 : ¬ fn.body = none := by rw [hb]; simp
  have hr : (execOp a.eval o).run P w = .ok (.enter f (args.map a.eval ++ vs)) w := by
    unfold execOp
    simp [hop, resolve, Deferred.ofValue, invoke, callFunc, hf, h1, h2, hx]
  have he : (execOp a.eval o).events P w #[] = #[] := by
    unfold execOp
    simp [hop, resolve, Deferred.ofValue, invoke, callFunc, hf, h1, h2, hx]
  rw [stepG_enter ho hw hk hr, enter_at _ hf hb]
  have : listed P b.fn a o w = #[] := by unfold listed; rw [he]; exact seen_none P _
  rw [this]
  exact h
end
/-- the law's own list: d of its places have been counted -/
structure Seen (bb sb J d : Nat) (w : World) : Prop where
  box : w.cell? ⟨bb, 0, none⟩ = some (.slice (some ⟨sb, 0, none⟩) J J)
  cell : ∀ i, i < J → w.cell? ⟨sb, i, none⟩ = some (.int .i64 (if i < d then 1 else 0))
  free : ∀ i, w.frozen? ⟨sb, i, none⟩ = false
theorem Seen.same {bb sb J d : Nat} {w w' : World} (h : Seen bb sb J d w) (r : Same (fun a => a.block = sb ∨ a.block = bb) w w') : Seen bb sb J d w' :=
  ⟨(r _ (.inr rfl)).1.trans h.box, fun i hi => (r _ (.inl rfl)).1.trans (h.cell i hi), fun i => (r _ (.inl rfl)).2.trans (h.free i)⟩
theorem Seen.count {bb sb J d : Nat} {w : World} (h : Seen bb sb J d w) (hd : d < J) (hne : sb ≠ bb) : Seen bb sb J (d + 1) (w.setCell ⟨sb, d, none⟩ (.int .i64 1)) := by
  refine ⟨?_, fun i hi => ?_, fun i => ?_⟩
  · rw [World.cell?_setCell_other _ _ _ _ (by simp; omega)]; exact h.box
  · by_cases e : i = d
    · subst e
      rw [World.cell?_setCell_same _ _ _ (h.cell i hi)]
      simp
    · rw [World.cell?_setCell_other _ _ _ _ (by simp; omega), h.cell i hi]
      congr 2
      by_cases hlt : i < d
      · simp [hlt, show i < d + 1 by omega]
      · simp [hlt, show ¬ i < d + 1 by omega]
  · simp [h.free i]
section
variable {c : Ctx} {Shun : Loc → Prop} {B : Nat}
theorem dps_still {c : Ctx} {k B : Nat} {b : Bool} {ch d : Nat} {v z : Value} {h : Goroutine → Prop} {S : Nat → Prop} {w : World} {es : Array Event} (he : ∀ e ∈ es, EvP (spotW c k b ch v z h d (Off S)) B e) : DP (spotW c k b ch v z h d (Off S)) B w w es := ⟨Off.refl S w, he⟩
theorem dps_own {c : Ctx} {k B : Nat} {b : Bool} {ch d : Nat} {v z : Value} {h : Goroutine → Prop} {S : Nat → Prop} {w : World} {a : Addr} {u : Value} {es : Array Event} (ho : S a.block) (he : ∀ e ∈ es, EvP (spotW c k b ch v z h d (Off S)) B e) : DP (spotW c k b ch v z h d (Off S)) B w (w.setCell a u) es := ⟨Off.setCell w a u ho, he⟩
set_option maxRecDepth 100000 in
set_option maxHeartbeats 1000000 in
theorem doesSeen {bb sb : Nat} (hne : sb ≠ bb) (hc : OkC c Shun) (hB : c.H ≤ B) (hhas : c.has = fun d w => Seen bb sb c.J d w) (hob : c.ob = fun b => b = sb ∨ b = bb) (hfn : c.fn = .func (.func 12) #[] #[.pointer (some ⟨bb, 0, none⟩)]) (hv : ∀ i, i < c.J → c.vals i = .int .i64 i ∧ c.f i = .int .i64 i) : Does c B 24 := by
  intro k j home b a ops i rest o x y ats k₀ cs m' hk hj ho hw hb hop hx hy w hF hnext
  obtain ⟨hx0, hfx⟩ := hv j hj
  have hJm := hc.Jmax
  have hj0 : (0 : Int) ≤ (j : Int) := by omega
  have hj1 : (j : Int) < (c.J : Int) := by omega
  unfold GoesTo backW at hnext ⊢
  rw [hfx] at hnext ⊢
  rw [hx0] at hy
  rw [hfn] at hx
  have obs : c.ob sb := by rw [hob]; exact .inl rfl
  have obb : c.ob bb := by rw [hob]; exact .inr rfl
  have hsB := (hc.obH _ obs).1
  have hbB := (hc.obH _ obb).1
  have hS : ∀ {w}, FW c k j w → Seen bb sb c.J j w := fun h => by have := h.2; rw [hhas] at this; exact this
  (refine Goes.step rfl (fun _ h₁_ => ?_); replace hF := (FW.rely hc) hF h₁_; clear h₁_)
  refine goes_callvc ho hw hb hop hx Try.func12 nm12 rfl ⟨by (refine dps_none ?_; intro e he; simp at he), ?_⟩
  simp only [List.map_toArray, List.map_cons, List.map_nil, hy, List.append_toArray, List.cons_append, List.nil_append]
  walk_nrmf Try.f12
  (refine Goes.step rfl (fun _ h₁_ => ?_); replace hF := (FW.rely hc) hF h₁_; clear h₁_; rw [stepG_seq]; simp only [goes_go]; refine ⟨by (refine dps_none ?_; intro e he; simp at he), ?_⟩)
  (refine Goes.step rfl (fun _ h₁_ => ?_); replace hF := (FW.rely hc) hF h₁_; clear h₁_; rw [stepG_region]; simp only [goes_go, List.size_toArray, List.length_cons, List.length_nil, Nat.reduceAdd, Nat.zero_add, List.range, List.range.loop]; refine ⟨by (refine dps_none ?_; intro e he; simp at he), ?_⟩)
  (refine Goes.step rfl (fun _ h₁_ => ?_); replace hF := (FW.rely hc) hF h₁_; clear h₁_; refine goes_oper_k rfl rfl (by k_ne) (fun K_ hK_ => ?_); go_simp; refine hK_ _ _ ⟨?_, ?_⟩; (focus (refine dps_none ?_; intro e he; have hm := mem_listed he; simp [go_sem, *] at hm)); clear hK_ K_; try w_num)
  (refine Goes.step rfl (fun _ h₁_ => ?_); replace hF := (FW.rely hc) hF h₁_; clear h₁_; rw [stepG_region_end]; simp only [goes_go]; refine ⟨by (refine dps_none ?_; intro e he; simp at he), ?_⟩)
  (refine Goes.step rfl (fun _ h₁_ => ?_); replace hF := (FW.rely hc) hF h₁_; clear h₁_; rw [stepG_seq]; simp only [goes_go]; refine ⟨by (refine dps_none ?_; intro e he; simp at he), ?_⟩)
  (refine Goes.step rfl (fun _ h₁_ => ?_); replace hF := (FW.rely hc) hF h₁_; clear h₁_; rw [stepG_region]; simp only [goes_go, List.size_toArray, List.length_cons, List.length_nil, Nat.reduceAdd, Nat.zero_add, List.range, List.range.loop]; refine ⟨by (refine dps_none ?_; intro e he; simp at he), ?_⟩)
  (refine Goes.step rfl (fun _ h₁_ => ?_); replace hF := (FW.rely hc) hF h₁_; clear h₁_; refine goes_oper_k rfl rfl (by decide) (fun K_ hK_ => ?_); have hf0_ := ((hS hF).box); go_simp; refine hK_ _ _ ⟨dps_still (fun e he => ?_), ?_⟩; (focus (have hm := mem_listed he; simp [go_sem, storedEv, *] at hm; try (subst hm; exact (evp_own _ _ obb (by simp; omega))))); clear hK_ K_ hf0_)
  (refine Goes.step rfl (fun _ h₁_ => ?_); replace hF := (FW.rely hc) hF h₁_; clear h₁_; refine goes_oper_k rfl rfl (by k_ne) (fun K_ hK_ => ?_); go_simp; refine hK_ _ _ ⟨?_, ?_⟩; (focus (refine dps_none ?_; intro e he; have hm := mem_listed he; simp [go_sem, *] at hm)); clear hK_ K_; try w_num)
  (refine Goes.step rfl (fun _ h₁_ => ?_); replace hF := (FW.rely hc) hF h₁_; clear h₁_; refine goes_oper_k rfl rfl (by k_ne) (fun K_ hK_ => ?_); go_simp; refine hK_ _ _ ⟨?_, ?_⟩; (focus (refine dps_none ?_; intro e he; have hm := mem_listed he; simp [go_sem, *] at hm)); clear hK_ K_; try w_num)
  (refine Goes.step rfl (fun _ h₁_ => ?_); replace hF := (FW.rely hc) hF h₁_; clear h₁_; refine goes_oper_k rfl rfl (by decide) (fun K_ hK_ => ?_); have hf0_ := ((hS hF).cell j hj); go_simp; refine hK_ _ _ ⟨dps_still (fun e he => ?_), ?_⟩; (focus (have hm := mem_listed he; simp [go_sem, storedEv, *] at hm; try (subst hm; exact (evp_own _ _ obs (by simp; omega))))); clear hK_ K_ hf0_)
  (refine Goes.step rfl (fun _ h₁_ => ?_); replace hF := (FW.rely hc) hF h₁_; clear h₁_; refine goes_oper_k rfl rfl (by k_ne) (fun K_ hK_ => ?_); go_simp; refine hK_ _ _ ⟨?_, ?_⟩; (focus (refine dps_none ?_; intro e he; have hm := mem_listed he; simp [go_sem, *] at hm)); clear hK_ K_; try w_num)
  have hw1 : IntKind.i64.wrap ((if j < j then (1 : Int) else 0) + 1) = 1 := by simp [IntKind.wrap_i64]
  (refine Goes.step rfl (fun _ h₁_ => ?_); replace hF := (FW.rely hc) hF h₁_; clear h₁_; refine goes_oper_k rfl rfl (by k_ne) (fun K_ hK_ => ?_); go_simp; refine hK_ _ _ ⟨?_, ?_⟩; (focus (refine dps_none ?_; intro e he; have hm := mem_listed he; simp [go_sem, *] at hm)); clear hK_ K_; try w_num)
  (refine Goes.step rfl (fun _ h₁_ => ?_); replace hF := (FW.rely hc) hF h₁_; clear h₁_)
  have hS1 := hS hF
  have hS2 := hS1.count hj hne
  (refine goes_oper_k rfl rfl (by decide) (fun K_ hK_ => ?_); have hf0_ := (hS1.cell j hj); have hf1_ := (hS1.free j); go_simp; refine hK_ _ _ ⟨(dps_own obs) (fun e he => ?_), ?_⟩; (focus (have hm := mem_listed he; simp [go_sem, storedEv, *] at hm; try (subst hm; exact (evp_own _ _ obs (by simp; omega))))); clear hK_ K_ hf0_ hf1_)
  have hF' : FW c k (j + 1) _ := ⟨KW.off hc hF.1 (Off.setCell _ ⟨sb, j, none⟩ (.int .i64 1) obs), by rw [hhas]; exact hS2⟩
  clear hF hS1 hS2
  have hF := hF'
  clear hF'
  (refine Goes.step rfl (fun _ h₁_ => ?_); replace hF := (FW.rely hc) hF h₁_; clear h₁_; rw [stepG_region_end]; simp only [goes_go]; refine ⟨by (refine dps_none ?_; intro e he; simp at he), ?_⟩)
  (refine Goes.step rfl (fun _ h₁_ => ?_); replace hF := (FW.rely hc) hF h₁_; clear h₁_; rw [stepG_seq]; simp only [goes_go]; refine ⟨by (refine dps_none ?_; intro e he; simp at he), ?_⟩)
  (refine Goes.step rfl (fun _ h₁_ => ?_); replace hF := (FW.rely hc) hF h₁_; clear h₁_; rw [stepG_region]; simp only [goes_go, List.size_toArray, List.length_cons, List.length_nil, Nat.reduceAdd, Nat.zero_add, List.range, List.range.loop]; refine ⟨by (refine dps_none ?_; intro e he; simp at he), ?_⟩)
  (refine Goes.step rfl (fun _ h₁_ => ?_); replace hF := (FW.rely hc) hF h₁_; clear h₁_; refine goes_oper_k rfl rfl (by k_ne) (fun K_ hK_ => ?_); go_simp; refine hK_ _ _ ⟨?_, ?_⟩; (focus (refine dps_none ?_; intro e he; have hm := mem_listed he; simp [go_sem, *] at hm)); clear hK_ K_; try w_num)
  (refine Goes.step rfl (fun _ h₁_ => ?_); replace hF := (FW.rely hc) hF h₁_; clear h₁_; refine goes_oper_k rfl rfl (by k_ne) (fun K_ hK_ => ?_); go_simp; refine hK_ _ _ ⟨?_, ?_⟩; (focus (refine dps_none ?_; intro e he; have hm := mem_listed he; simp [go_sem, *] at hm)); clear hK_ K_; try w_num)
  (refine Goes.step rfl (fun _ h₁_ => ?_); replace hF := (FW.rely hc) hF h₁_; clear h₁_; rw [stepG_region_end]; simp only [goes_go]; refine ⟨by (refine dps_none ?_; intro e he; simp at he), ?_⟩)
  (refine Goes.step rfl (fun _ h₁_ => ?_); replace hF := (FW.rely hc) hF h₁_; clear h₁_; rw [stepG_ret']; simp only [goes_go]; refine ⟨by (refine dps_none ?_; intro e he; simp at he), ?_⟩)
  (refine Goes.step rfl (fun _ h₁_ => ?_); replace hF := (FW.rely hc) hF h₁_; clear h₁_)
  refine goes_leave1 rfl rfl Try.func12 rfl ⟨by (refine dps_none ?_; intro e he; simp at he), ?_⟩
  rw [ho]
  exact Goes.mono (hnext _ hF) (by omega)
end
end Go.Proofs.Ytngnkdedfcnfkaa
