/-
  pool.Run's starter asks a script whose turn it is: 'turn'.
-/
import Derived.Test.YtngnkdedfcnfkaaPrG
set_option linter.unusedSimpArgs false
set_option linter.unusedVariables false
namespace Go.Proofs.Ytngnkdedfcnfkaa
open Go Go.Conc Go.RowKit Go.Conc.Lib Go.ConcR.Gen Go.ConcN.Gen
open Go.ConcN (WgLive Has RW ShN upd upd_same upd_ne)
open Go.ConcR (KK WgAt stA smA)

/-- the script: its slice, its numbers -/
structure OkT (c : Ctx) (Shun : Loc → Prop) (W : World) (ta : Option Addr) (tl tb : Nat) (tz : Nat → Int) : Prop where
  ta : 0 < tl → ta = some ⟨tb, 0, none⟩
  tbH : 0 < tl → tb < c.H
  sh : ∀ a : Addr, 0 < tl → a.block = tb → ¬ Shun (.cell a)
  cell : ∀ i, i < tl → W.cell? ⟨tb, i, none⟩ = some (.int .i64 (tz i))
  len : tl < 9223372036854775808
  lo : ∀ i, i < tl → -9223372036854775808 ≤ tz i
  hi : ∀ i, i < tl → tz i < 9223372036854775808

/-- whose turn it is -/
def turnOf (tl : Nat) (tz : Nat → Int) (n g : Nat) : Nat :=
  if tl = 0 then g % n else (if Int.tmod (tz (g % tl)) n < 0 then Int.tmod (tz (g % tl)) n + n else Int.tmod (tz (g % tl)) n).toNat
theorem turnOf_lt {tl : Nat} {tz : Nat → Int} {n g : Nat} (hn : 0 < n) : turnOf tl tz n g < n := by
  unfold turnOf
  split
  · exact Nat.mod_lt _ hn
  · have h1 := Int.tmod_lt_of_pos (tz (g % tl)) (show (0 : Int) < n by omega)
    have h2 : -(n : Int) < Int.tmod (tz (g % tl)) n := by
      exact Int.lt_tmod_of_pos _ (by omega)
    split <;> omega

theorem KD.turns {c : Ctx} {Shun : Loc → Prop} {W w : World} {t : Nat} {re : TypeId} {don : Nat → Prop} (h : KD c re W t don w) {ta : Option Addr} {tl tb : Nat} {tz : Nat → Int} (hT : OkT c Shun W ta tl tb tz) {i : Nat} (hi : i < tl) : w.cell? ⟨tb, i, none⟩ = some (.int .i64 (tz i)) := by
  rw [← hT.cell i hi]
  exact (same_block (h.kb.old.block _ (hT.tbH (by omega)))).1
theorem nm18 : (Try.f18.name == "runtime.NumGoroutine") = false := by kernel_rfl
section
variable {c : Ctx} {Shun : Loc → Prop} {W : World} {B t : Nat} {re : TypeId} {don : Nat → Prop}
set_option maxRecDepth 100000 in
set_option maxHeartbeats 1000000 in
theorem turnLaw (hc : OkC c Shun) (hB : c.H + 8 + 2 * c.n ≤ B) {ta : Option Addr} {tl tc tb : Nat} {tz : Nat → Int} (hT : OkT c Shun W ta tl tb tz) {g : Nat} (hg : g ≤ 8192) {b : Frame} {a : Act} {ops : Array Oper} {i : Nat} {rest : List Nat} {o : Oper} {x y z : Operand} {ats : Array TypeId} {k₀ : List Item} {cs : List Frame} {m' : Nat} {Stop : Goroutine → World → Prop}
    (ho : ops[i]? = some o) (hw : Region.wanted o (yielded ops a.tmps) = true) (hb : b.kind ≠ .early) (hop : o.op = .call { callee := .value (.func 18), args := #[x, y, z], argTypes := ats })
    (hx : a.eval x = .slice ta tl tc) (hy : a.eval y = .int .i64 g) (hz : a.eval z = .int .i64 c.n) (w : World) (hF : KD c re W t don w)
    (hnext : ∀ w', KD c re W t don w' → Goes Try.prog true (SR1 c) (DS c Shun B c.n) Stop m' (G (b.at (a.put o.dst (.int .i64 (turnOf tl tz c.n g))) (.inRegion ops rest :: k₀)) cs) w') :
    Goes Try.prog true (SR1 c) (DS c Shun B c.n) Stop (m' + 60) (G (b.at a (.inRegion ops (i :: rest) :: k₀)) cs) w := by
  have hn1 := hc.npos
  have hn2 := hc.nmax
  (refine Goes.step rfl (fun _ h₁_ => ?_); replace hF := (KD.grow hc) hF h₁_; clear h₁_)
  refine goes_call ho hw hb hop Try.func18 nm18 rfl ⟨by (refine ds_none' ?_; intro e he; simp at he), ?_⟩
  simp only [List.map_toArray, List.map_cons, List.map_nil, hx, hy, hz]
  walk_nrmf Try.f18
  have hn0 : ¬ (c.n = 0) := by omega
  by_cases h0 : tl = 0
  · subst h0
    have e1 : Int.tmod (g : Int) (c.n : Int) = ((g % c.n : Nat) : Int) := (Int.ofNat_tmod g c.n).symm
    have e2 : turnOf 0 tz c.n g = g % c.n := by simp [turnOf]
    rw [e2] at hnext
    generalize g % c.n = rr at e1 hnext
    refine Goes.mono (n := m' + 21) ?_ (by omega)
    (refine Goes.step rfl (fun _ h₁_ => ?_); replace hF := (KD.grow hc) hF h₁_; clear h₁_; rw [stepG_seq]; simp only [goes_go]; refine ⟨by (refine ds_none' ?_; intro e he; simp at he), ?_⟩)
    (refine Goes.step rfl (fun _ h₁_ => ?_); replace hF := (KD.grow hc) hF h₁_; clear h₁_; rw [stepG_region]; simp only [goes_go, List.size_toArray, List.length_cons, List.length_nil, Nat.reduceAdd, Nat.zero_add, List.range, List.range.loop]; refine ⟨by (refine ds_none' ?_; intro e he; simp at he), ?_⟩)
    (refine Goes.step rfl (fun _ h₁_ => ?_); replace hF := (KD.grow hc) hF h₁_; clear h₁_; refine goes_oper_k rfl rfl (by k_ne) (fun K_ hK_ => ?_); go_simp; refine hK_ _ _ ⟨?_, ?_⟩; (focus (refine ds_none' ?_; intro e he; have hm := mem_listed he; simp [go_sem, *] at hm)); clear hK_ K_; try w_num)
    (refine Goes.step rfl (fun _ h₁_ => ?_); replace hF := (KD.grow hc) hF h₁_; clear h₁_; rw [stepG_region_end]; simp only [goes_go]; refine ⟨by (refine ds_none' ?_; intro e he; simp at he), ?_⟩)
    (refine Goes.step rfl (fun _ h₁_ => ?_); replace hF := (KD.grow hc) hF h₁_; clear h₁_; rw [stepG_seq]; simp only [goes_go]; refine ⟨by (refine ds_none' ?_; intro e he; simp at he), ?_⟩)
    (refine Goes.step rfl (fun _ h₁_ => ?_); replace hF := (KD.grow hc) hF h₁_; clear h₁_; rw [stepG_seq]; simp only [goes_go]; refine ⟨by (refine ds_none' ?_; intro e he; simp at he), ?_⟩)
    (refine Goes.step rfl (fun _ h₁_ => ?_); replace hF := (KD.grow hc) hF h₁_; clear h₁_; rw [stepG_region]; simp only [goes_go, List.size_toArray, List.length_cons, List.length_nil, Nat.reduceAdd, Nat.zero_add, List.range, List.range.loop]; refine ⟨by (refine ds_none' ?_; intro e he; simp at he), ?_⟩)
    (refine Goes.step rfl (fun _ h₁_ => ?_); replace hF := (KD.grow hc) hF h₁_; clear h₁_; refine goes_oper_k rfl rfl (by k_ne) (fun K_ hK_ => ?_); go_simp; refine hK_ _ _ ⟨?_, ?_⟩; (focus (refine ds_none' ?_; intro e he; have hm := mem_listed he; simp [go_sem, *] at hm)); clear hK_ K_; try w_num)
    (refine Goes.step rfl (fun _ h₁_ => ?_); replace hF := (KD.grow hc) hF h₁_; clear h₁_; refine goes_oper_k rfl rfl (by k_ne) (fun K_ hK_ => ?_); go_simp; refine hK_ _ _ ⟨?_, ?_⟩; (focus (refine ds_none' ?_; intro e he; have hm := mem_listed he; simp [go_sem, *] at hm)); clear hK_ K_; try w_num)
    (refine Goes.step rfl (fun _ h₁_ => ?_); replace hF := (KD.grow hc) hF h₁_; clear h₁_; refine goes_oper_k rfl rfl (by k_ne) (fun K_ hK_ => ?_); go_simp; refine hK_ _ _ ⟨?_, ?_⟩; (focus (refine ds_none' ?_; intro e he; have hm := mem_listed he; simp [go_sem, *] at hm)); clear hK_ K_; try w_num)
    (refine Goes.step rfl (fun _ h₁_ => ?_); replace hF := (KD.grow hc) hF h₁_; clear h₁_; rw [stepG_region_end]; simp only [goes_go]; refine ⟨by (refine ds_none' ?_; intro e he; simp at he), ?_⟩)
    (refine Goes.step rfl (fun _ h₁_ => ?_); replace hF := (KD.grow hc) hF h₁_; clear h₁_; rw [stepG_cond (t := true) rfl]; simp only [goes_go, if_true, if_false, Bool.false_eq_true, ↓reduceIte]; refine ⟨by (refine ds_none' ?_; intro e he; simp at he), ?_⟩)
    (refine Goes.step rfl (fun _ h₁_ => ?_); replace hF := (KD.grow hc) hF h₁_; clear h₁_; rw [stepG_seq]; simp only [goes_go]; refine ⟨by (refine ds_none' ?_; intro e he; simp at he), ?_⟩)
    (refine Goes.step rfl (fun _ h₁_ => ?_); replace hF := (KD.grow hc) hF h₁_; clear h₁_; rw [stepG_region]; simp only [goes_go, List.size_toArray, List.length_cons, List.length_nil, Nat.reduceAdd, Nat.zero_add, List.range, List.range.loop]; refine ⟨by (refine ds_none' ?_; intro e he; simp at he), ?_⟩)
    (refine Goes.step rfl (fun _ h₁_ => ?_); replace hF := (KD.grow hc) hF h₁_; clear h₁_; refine goes_oper_k rfl rfl (by k_ne) (fun K_ hK_ => ?_); go_simp; refine hK_ _ _ ⟨?_, ?_⟩; (focus (refine ds_none' ?_; intro e he; have hm := mem_listed he; simp [go_sem, *] at hm)); clear hK_ K_; try w_num)
    (refine Goes.step rfl (fun _ h₁_ => ?_); replace hF := (KD.grow hc) hF h₁_; clear h₁_; refine goes_oper_k rfl rfl (by k_ne) (fun K_ hK_ => ?_); go_simp; refine hK_ _ _ ⟨?_, ?_⟩; (focus (refine ds_none' ?_; intro e he; have hm := mem_listed he; simp [go_sem, *] at hm)); clear hK_ K_; try w_num)
    (refine Goes.step rfl (fun _ h₁_ => ?_); replace hF := (KD.grow hc) hF h₁_; clear h₁_; refine goes_oper_k rfl rfl (by k_ne) (fun K_ hK_ => ?_); go_simp; refine hK_ _ _ ⟨?_, ?_⟩; (focus (refine ds_none' ?_; intro e he; have hm := mem_listed he; simp [go_sem, *] at hm)); clear hK_ K_; try w_num)
    (refine Goes.step rfl (fun _ h₁_ => ?_); replace hF := (KD.grow hc) hF h₁_; clear h₁_; refine goes_oper_k rfl rfl (by k_ne) (fun K_ hK_ => ?_); go_simp; refine hK_ _ _ ⟨?_, ?_⟩; (focus (refine ds_none' ?_; intro e he; have hm := mem_listed he; simp [go_sem, *] at hm)); clear hK_ K_; try w_num)
    (refine Goes.step rfl (fun _ h₁_ => ?_); replace hF := (KD.grow hc) hF h₁_; clear h₁_; rw [stepG_region_end]; simp only [goes_go]; refine ⟨by (refine ds_none' ?_; intro e he; simp at he), ?_⟩)
    (refine Goes.step rfl (fun _ h₁_ => ?_); replace hF := (KD.grow hc) hF h₁_; clear h₁_; rw [stepG_ret']; simp only [goes_go]; refine ⟨by (refine ds_none' ?_; intro e he; simp at he), ?_⟩)
    (refine Goes.step rfl (fun _ h₁_ => ?_); replace hF := (KD.grow hc) hF h₁_; clear h₁_)
    refine goes_leave1 rfl rfl Try.func18 rfl ⟨by (refine ds_none' ?_; intro e he; simp at he), ?_⟩
    rw [ho]
    exact hnext _ hF
  · have hl0 : 0 < tl := by omega
    have e1 : Int.tmod (g : Int) (tl : Int) = ((g % tl : Nat) : Int) := (Int.ofNat_tmod g tl).symm
    have hi : g % tl < tl := Nat.mod_lt _ hl0
    generalize hgi : g % tl = j at e1 hi
    have q5 : ((tl : Int) == 0) = false := by simp; omega
    have hj0 : (0 : Int) ≤ (j : Int) := by omega
    have hj1 : (j : Int) < (tl : Int) := by omega
    obtain ⟨r, hr⟩ : ∃ r, Int.tmod (tz j) (c.n : Int) = r := ⟨_, rfl⟩
    have hr1 : r < c.n := by rw [← hr]; exact Int.tmod_lt_of_pos _ (by omega)
    have hr2 : -(c.n : Int) < r := by rw [← hr]; exact Int.lt_tmod_of_pos _ (by omega)
    have e2 : ((turnOf tl tz c.n g : Nat) : Int) = if r < 0 then r + c.n else r := by
      unfold turnOf
      rw [if_neg h0, hgi, hr]
      split <;> omega
    rw [e2] at hnext
    clear e2
    have hta := hT.ta hl0
    subst hta
    (refine Goes.step rfl (fun _ h₁_ => ?_); replace hF := (KD.grow hc) hF h₁_; clear h₁_; rw [stepG_seq]; simp only [goes_go]; refine ⟨by (refine ds_none' ?_; intro e he; simp at he), ?_⟩)
    (refine Goes.step rfl (fun _ h₁_ => ?_); replace hF := (KD.grow hc) hF h₁_; clear h₁_; rw [stepG_region]; simp only [goes_go, List.size_toArray, List.length_cons, List.length_nil, Nat.reduceAdd, Nat.zero_add, List.range, List.range.loop]; refine ⟨by (refine ds_none' ?_; intro e he; simp at he), ?_⟩)
    (refine Goes.step rfl (fun _ h₁_ => ?_); replace hF := (KD.grow hc) hF h₁_; clear h₁_; refine goes_oper_k rfl rfl (by k_ne) (fun K_ hK_ => ?_); go_simp; refine hK_ _ _ ⟨?_, ?_⟩; (focus (refine ds_none' ?_; intro e he; have hm := mem_listed he; simp [go_sem, *] at hm)); clear hK_ K_; try w_num)
    (refine Goes.step rfl (fun _ h₁_ => ?_); replace hF := (KD.grow hc) hF h₁_; clear h₁_; rw [stepG_region_end]; simp only [goes_go]; refine ⟨by (refine ds_none' ?_; intro e he; simp at he), ?_⟩)
    (refine Goes.step rfl (fun _ h₁_ => ?_); replace hF := (KD.grow hc) hF h₁_; clear h₁_; rw [stepG_seq]; simp only [goes_go]; refine ⟨by (refine ds_none' ?_; intro e he; simp at he), ?_⟩)
    (refine Goes.step rfl (fun _ h₁_ => ?_); replace hF := (KD.grow hc) hF h₁_; clear h₁_; rw [stepG_seq]; simp only [goes_go]; refine ⟨by (refine ds_none' ?_; intro e he; simp at he), ?_⟩)
    (refine Goes.step rfl (fun _ h₁_ => ?_); replace hF := (KD.grow hc) hF h₁_; clear h₁_; rw [stepG_region]; simp only [goes_go, List.size_toArray, List.length_cons, List.length_nil, Nat.reduceAdd, Nat.zero_add, List.range, List.range.loop]; refine ⟨by (refine ds_none' ?_; intro e he; simp at he), ?_⟩)
    (refine Goes.step rfl (fun _ h₁_ => ?_); replace hF := (KD.grow hc) hF h₁_; clear h₁_; refine goes_oper_k rfl rfl (by k_ne) (fun K_ hK_ => ?_); go_simp; refine hK_ _ _ ⟨?_, ?_⟩; (focus (refine ds_none' ?_; intro e he; have hm := mem_listed he; simp [go_sem, *] at hm)); clear hK_ K_; try w_num)
    (refine Goes.step rfl (fun _ h₁_ => ?_); replace hF := (KD.grow hc) hF h₁_; clear h₁_; refine goes_oper_k rfl rfl (by k_ne) (fun K_ hK_ => ?_); go_simp; refine hK_ _ _ ⟨?_, ?_⟩; (focus (refine ds_none' ?_; intro e he; have hm := mem_listed he; simp [go_sem, *] at hm)); clear hK_ K_; try w_num)
    (refine Goes.step rfl (fun _ h₁_ => ?_); replace hF := (KD.grow hc) hF h₁_; clear h₁_; refine goes_oper_k rfl rfl (by k_ne) (fun K_ hK_ => ?_); go_simp; refine hK_ _ _ ⟨?_, ?_⟩; (focus (refine ds_none' ?_; intro e he; have hm := mem_listed he; simp [go_sem, *] at hm)); clear hK_ K_; try w_num)
    (refine Goes.step rfl (fun _ h₁_ => ?_); replace hF := (KD.grow hc) hF h₁_; clear h₁_; rw [stepG_region_end]; simp only [goes_go]; refine ⟨by (refine ds_none' ?_; intro e he; simp at he), ?_⟩)
    (refine Goes.step rfl (fun _ h₁_ => ?_); replace hF := (KD.grow hc) hF h₁_; clear h₁_; rw [stepG_cond (t := false) rfl]; simp only [goes_go, if_true, if_false, Bool.false_eq_true, ↓reduceIte]; refine ⟨by (refine ds_none' ?_; intro e he; simp at he), ?_⟩)
    (refine Goes.step rfl (fun _ h₁_ => ?_); replace hF := (KD.grow hc) hF h₁_; clear h₁_; rw [stepG_skip]; simp only [goes_go]; refine ⟨by (refine ds_none' ?_; intro e he; simp at he), ?_⟩)
    (refine Goes.step rfl (fun _ h₁_ => ?_); replace hF := (KD.grow hc) hF h₁_; clear h₁_; rw [stepG_seq]; simp only [goes_go]; refine ⟨by (refine ds_none' ?_; intro e he; simp at he), ?_⟩)
    (refine Goes.step rfl (fun _ h₁_ => ?_); replace hF := (KD.grow hc) hF h₁_; clear h₁_; rw [stepG_region]; simp only [goes_go, List.size_toArray, List.length_cons, List.length_nil, Nat.reduceAdd, Nat.zero_add, List.range, List.range.loop]; refine ⟨by (refine ds_none' ?_; intro e he; simp at he), ?_⟩)
    (refine Goes.step rfl (fun _ h₁_ => ?_); replace hF := (KD.grow hc) hF h₁_; clear h₁_; refine goes_oper_k rfl rfl (by k_ne) (fun K_ hK_ => ?_); go_simp; refine hK_ _ _ ⟨?_, ?_⟩; (focus (refine ds_none' ?_; intro e he; have hm := mem_listed he; simp [go_sem, *] at hm)); clear hK_ K_; try w_num)
    (refine Goes.step rfl (fun _ h₁_ => ?_); replace hF := (KD.grow hc) hF h₁_; clear h₁_; refine goes_oper_k rfl rfl (by k_ne) (fun K_ hK_ => ?_); go_simp; refine hK_ _ _ ⟨?_, ?_⟩; (focus (refine ds_none' ?_; intro e he; have hm := mem_listed he; simp [go_sem, *] at hm)); clear hK_ K_; try w_num)
    (refine Goes.step rfl (fun _ h₁_ => ?_); replace hF := (KD.grow hc) hF h₁_; clear h₁_; refine goes_oper_k rfl rfl (by k_ne) (fun K_ hK_ => ?_); go_simp; refine hK_ _ _ ⟨?_, ?_⟩; (focus (refine ds_none' ?_; intro e he; have hm := mem_listed he; simp [go_sem, *] at hm)); clear hK_ K_; try w_num)
    (refine Goes.step rfl (fun _ h₁_ => ?_); replace hF := (KD.grow hc) hF h₁_; clear h₁_; refine goes_oper_k rfl rfl (by k_ne) (fun K_ hK_ => ?_); go_simp; refine hK_ _ _ ⟨?_, ?_⟩; (focus (refine ds_none' ?_; intro e he; have hm := mem_listed he; simp [go_sem, *] at hm)); clear hK_ K_; try w_num)
    (refine Goes.step rfl (fun _ h₁_ => ?_); replace hF := (KD.grow hc) hF h₁_; clear h₁_; refine goes_oper_k rfl rfl (by k_ne) (fun K_ hK_ => ?_); go_simp; refine hK_ _ _ ⟨?_, ?_⟩; (focus (refine ds_none' ?_; intro e he; have hm := mem_listed he; simp [go_sem, *] at hm)); clear hK_ K_; try w_num)
    (refine Goes.step rfl (fun _ h₁_ => ?_); replace hF := (KD.grow hc) hF h₁_; clear h₁_; refine goes_oper_k rfl rfl (by k_ne) (fun K_ hK_ => ?_); go_simp; refine hK_ _ _ ⟨?_, ?_⟩; (focus (refine ds_none' ?_; intro e he; have hm := mem_listed he; simp [go_sem, *] at hm)); clear hK_ K_; try w_num)
    (refine Goes.step rfl (fun _ h₁_ => ?_); replace hF := (KD.grow hc) hF h₁_; clear h₁_; refine goes_oper_k rfl rfl (by decide) (fun K_ hK_ => ?_); have hf0_ := (hF.turns hT hi); go_simp; refine hK_ _ _ ⟨ds_still (fun e he => ?_), ?_⟩; (focus (have hm := mem_listed he; simp [go_sem, storedEv, *] at hm; try (subst hm; exact (.inr ⟨_, _, rfl, (by have := hT.tbH hl0; have := hF.sz; simp only; omega), shunW_not (hT.sh _ hl0 rfl) (by have := hT.tbH hl0; simp only; omega), fun h => by cases h⟩)))); clear hK_ K_ hf0_)
    (refine Goes.step rfl (fun _ h₁_ => ?_); replace hF := (KD.grow hc) hF h₁_; clear h₁_; refine goes_oper_k rfl rfl (by k_ne) (fun K_ hK_ => ?_); go_simp; refine hK_ _ _ ⟨?_, ?_⟩; (focus (refine ds_none' ?_; intro e he; have hm := mem_listed he; simp [go_sem, *] at hm)); clear hK_ K_; try w_num)
    (refine Goes.step rfl (fun _ h₁_ => ?_); replace hF := (KD.grow hc) hF h₁_; clear h₁_; refine goes_oper_k rfl rfl (by k_ne) (fun K_ hK_ => ?_); have hf0_ := hr; go_simp; refine hK_ _ _ ⟨?_, ?_⟩; (focus (refine ds_none' ?_; intro e he; have hm := mem_listed he; simp [go_sem, *] at hm)); clear hK_ K_ hf0_; try w_num)
    (refine Goes.step rfl (fun _ h₁_ => ?_); replace hF := (KD.grow hc) hF h₁_; clear h₁_; refine goes_oper_k rfl rfl (by k_ne) (fun K_ hK_ => ?_); go_simp; refine hK_ _ _ ⟨?_, ?_⟩; (focus (refine ds_none' ?_; intro e he; have hm := mem_listed he; simp [go_sem, *] at hm)); clear hK_ K_; try w_num)
    (refine Goes.step rfl (fun _ h₁_ => ?_); replace hF := (KD.grow hc) hF h₁_; clear h₁_; rw [stepG_region_end]; simp only [goes_go]; refine ⟨by (refine ds_none' ?_; intro e he; simp at he), ?_⟩)
    (refine Goes.step rfl (fun _ h₁_ => ?_); replace hF := (KD.grow hc) hF h₁_; clear h₁_; rw [stepG_seq]; simp only [goes_go]; refine ⟨by (refine ds_none' ?_; intro e he; simp at he), ?_⟩)
    (refine Goes.step rfl (fun _ h₁_ => ?_); replace hF := (KD.grow hc) hF h₁_; clear h₁_; rw [stepG_seq]; simp only [goes_go]; refine ⟨by (refine ds_none' ?_; intro e he; simp at he), ?_⟩)
    (refine Goes.step rfl (fun _ h₁_ => ?_); replace hF := (KD.grow hc) hF h₁_; clear h₁_; rw [stepG_region]; simp only [goes_go, List.size_toArray, List.length_cons, List.length_nil, Nat.reduceAdd, Nat.zero_add, List.range, List.range.loop]; refine ⟨by (refine ds_none' ?_; intro e he; simp at he), ?_⟩)
    (refine Goes.step rfl (fun _ h₁_ => ?_); replace hF := (KD.grow hc) hF h₁_; clear h₁_; refine goes_oper_k rfl rfl (by k_ne) (fun K_ hK_ => ?_); go_simp; refine hK_ _ _ ⟨?_, ?_⟩; (focus (refine ds_none' ?_; intro e he; have hm := mem_listed he; simp [go_sem, *] at hm)); clear hK_ K_; try w_num)
    by_cases hneg : r < 0
    · have hw : IntKind.wrap .i64 (r + c.n) = r + c.n := by rw [IntKind.wrap_i64]; omega
      rw [if_pos hneg] at hnext
      have hd : decide (r < 0) = true := decide_eq_true hneg
      refine Goes.mono (n := m' + 16) ?_ (by omega)
      (refine Goes.step rfl (fun _ h₁_ => ?_); replace hF := (KD.grow hc) hF h₁_; clear h₁_; refine goes_oper_k rfl rfl (by k_ne) (fun K_ hK_ => ?_); go_simp; refine hK_ _ _ ⟨?_, ?_⟩; (focus (refine ds_none' ?_; intro e he; have hm := mem_listed he; simp [go_sem, *] at hm)); clear hK_ K_; try w_num)
      (refine Goes.step rfl (fun _ h₁_ => ?_); replace hF := (KD.grow hc) hF h₁_; clear h₁_; rw [stepG_region_end]; simp only [goes_go]; refine ⟨by (refine ds_none' ?_; intro e he; simp at he), ?_⟩)
      (refine Goes.step rfl (fun _ h₁_ => ?_); replace hF := (KD.grow hc) hF h₁_; clear h₁_; rw [stepG_cond (t := true) rfl]; simp only [goes_go, if_true, if_false, Bool.false_eq_true, ↓reduceIte]; refine ⟨by (refine ds_none' ?_; intro e he; simp at he), ?_⟩)
      (refine Goes.step rfl (fun _ h₁_ => ?_); replace hF := (KD.grow hc) hF h₁_; clear h₁_; rw [stepG_region]; simp only [goes_go, List.size_toArray, List.length_cons, List.length_nil, Nat.reduceAdd, Nat.zero_add, List.range, List.range.loop]; refine ⟨by (refine ds_none' ?_; intro e he; simp at he), ?_⟩)
      (refine Goes.step rfl (fun _ h₁_ => ?_); replace hF := (KD.grow hc) hF h₁_; clear h₁_; refine goes_oper_k rfl rfl (by k_ne) (fun K_ hK_ => ?_); go_simp; refine hK_ _ _ ⟨?_, ?_⟩; (focus (refine ds_none' ?_; intro e he; have hm := mem_listed he; simp [go_sem, *] at hm)); clear hK_ K_; try w_num)
      (refine Goes.step rfl (fun _ h₁_ => ?_); replace hF := (KD.grow hc) hF h₁_; clear h₁_; refine goes_oper_k rfl rfl (by k_ne) (fun K_ hK_ => ?_); go_simp; refine hK_ _ _ ⟨?_, ?_⟩; (focus (refine ds_none' ?_; intro e he; have hm := mem_listed he; simp [go_sem, *] at hm)); clear hK_ K_; try w_num)
      (refine Goes.step rfl (fun _ h₁_ => ?_); replace hF := (KD.grow hc) hF h₁_; clear h₁_; refine goes_oper_k rfl rfl (by k_ne) (fun K_ hK_ => ?_); go_simp; refine hK_ _ _ ⟨?_, ?_⟩; (focus (refine ds_none' ?_; intro e he; have hm := mem_listed he; simp [go_sem, *] at hm)); clear hK_ K_; try w_num)
      (refine Goes.step rfl (fun _ h₁_ => ?_); replace hF := (KD.grow hc) hF h₁_; clear h₁_; refine goes_oper_k rfl rfl (by k_ne) (fun K_ hK_ => ?_); go_simp; refine hK_ _ _ ⟨?_, ?_⟩; (focus (refine ds_none' ?_; intro e he; have hm := mem_listed he; simp [go_sem, *] at hm)); clear hK_ K_; try w_num)
      (refine Goes.step rfl (fun _ h₁_ => ?_); replace hF := (KD.grow hc) hF h₁_; clear h₁_; rw [stepG_region_end]; simp only [goes_go]; refine ⟨by (refine ds_none' ?_; intro e he; simp at he), ?_⟩)
      (refine Goes.step rfl (fun _ h₁_ => ?_); replace hF := (KD.grow hc) hF h₁_; clear h₁_; rw [stepG_seq]; simp only [goes_go]; refine ⟨by (refine ds_none' ?_; intro e he; simp at he), ?_⟩)
      (refine Goes.step rfl (fun _ h₁_ => ?_); replace hF := (KD.grow hc) hF h₁_; clear h₁_; rw [stepG_region]; simp only [goes_go, List.size_toArray, List.length_cons, List.length_nil, Nat.reduceAdd, Nat.zero_add, List.range, List.range.loop]; refine ⟨by (refine ds_none' ?_; intro e he; simp at he), ?_⟩)
      (refine Goes.step rfl (fun _ h₁_ => ?_); replace hF := (KD.grow hc) hF h₁_; clear h₁_; refine goes_oper_k rfl rfl (by k_ne) (fun K_ hK_ => ?_); go_simp; refine hK_ _ _ ⟨?_, ?_⟩; (focus (refine ds_none' ?_; intro e he; have hm := mem_listed he; simp [go_sem, *] at hm)); clear hK_ K_; try w_num)
      (refine Goes.step rfl (fun _ h₁_ => ?_); replace hF := (KD.grow hc) hF h₁_; clear h₁_; refine goes_oper_k rfl rfl (by k_ne) (fun K_ hK_ => ?_); go_simp; refine hK_ _ _ ⟨?_, ?_⟩; (focus (refine ds_none' ?_; intro e he; have hm := mem_listed he; simp [go_sem, *] at hm)); clear hK_ K_; try w_num)
      (refine Goes.step rfl (fun _ h₁_ => ?_); replace hF := (KD.grow hc) hF h₁_; clear h₁_; rw [stepG_region_end]; simp only [goes_go]; refine ⟨by (refine ds_none' ?_; intro e he; simp at he), ?_⟩)
      (refine Goes.step rfl (fun _ h₁_ => ?_); replace hF := (KD.grow hc) hF h₁_; clear h₁_; rw [stepG_ret']; simp only [goes_go]; refine ⟨by (refine ds_none' ?_; intro e he; simp at he), ?_⟩)
      (refine Goes.step rfl (fun _ h₁_ => ?_); replace hF := (KD.grow hc) hF h₁_; clear h₁_)
      refine goes_leave1 rfl rfl Try.func18 rfl ⟨by (refine ds_none' ?_; intro e he; simp at he), ?_⟩
      rw [ho]
      exact hnext _ hF
    · rw [if_neg hneg] at hnext
      have hd : decide (r < 0) = false := decide_eq_false hneg
      refine Goes.mono (n := m' + 11) ?_ (by omega)
      (refine Goes.step rfl (fun _ h₁_ => ?_); replace hF := (KD.grow hc) hF h₁_; clear h₁_; refine goes_oper_k rfl rfl (by k_ne) (fun K_ hK_ => ?_); go_simp; refine hK_ _ _ ⟨?_, ?_⟩; (focus (refine ds_none' ?_; intro e he; have hm := mem_listed he; simp [go_sem, *] at hm)); clear hK_ K_; try w_num)
      (refine Goes.step rfl (fun _ h₁_ => ?_); replace hF := (KD.grow hc) hF h₁_; clear h₁_; rw [stepG_region_end]; simp only [goes_go]; refine ⟨by (refine ds_none' ?_; intro e he; simp at he), ?_⟩)
      (refine Goes.step rfl (fun _ h₁_ => ?_); replace hF := (KD.grow hc) hF h₁_; clear h₁_; rw [stepG_cond (t := false) rfl]; simp only [goes_go, if_true, if_false, Bool.false_eq_true, ↓reduceIte]; refine ⟨by (refine ds_none' ?_; intro e he; simp at he), ?_⟩)
      (refine Goes.step rfl (fun _ h₁_ => ?_); replace hF := (KD.grow hc) hF h₁_; clear h₁_; rw [stepG_skip]; simp only [goes_go]; refine ⟨by (refine ds_none' ?_; intro e he; simp at he), ?_⟩)
      (refine Goes.step rfl (fun _ h₁_ => ?_); replace hF := (KD.grow hc) hF h₁_; clear h₁_; rw [stepG_seq]; simp only [goes_go]; refine ⟨by (refine ds_none' ?_; intro e he; simp at he), ?_⟩)
      (refine Goes.step rfl (fun _ h₁_ => ?_); replace hF := (KD.grow hc) hF h₁_; clear h₁_; rw [stepG_region]; simp only [goes_go, List.size_toArray, List.length_cons, List.length_nil, Nat.reduceAdd, Nat.zero_add, List.range, List.range.loop]; refine ⟨by (refine ds_none' ?_; intro e he; simp at he), ?_⟩)
      (refine Goes.step rfl (fun _ h₁_ => ?_); replace hF := (KD.grow hc) hF h₁_; clear h₁_; refine goes_oper_k rfl rfl (by k_ne) (fun K_ hK_ => ?_); go_simp; refine hK_ _ _ ⟨?_, ?_⟩; (focus (refine ds_none' ?_; intro e he; have hm := mem_listed he; simp [go_sem, *] at hm)); clear hK_ K_; try w_num)
      (refine Goes.step rfl (fun _ h₁_ => ?_); replace hF := (KD.grow hc) hF h₁_; clear h₁_; refine goes_oper_k rfl rfl (by k_ne) (fun K_ hK_ => ?_); go_simp; refine hK_ _ _ ⟨?_, ?_⟩; (focus (refine ds_none' ?_; intro e he; have hm := mem_listed he; simp [go_sem, *] at hm)); clear hK_ K_; try w_num)
      (refine Goes.step rfl (fun _ h₁_ => ?_); replace hF := (KD.grow hc) hF h₁_; clear h₁_; rw [stepG_region_end]; simp only [goes_go]; refine ⟨by (refine ds_none' ?_; intro e he; simp at he), ?_⟩)
      (refine Goes.step rfl (fun _ h₁_ => ?_); replace hF := (KD.grow hc) hF h₁_; clear h₁_; rw [stepG_ret']; simp only [goes_go]; refine ⟨by (refine ds_none' ?_; intro e he; simp at he), ?_⟩)
      (refine Goes.step rfl (fun _ h₁_ => ?_); replace hF := (KD.grow hc) hF h₁_; clear h₁_)
      refine goes_leave1 rfl rfl Try.func18 rfl ⟨by (refine ds_none' ?_; intro e he; simp at he), ?_⟩
      rw [ho]
      exact hnext _ hF
end
end Go.Proofs.Ytngnkdedfcnfkaa
