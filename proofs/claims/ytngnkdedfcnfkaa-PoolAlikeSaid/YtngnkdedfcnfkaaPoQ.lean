/-
  A communication of several cases where one or more have a way, each way a parked partner: the tape picks one.
-/
import Derived.Conc.CrowdSel
import Derived.Conc.Token
namespace Go.Proofs.Ytngnkdedfcnfkaa
open Go Go.Conc

theorem choose_select (P : Program) (n : Nat) (hn : 0 < n) (w : World) : ∃ b d, b < n ∧ (choose (.select n)).run P w = .ok b (w.at d) := by
  rw [run_choose]
  by_cases hf : (Question.select n).forced = true
  · rw [if_pos hf]; exact ⟨0, w.drawn, hn, rfl⟩
  · rw [if_neg hf]
    exact ⟨_, w.drawn + 1, Nat.mod_lt _ hn, rfl⟩
theorem choose_extern (P : Program) (s : String) (n : Nat) (hn : 0 < n) (w : World) : ∃ b d, b < n ∧ (choose (.extern s n)).run P w = .ok b (w.at d) := by
  rw [run_choose]
  by_cases hf : (Question.extern s n).forced = true
  · rw [if_pos hf]; exact ⟨0, w.drawn, hn, rfl⟩
  · rw [if_neg hf]
    refine ⟨_, w.drawn + 1, ?_, rfl⟩
    simp only [Question.cut]
    rw [if_neg (by omega)]
    exact Nat.mod_lt _ hn

/-- the four entries of a meeting: 'a' sends, 'b' receives; who moved says its own first -/
def met (c k : Nat) (s : Nat) (fs : FuncId) (ps : String) (r : Nat) (fr : FuncId) (pr : String) : Array MemOp :=
  #[{ g := s, fn := fs, pos := ps, act := .send c k }, { g := r, fn := fr, pos := pr, act := .recv c k 0 }, { g := s, fn := fs, pos := ps, act := .sendDone c k }, { g := r, fn := fr, pos := pr, act := .recvDone c k }]

section
variable {P : Program} {gs : Array Goroutine} {w w₁ : World} {sl : Option (Nat × Nat)} {i : Nat} {g g₂ : Goroutine} {es : Array Event} {cases : Array CommCase} {shape : CommShape} {blocking : Bool}

theorem ways_send {c k : Nat} {v z : Value} {G : Array Goroutine} (hc : w₁.heap[c]? = some (.chan 0 #[] false k k false)) : ways w₁ G (scase c v z) = (partners G c false).map fun (h, k) => Way.partner h k := by
  simp only [ways, scase, hc]
  cases partners G c false <;> simp
theorem ways_recv {c k : Nat} {z : Value} {G : Array Goroutine} (hc : w₁.heap[c]? = some (.chan 0 #[] false k k false)) : ways w₁ G (rcase c z) = (partners G c true).map fun (h, k) => Way.partner h k := by
  simp only [ways, rcase, hc]
  cases partners G c true <;> simp

/-- ████ THE TAPE PICKS A CASE AND A PARTNER. ████ -/
theorem crowd_sel_meets (hi : gs[i]? = some g) (h : stepG P (i == 0) g w = .comm g₂ cases blocking shape w₁ es)
    (hall : ∀ cc ∈ cases, NoWays w₁ (gs.setIfInBounds i ph) cc ∨ (∃ c v z k, cc = scase c v z ∧ w₁.heap[c]? = some (.chan 0 #[] false k k false) ∧ ∀ p ∈ partners (gs.setIfInBounds i ph) c false, p.2 = 0 ∧ p.1 ≠ i ∧ ∃ gj zj shj, gs[p.1]? = some (parked gj #[rcase c zj] shj)) ∨
      (∃ c z k, cc = rcase c z ∧ w₁.heap[c]? = some (.chan 0 #[] false k k false) ∧ ∀ p ∈ partners (gs.setIfInBounds i ph) c true, p.2 = 0 ∧ p.1 ≠ i ∧ ∃ gj vj zj shj, gs[p.1]? = some (parked gj #[scase c vj zj] shj)))
    (hsome : ∃ cc ∈ cases, ways w₁ (gs.setIfInBounds i ph) cc ≠ []) :
    ∃ (n d c k j : Nat) (gj : Goroutine) (zj : Value) (shj : CommShape), w₁.heap[c]? = some (.chan 0 #[] false k k false) ∧ j ≠ i ∧
      ((∃ v z, cases[n]? = some (scase c v z) ∧ gs[j]? = some (parked gj #[rcase c zj] shj) ∧
        ∃ ops, (∀ op ∈ ops, (op.g = i ∨ op.g = j) ∧ op.act.touch? = none ∧ (∀ B, c < B → op.act.low B) ∧ ∀ m, op.act ≠ .mark m) ∧
        runT P (crowd gs w sl) i = (.next (crowd ((gs.setIfInBounds j (gj.finishComm P #[rcase c zj] shj 0 v true)).setIfInBounds i (g₂.finishComm P cases shape n undef false)) ((w₁.at d).setChan c 0 #[] false (k + 1) (k + 1) false) sl), MemOp.ofEvents i g.frame.fn g.frame.place es ++ ops)) ∨
      (∃ v z, cases[n]? = some (rcase c z) ∧ gs[j]? = some (parked gj #[scase c v zj] shj) ∧
        ∃ ops, (∀ op ∈ ops, (op.g = i ∨ op.g = j) ∧ op.act.touch? = none ∧ (∀ B, c < B → op.act.low B) ∧ ∀ m, op.act ≠ .mark m) ∧
        runT P (crowd gs w sl) i = (.next (crowd ((gs.setIfInBounds j (gj.finishComm P #[scase c v zj] shj 0 undef false)).setIfInBounds i (g₂.finishComm P cases shape n v true)) ((w₁.at d).setChan c 0 #[] false (k + 1) (k + 1) false) sl), MemOp.ofEvents i g.frame.fn g.frame.place es ++ ops))) := by
  have hmade : ∀ cc ∈ cases, illMade w₁ cc = false := by
    intro cc hcc
    rcases hall cc hcc with h | ⟨c, v, z, k, rfl, hc, _⟩ | ⟨c, z, k, rfl, hc, _⟩
    · exact h.1
    · exact made_send v z hc
    · exact made_recv z hc
  rw [runT_crowd_comm hi h]
  generalize hR : ((cases.zipIdx.toList.map fun (c, k) => (k, c, ways w₁ (gs.setIfInBounds i ph) c)).filter fun (_, _, ws) => !ws.isEmpty) = R
  have hmem : ∀ x ∈ R, cases[x.1]? = some x.2.1 ∧ x.2.2 = ways w₁ (gs.setIfInBounds i ph) x.2.1 ∧ x.2.2 ≠ [] := by
    rintro ⟨k, c, ws⟩ hx
    rw [← hR, List.mem_filter] at hx
    obtain ⟨hx, hne⟩ := hx
    simp only [List.mem_map, Prod.mk.injEq, Prod.exists] at hx
    obtain ⟨c', k', hm', rfl, rfl, rfl⟩ := hx
    have := Array.mem_zipIdx_iff_getElem?.1 (Array.mem_toList_iff.1 hm')
    exact ⟨by simpa using this, rfl, by simpa using hne⟩
  have hRne : 0 < R.length := by
    obtain ⟨cc, hcc, hw⟩ := hsome
    obtain ⟨k, hk, rfl⟩ := Array.mem_iff_getElem.1 hcc
    refine List.length_pos_of_mem (a := (k, cases[k], ways w₁ (gs.setIfInBounds i ph) cases[k])) ?_
    rw [← hR, List.mem_filter]
    refine ⟨List.mem_map.2 ⟨(cases[k], k), ?_, rfl⟩, by cases e : ways w₁ (gs.setIfInBounds i ph) cases[k] with
      | nil => exact absurd e hw
      | cons _ _ => simp⟩
    exact Array.mem_toList_iff.2 (Array.mem_zipIdx_iff_getElem?.2 (by simp [Array.getElem?_eq_getElem hk]))
  obtain ⟨a, d1, ha, hca⟩ := choose_select P R.length hRne w₁
  obtain ⟨⟨n, cc, ws⟩, hx⟩ : ∃ x, R[a]? = some x := ⟨R[a], List.getElem?_eq_getElem ha⟩
  obtain ⟨hn, hwe, hwne⟩ := hmem _ (List.mem_of_getElem? hx)
  simp only at hn hwe hwne
  subst hwe
  have hgd : R.getD a (0, default, []) = (n, cc, ways w₁ (gs.setIfInBounds i ph) cc) := by simp [List.getD, hx]
  obtain ⟨b, d2, hb, hcb⟩ := choose_extern P "which waiting goroutine is the partner" (ways w₁ (gs.setIfInBounds i ph) cc).length (List.length_pos_iff.2 hwne) (w₁.at d1)
  rw [at_at'] at hcb
  have hpick : ((do
      let a ← choose (.select R.length)
      let (k, c, ws) := R.getD a (0, default, [])
      let b ← choose (.extern "which waiting goroutine is the partner" ws.length)
      pure (k, c, ws.getD b .closed) : Sem (Nat × CommCase × Way))).run P w₁ = .ok (n, cc, (ways w₁ (gs.setIfInBounds i ph) cc).getD b .closed) (w₁.at d2) := by
    rw [Sem.run_bind, hca]
    simp only [Result.andThen, hgd]
    rw [Sem.run_bind, hcb]
    rfl
  have hRe : R.isEmpty = false := by cases R with
    | nil => simp at hRne
    | cons _ _ => rfl
  have hcm : cc ∈ cases := Array.mem_of_getElem? hn
  rcases hall cc hcm with hno | ⟨c, v, z, k, rfl, hc, hp⟩ | ⟨c, z, k, rfl, hc, hp⟩
  · exact absurd hno.2 hwne
  · have hws : ways w₁ (gs.setIfInBounds i ph) (scase c v z) = _ := ways_send hc
    rw [hws] at hb hpick
    rw [List.length_map] at hb
    obtain ⟨⟨j, k0⟩, hjk⟩ : ∃ p, (partners (gs.setIfInBounds i ph) c false)[b]? = some p := ⟨_, List.getElem?_eq_getElem hb⟩
    obtain ⟨hk0, hij, gj, zj, shj, hj⟩ := hp _ (List.mem_of_getElem? hjk)
    simp only at hk0 hij hj
    subst hk0
    rw [getD_map_partner _ b _ hjk] at hpick
    have hj' := stand_get (i := i) hij hj
    have hfp := finishPartner_at P (gs.setIfInBounds i ph) hj' (cs := #[rcase c zj]) (sh := shj) rfl 0 v
    have hgd2 : (gs.setIfInBounds i ph).getD j default = parked gj #[rcase c zj] shj := by rw [Array.getD_eq_getD_getElem?, hj']; rfl
    have hc' : (w₁.at d2).heap[c]? = some (.chan 0 #[] false k k false) := hc
    refine ⟨n, d2, c, k, j, gj, zj, shj, hc, hij, .inl ⟨v, z, hn, hj, #[{ g := i, fn := g₂.frame.fn, pos := g₂.frame.place, act := .send c k }, { g := j, fn := gj.frame.fn, pos := gj.frame.place, act := .recv c k 0 }, { g := i, fn := g₂.frame.fn, pos := g₂.frame.place, act := .sendDone c k }, { g := j, fn := gj.frame.fn, pos := gj.frame.place, act := .recvDone c k }], ?_, ?_⟩⟩
    · intro op hop
      simp only [List.mem_toArray, List.mem_cons, List.not_mem_nil, or_false] at hop
      rcases hop with rfl | rfl | rfl | rfl <;> exact ⟨by simp, rfl, fun _ h => h, by simp⟩
    · unfold communicate
      simp only [hR, hRe, hpick, Bool.false_eq_true, if_false]
      rw [if_neg (by rw [Bool.not_eq_true]; exact any_ill hmade)]
      simp [scase, hc', hfp, hgd2, set_stand2, parked, rcase, crowd, World.setChan]
      rfl
  · have hws : ways w₁ (gs.setIfInBounds i ph) (rcase c z) = _ := ways_recv hc
    rw [hws] at hb hpick
    rw [List.length_map] at hb
    obtain ⟨⟨j, k0⟩, hjk⟩ : ∃ p, (partners (gs.setIfInBounds i ph) c true)[b]? = some p := ⟨_, List.getElem?_eq_getElem hb⟩
    obtain ⟨hk0, hij, gj, v, zj, shj, hj⟩ := hp _ (List.mem_of_getElem? hjk)
    simp only at hk0 hij hj
    subst hk0
    rw [getD_map_partner _ b _ hjk] at hpick
    have hj' := stand_get (i := i) hij hj
    have hfp := finishPartner_at P (gs.setIfInBounds i ph) hj' (cs := #[scase c v zj]) (sh := shj) rfl 0 undef
    have hgd2 : (gs.setIfInBounds i ph).getD j default = parked gj #[scase c v zj] shj := by rw [Array.getD_eq_getD_getElem?, hj']; rfl
    have hov : offeredValue (gs.setIfInBounds i ph) j 0 = v := by simp [offeredValue, hj', parked, scase]
    have hc' : (w₁.at d2).heap[c]? = some (.chan 0 #[] false k k false) := hc
    refine ⟨n, d2, c, k, j, gj, zj, shj, hc, hij, .inr ⟨v, z, hn, hj, #[{ g := j, fn := gj.frame.fn, pos := gj.frame.place, act := .send c k }, { g := i, fn := g₂.frame.fn, pos := g₂.frame.place, act := .recv c k 0 }, { g := j, fn := gj.frame.fn, pos := gj.frame.place, act := .sendDone c k }, { g := i, fn := g₂.frame.fn, pos := g₂.frame.place, act := .recvDone c k }], ?_, ?_⟩⟩
    · intro op hop
      simp only [List.mem_toArray, List.mem_cons, List.not_mem_nil, or_false] at hop
      rcases hop with rfl | rfl | rfl | rfl <;> exact ⟨by simp, rfl, fun _ h => h, by simp⟩
    · unfold communicate
      simp only [hR, hRe, hpick, Bool.false_eq_true, if_false]
      rw [if_neg (by rw [Bool.not_eq_true]; exact any_ill hmade)]
      simp [scase, hc', hfp, hgd2, hov, set_stand2, parked, rcase, crowd, World.setChan]
      rfl

/-- a send meets the one goroutine parked at several cases, its n-th a receive there -/
theorem send_meets_sel {c k n j : Nat} {v z zj : Value} {gj : Goroutine} {cs : Array CommCase} {shj : CommShape} (hi : gs[i]? = some g) (h : stepG P (i == 0) g w = .comm g₂ #[scase c v z] blocking shape w₁ es) (hc : w₁.heap[c]? = some (.chan 0 #[] false k k false))
    (hij : j ≠ i) (hj : gs[j]? = some (parked gj cs shj)) (hk : cs[n]? = some (rcase c zj)) (hp : partners (gs.setIfInBounds i ph) c false = [(j, n)]) :
    ∃ ops, (∀ op ∈ ops, (op.g = i ∨ op.g = j) ∧ op.act.touch? = none ∧ (∀ B, c < B → op.act.low B) ∧ ∀ m, op.act ≠ .mark m) ∧
      runT P (crowd gs w sl) i = (.next (crowd ((gs.setIfInBounds j (gj.finishComm P cs shj n v true)).setIfInBounds i (g₂.finishComm P #[scase c v z] shape 0 undef false)) (w₁.setChan c 0 #[] false (k + 1) (k + 1) false) sl), MemOp.ofEvents i g.frame.fn g.frame.place es ++ ops) := by
  refine ⟨_, ?_, crowd_send_meets_sel hi h hc hij hj hk hp⟩
  intro op hop
  simp only [List.mem_toArray, List.mem_cons, List.not_mem_nil, or_false] at hop
  rcases hop with rfl | rfl | rfl | rfl <;> exact ⟨by simp, rfl, fun _ h => h, by simp⟩

/-- a receive meets the one goroutine parked at several cases, its n-th a send there -/
theorem recv_meets_sel {c k n j : Nat} {v z zj : Value} {gj : Goroutine} {cs : Array CommCase} {shj : CommShape} (hi : gs[i]? = some g) (h : stepG P (i == 0) g w = .comm g₂ #[rcase c z] blocking shape w₁ es) (hc : w₁.heap[c]? = some (.chan 0 #[] false k k false))
    (hij : j ≠ i) (hj : gs[j]? = some (parked gj cs shj)) (hk : cs[n]? = some (scase c v zj)) (hp : partners (gs.setIfInBounds i ph) c true = [(j, n)]) :
    ∃ ops, (∀ op ∈ ops, (op.g = i ∨ op.g = j) ∧ op.act.touch? = none ∧ (∀ B, c < B → op.act.low B) ∧ ∀ m, op.act ≠ .mark m) ∧
      runT P (crowd gs w sl) i = (.next (crowd ((gs.setIfInBounds j (gj.finishComm P cs shj n undef false)).setIfInBounds i (g₂.finishComm P #[rcase c z] shape 0 v true)) (w₁.setChan c 0 #[] false (k + 1) (k + 1) false) sl), MemOp.ofEvents i g.frame.fn g.frame.place es ++ ops) := by
  refine ⟨#[{ g := j, fn := gj.frame.fn, pos := gj.frame.place, act := .send c k }, { g := i, fn := g₂.frame.fn, pos := g₂.frame.place, act := .recv c k 0 }, { g := j, fn := gj.frame.fn, pos := gj.frame.place, act := .sendDone c k }, { g := i, fn := g₂.frame.fn, pos := g₂.frame.place, act := .recvDone c k }], ?_, ?_⟩
  · intro op hop
    simp only [List.mem_toArray, List.mem_cons, List.not_mem_nil, or_false] at hop
    rcases hop with rfl | rfl | rfl | rfl <;> exact ⟨by simp, rfl, fun _ h => h, by simp⟩
  · rw [runT_crowd_comm hi h]
    have hj' := stand_get (i := i) hij hj
    have hfp := finishPartner_at P (gs.setIfInBounds i ph) hj' (cs := cs) (sh := shj) rfl n undef
    have hgd : (gs.setIfInBounds i ph).getD j default = parked gj cs shj := by rw [Array.getD_eq_getD_getElem?, hj']; rfl
    have hov : offeredValue (gs.setIfInBounds i ph) j n = v := by simp [offeredValue, hj', parked, scase, hk]
    simp [communicate, ways, rcase, hc, hp, choose, Sem.run, Question.forced, bind, Sem.bind, pure, World.setChan, crowd, hfp, hgd, hov, set_stand2, scase, parked, hk]
    rfl
end
end Go.Proofs.Ytngnkdedfcnfkaa
