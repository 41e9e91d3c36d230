/-
  lantern/pool.Run's worker (function 16): from its birth to its desk; from there to the common channel, and back; when its desk is closed.
-/
import Derived.Test.YtngnkdedfcnfkaaPrA
import Derived.Laws.Build
set_option linter.unusedSimpArgs false
set_option linter.unusedVariables false
namespace Go.Proofs.Ytngnkdedfcnfkaa.R8
open Go Go.Conc Go.RowKit Go.Conc.Lib Go.ConcR.Gen Go.ConcN.Gen
open Go.ConcN (WgLive Has RW)
open Go.ConcR (KK WgAt stA smA)

noncomputable def bodyW : Code := Try.f16.body.getD .skip
/-- the call that the k-th go statement holds -/
def callW (c : Ctx) (k : Nat) : Deferred := { target := .fn (.func 16) #[pt (c.H + 6), pt (c.H + 3), pt (c.H + 7 + 2 * k), pt (c.H + 5), pt (c.H + 1), pt c.H], args := #[] }
theorem nmW : (Try.f16.name == "runtime.NumGoroutine") = false := by kernel_rfl

theorem bornW (c : Ctx) (k : Nat) (w : World) : stepG Try.prog false (born Try.prog (callW c k)) w =
    .go (G ((baseD 16).at ⟨#[pt (c.H + 6), pt (c.H + 3), pt (c.H + 7 + 2 * k), pt (c.H + 5), pt (c.H + 1), pt c.H, undef, undef, undef, undef, undef, undef, undef, undef, undef, undef, undef, undef, undef, undef, undef, undef, undef], []⟩ [.code bodyW]) [bot]) w #[] := by
  simp [born, callW, stepG, unwind, callDeferred, invoke, callFunc, Try.func16, Try.f16, seen, GStep.after, G, Frame.enter, Frame.at, baseD, bot, bodyW]

noncomputable def LBW : Code := match bodyW with | .seq _ (.seq _ (.block _ (.loop c))) => c | _ => .skip
noncomputable def R2ops : Array Oper := match LBW with | .seq (.region _ ops _) _ => ops | _ => #[]
noncomputable def A2 : Code := match LBW with | .seq _ c => c | _ => .skip
noncomputable def R4ops : Array Oper := match A2 with | .seq _ (.block _ (.seq _ (.region _ ops _))) => ops | _ => #[]

/-- it stands at its desk -/
def HomeR (c : Ctx) (k : Nat) (g : Goroutine) : Prop :=
  ∃ t6 t7 t8 t9 t11 t12 t13 t14 t15 t16 t17 t18 t19 t20 t21 t22, g = G ((baseD 16).at ⟨TW c k t6 t7 t8 t9 t11 t12 t13 t14 t15 t16 t17 t18 t19 t20 t21 t22, dd c⟩ [.inRegion R2ops [0, 1], .code A2, .inLoop LBW, .inBlock 0]) [bot]
/-- it stands at the common channel -/
def HomeS (c : Ctx) (k : Nat) (g : Goroutine) : Prop :=
  ∃ t6 t7 t8 t9 t11 t12 t13 t14 t15 t16 t17 t18 t19 t20 t21 t22, g = G ((baseD 16).at ⟨TW c k t6 t7 t8 t9 t11 t12 t13 t14 t15 t16 t17 t18 t19 t20 t21 t22, dd c⟩ [.inRegion R4ops [9], .inBlock 1, .inLoop LBW, .inBlock 0]) [bot]
/-- the two spots -/
def deskSpot (c : Ctx) (k : Nat) : Spot := deskW c k (HomeR c k)
def backSpot (c : Ctx) (k j : Nat) : Spot := backW c k j (HomeS c k)

/-- .. and, once it is there, of the answer v -/
def FA (c : Ctx) (k j : Nat) (b : Bool) (v : Value) (w : World) : Prop := FW c k true w ∧ (b = true → c.Ans j v w)
theorem FA.rely {c : Ctx} {Shun : Loc → Prop} (hc : OkC c Shun) {k j : Nat} {b b' : Bool} {v : Value} {ch : Nat} {V : Value → World → Prop} {z : Value} {h : Goroutine → Prop} {mv : World → World → Prop} {w w₁ : World} (hF : FA c k j b v w) (r : RP (spotW c k b' ch V z h mv) w w₁) : FA c k j b v w₁ :=
  ⟨hF.1.rely r, fun e => hc.ansK _ _ _ _ (hF.2 e) r.2.2⟩
section
variable {c : Ctx} {Shun : Loc → Prop} {k B : Nat}
set_option maxRecDepth 100000 in
/-- from its birth to its desk -/
theorem startW (hc : OkC c Shun) (hk : k < c.n) (hB : c.H + 8 + 2 * c.n ≤ B) {b : Bool} (w : World) (hF : FW c k b w) :
    GoesTo Try.prog B (deskSpot c k) 40 (born Try.prog (callW c k)) w := by
  unfold GoesTo deskSpot deskW
  (refine Goes.step rfl (fun _ h₁_ => ?_); replace hF := FW.rely hF h₁_; clear h₁_)
  rw [bornW]
  refine ⟨by ((first | refine dc0_none ?_ | refine dps_none ?_ | refine dpg_none ?_); intro e he; simp at he), ?_⟩
  simp only [bodyW, Try.f16, Option.getD_some, pt]
  (refine Goes.step rfl (fun _ h₁_ => ?_); replace hF := FW.rely hF h₁_; clear h₁_; rw [stepG_seq]; simp only [goes_go]; refine ⟨by ((first | refine dc0_none ?_ | refine dps_none ?_ | refine dpg_none ?_); intro e he; simp at he), ?_⟩)
  (refine Goes.step rfl (fun _ h₁_ => ?_); replace hF := FW.rely hF h₁_; clear h₁_; rw [stepG_region]; simp only [goes_go, List.size_toArray, List.length_cons, List.length_nil, Nat.reduceAdd, Nat.zero_add, List.range, List.range.loop]; refine ⟨by ((first | refine dc0_none ?_ | refine dps_none ?_ | refine dpg_none ?_); intro e he; simp at he), ?_⟩)
  (refine Goes.step rfl (fun _ h₁_ => ?_); replace hF := FW.rely hF h₁_; clear h₁_; rw [stepG_defer rfl rfl (by k_ne) rfl]; simp only [goes_go]; refine ⟨by ((first | refine dc0_none ?_ | refine dps_none ?_ | refine dpg_none ?_); intro e he; simp at he), ?_⟩; walk_nrm)
  (refine Goes.step rfl (fun _ h₁_ => ?_); replace hF := FW.rely hF h₁_; clear h₁_; rw [stepG_region_end]; simp only [goes_go]; refine ⟨by ((first | refine dc0_none ?_ | refine dps_none ?_ | refine dpg_none ?_); intro e he; simp at he), ?_⟩)
  (refine Goes.step rfl (fun _ h₁_ => ?_); replace hF := FW.rely hF h₁_; clear h₁_; rw [stepG_seq]; simp only [goes_go]; refine ⟨by ((first | refine dc0_none ?_ | refine dps_none ?_ | refine dpg_none ?_); intro e he; simp at he), ?_⟩)
  (refine Goes.step rfl (fun _ h₁_ => ?_); replace hF := FW.rely hF h₁_; clear h₁_; rw [stepG_region]; simp only [goes_go, List.size_toArray, List.length_cons, List.length_nil, Nat.reduceAdd, Nat.zero_add, List.range, List.range.loop]; refine ⟨by ((first | refine dc0_none ?_ | refine dps_none ?_ | refine dpg_none ?_); intro e he; simp at he), ?_⟩)
  have hk1 : (k : Int) < (c.n : Int) := by omega
  (refine Goes.step rfl (fun _ h₁_ => ?_); replace hF := FW.rely hF h₁_; clear h₁_; refine goes_oper_k rfl rfl (by decide) (fun K_ hK_ => ?_); have hf0_ := (hF.1.desksv); go_simp; refine hK_ _ _ ⟨⟨(Off.refl _ _), fun e he => ?_⟩, ?_⟩; (focus (have hm := mem_listed he; simp [go_sem, *] at hm; try (subst hm; exact (evp_read _ .desksv (depB hc hk hB _ .desksv))))); clear hK_ K_ hf0_)
  (refine Goes.step rfl (fun _ h₁_ => ?_); replace hF := FW.rely hF h₁_; clear h₁_; refine goes_oper_k rfl rfl (by decide) (fun K_ hK_ => ?_); have hf0_ := (hF.1.kcell); go_simp; refine hK_ _ _ ⟨⟨(Off.refl _ _), fun e he => ?_⟩, ?_⟩; (focus (have hm := mem_listed he; simp [go_sem, *] at hm; try (subst hm; exact (evp_read _ .kv (depB hc hk hB _ .kv))))); clear hK_ K_ hf0_)
  (refine Goes.step rfl (fun _ h₁_ => ?_); replace hF := FW.rely hF h₁_; clear h₁_; refine goes_oper_k rfl rfl (by k_ne) (fun K_ hK_ => ?_); go_simp; refine hK_ _ _ ⟨?_, ?_⟩; (focus ((first | refine dc0_none ?_ | refine dps_none ?_ | refine dpg_none ?_); intro e he; have hm := mem_listed he; simp [go_sem, *] at hm)); clear hK_ K_; try w_num)
  (refine Goes.step rfl (fun _ h₁_ => ?_); replace hF := FW.rely hF h₁_; clear h₁_; refine goes_oper_k rfl rfl (by decide) (fun K_ hK_ => ?_); have hf0_ := (hF.1.desk); go_simp; refine hK_ _ _ ⟨⟨(Off.refl _ _), fun e he => ?_⟩, ?_⟩; (focus (have hm := mem_listed he; simp [go_sem, *] at hm; try (subst hm; exact (evp_read _ .desk (depB hc hk hB _ .desk))))); clear hK_ K_ hf0_)
  (refine Goes.step rfl (fun _ h₁_ => ?_); replace hF := FW.rely hF h₁_; clear h₁_; rw [stepG_region_end]; simp only [goes_go]; refine ⟨by ((first | refine dc0_none ?_ | refine dps_none ?_ | refine dpg_none ?_); intro e he; simp at he), ?_⟩)
  (refine Goes.step rfl (fun _ h₁_ => ?_); replace hF := FW.rely hF h₁_; clear h₁_; rw [stepG_block]; simp only [goes_go]; refine ⟨by ((first | refine dc0_none ?_ | refine dps_none ?_ | refine dpg_none ?_); intro e he; simp at he), ?_⟩)
  (refine Goes.step rfl (fun _ h₁_ => ?_); replace hF := FW.rely hF h₁_; clear h₁_; rw [stepG_loop]; simp only [goes_go]; refine ⟨by ((first | refine dc0_none ?_ | refine dps_none ?_ | refine dpg_none ?_); intro e he; simp at he), ?_⟩)
  (refine Goes.step rfl (fun _ h₁_ => ?_); replace hF := FW.rely hF h₁_; clear h₁_; rw [stepG_seq]; simp only [goes_go]; refine ⟨by ((first | refine dc0_none ?_ | refine dps_none ?_ | refine dpg_none ?_); intro e he; simp at he), ?_⟩)
  (refine Goes.step rfl (fun _ h₁_ => ?_); replace hF := FW.rely hF h₁_; clear h₁_; rw [stepG_region]; simp only [goes_go, List.size_toArray, List.length_cons, List.length_nil, Nat.reduceAdd, Nat.zero_add, List.range, List.range.loop]; refine ⟨by ((first | refine dc0_none ?_ | refine dps_none ?_ | refine dpg_none ?_); intro e he; simp at he), ?_⟩)
  refine Goes.stop (fun w₁ h₁ => ⟨trivial, undef, trivial, _, atIn_of rfl rfl (by decide) (fun _ => rfl) (fun _ => rfl) ?_⟩)
  exact ⟨_, _, _, _, _, _, _, _, _, _, _, _, _, _, _, _, rfl⟩

set_option maxRecDepth 100000 in
set_option maxHeartbeats 4000000 in
/-- the drawn region: whatever of it has come up -/
theorem drawn4 (hc : OkC c Shun) {e j : Nat} (does : Does c B e) (hk : k < c.n) (hj : j < c.J) (hB : c.H + 8 + 2 * c.n ≤ B) : ∀ (l : List Nat) (l0 l1 l2 l3 l4 l5 l6 l7 l8 : Bool) (t7 t8 t9 t11 t12 t13 t14 t15 t16 t17 t18 t19 t20 t21 t22 : Value),
    Okl .any R4ops #[l0, l1, l2, l3, l4, l5, l6, l7, l8, false] l →
    (l0 = true → t14 = .chan (some (c.H + 4))) → (l1 = true → t15 = .int .i64 j) → (l2 = true → t16 = c.fn) → (l3 = true → t17 = (.slice (some ⟨c.jb, 0, none⟩) c.J c.cap)) → (l4 = true → t18 = .int .i64 j) →
    (l5 = true → t19 = .pointer (some ⟨c.jb, j, none⟩) ∧ l3 = true ∧ l4 = true) → (l6 = true → t20 = c.vals j ∧ l5 = true) → (l7 = true → l2 = true ∧ l6 = true) → (l8 = true → t22 = .agg #[.int .i64 j, t21] ∧ l1 = true ∧ l7 = true) →
    ∀ w, FA c k j l7 t21 w → GoesTo Try.prog B (backSpot c k j) (l.length * (e + 1)) (G ((baseD 16).at ⟨TW c k (.int .i64 j) t7 t8 t9 t11 t12 t13 t14 t15 t16 t17 t18 t19 t20 t21 t22, dd c⟩ [.inRegion R4ops l, .inBlock 1, .inLoop LBW, .inBlock 0]) [bot]) w := by
  have hja := hc.ja (by omega)
  have hj0 : (0 : Int) ≤ (j : Int) := by omega
  have hj1 : (j : Int) < (c.J : Int) := by omega
  intro l
  induction l with
  | nil =>
    intro l0 l1 l2 l3 l4 l5 l6 l7 l8 t7 t8 t9 t11 t12 t13 t14 t15 t16 t17 t18 t19 t20 t21 t22 hl
    exfalso
    have no : ∀ i, i ∉ Region.ready .any R4ops #[l0, l1, l2, l3, l4, l5, l6, l7, l8, false] := fun i hi => by
      have : Region.ready .any R4ops #[l0, l1, l2, l3, l4, l5, l6, l7, l8, false] = [] := hl
      rw [this] at hi; cases hi
    have h0 := no 0; have h1 := no 1; have h2 := no 2; have h3 := no 3; have h4 := no 4; have h5 := no 5; have h6 := no 6; have h7 := no 7; have h8 := no 8; have h9 := no 9
    clear no hl
    simp only [mem_ready] at h0 h1 h2 h3 h4 h5 h6 h7 h8 h9
    simp [R4ops, A2, LBW, bodyW, Try.f16, Region.binds] at h0 h1 h2 h3 h4
    subst h0 h1 h2 h3 h4
    simp [R4ops, A2, LBW, bodyW, Try.f16, Region.binds] at h5
    subst h5
    simp [R4ops, A2, LBW, bodyW, Try.f16, Region.binds] at h6
    subst h6
    simp [R4ops, A2, LBW, bodyW, Try.f16, Region.binds] at h7
    subst h7
    simp [R4ops, A2, LBW, bodyW, Try.f16, Region.binds] at h8
    subst h8
    simp [R4ops, A2, LBW, bodyW, Try.f16, Region.binds] at h9
  | cons i l ih =>
    intro l0 l1 l2 l3 l4 l5 l6 l7 l8 t7 t8 t9 t11 t12 t13 t14 t15 t16 t17 t18 t19 t20 t21 t22 hl g0 g1 g2 g3 g4 g5 g6 g7 g8 w hF
    obtain ⟨hi, hl⟩ := hl
    rw [mem_ready] at hi
    match i, hi, hl with
    | 0, hi, hl =>
      simp [R4ops, A2, LBW, bodyW, Try.f16, Region.binds] at hi
      subst hi
      have hm := ih true l1 l2 l3 l4 l5 l6 l7 l8 t7 t8 t9 t11 t12 t13 (.chan (some (c.H + 4))) t15 t16 t17 t18 t19 t20 t21 t22 (by simpa using hl) (fun _ => rfl) g1 g2 g3 g4 g5 g6 g7 g8
      unfold GoesTo backSpot backW at hm ⊢
      refine Goes.mono ?_ (len_one e 0 l)
      simp only [R4ops, A2, LBW, bodyW, Try.f16, Option.getD_some, TW, dd, pt]
      (refine Goes.step rfl (fun _ h₁_ => ?_); replace hF := (FA.rely hc) hF h₁_; clear h₁_; refine goes_oper_k rfl rfl (by decide) (fun K_ hK_ => ?_); have hf0_ := (hF.1.1.backv); go_simp; refine hK_ _ _ ⟨⟨(OffG.refl _ _ _), fun e he => ?_⟩, ?_⟩; (focus (have hm := mem_listed he; simp [go_sem, *] at hm; try (subst hm; exact (evp_read _ .backv (depB hc hk hB _ .backv))))); clear hK_ K_ hf0_)
      exact hm _ hF
    | 1, hi, hl =>
      simp [R4ops, A2, LBW, bodyW, Try.f16, Region.binds] at hi
      subst hi
      have hm := ih l0 true l2 l3 l4 l5 l6 l7 l8 t7 t8 t9 t11 t12 t13 t14 (.int .i64 j) t16 t17 t18 t19 t20 t21 t22 (by simpa using hl) g0 (fun _ => rfl) g2 g3 g4 g5 g6 g7 (fun h => ⟨(g8 h).1, rfl, (g8 h).2.2⟩)
      unfold GoesTo backSpot backW at hm ⊢
      refine Goes.mono ?_ (len_one e 1 l)
      simp only [R4ops, A2, LBW, bodyW, Try.f16, Option.getD_some, TW, dd, pt]
      (refine Goes.step rfl (fun _ h₁_ => ?_); replace hF := (FA.rely hc) hF h₁_; clear h₁_; refine goes_oper_k rfl rfl (by k_ne) (fun K_ hK_ => ?_); go_simp; refine hK_ _ _ ⟨?_, ?_⟩; (focus ((first | refine dc0_none ?_ | refine dps_none ?_ | refine dpg_none ?_); intro e he; have hm := mem_listed he; simp [go_sem, *] at hm)); clear hK_ K_; try w_num)
      exact hm _ hF
    | 2, hi, hl =>
      simp [R4ops, A2, LBW, bodyW, Try.f16, Region.binds] at hi
      subst hi
      have hm := ih l0 l1 true l3 l4 l5 l6 l7 l8 t7 t8 t9 t11 t12 t13 t14 t15 c.fn t17 t18 t19 t20 t21 t22 (by simpa using hl) g0 g1 (fun _ => rfl) g3 g4 g5 g6 (fun h => ⟨rfl, (g7 h).2⟩) g8
      unfold GoesTo backSpot backW at hm ⊢
      refine Goes.mono ?_ (len_one e 2 l)
      simp only [R4ops, A2, LBW, bodyW, Try.f16, Option.getD_some, TW, dd, pt]
      (refine Goes.step rfl (fun _ h₁_ => ?_); replace hF := (FA.rely hc) hF h₁_; clear h₁_; refine goes_oper_k rfl rfl (by decide) (fun K_ hK_ => ?_); have hf0_ := (hF.1.1.dov); go_simp; refine hK_ _ _ ⟨⟨(OffG.refl _ _ _), fun e he => ?_⟩, ?_⟩; (focus (have hm := mem_listed he; simp [go_sem, *] at hm; try (subst hm; exact (evp_read _ .dov (depB hc hk hB _ .dov))))); clear hK_ K_ hf0_)
      exact hm _ hF
    | 3, hi, hl =>
      simp [R4ops, A2, LBW, bodyW, Try.f16, Region.binds] at hi
      subst hi
      have hm := ih l0 l1 l2 true l4 l5 l6 l7 l8 t7 t8 t9 t11 t12 t13 t14 t15 t16 (.slice (some ⟨c.jb, 0, none⟩) c.J c.cap) t18 t19 t20 t21 t22 (by simpa using hl) g0 g1 g2 (fun _ => rfl) g4 (fun h => ⟨(g5 h).1, rfl, (g5 h).2.2⟩) g6 g7 g8
      unfold GoesTo backSpot backW at hm ⊢
      refine Goes.mono ?_ (len_one e 3 l)
      simp only [R4ops, A2, LBW, bodyW, Try.f16, Option.getD_some, TW, dd, pt]
      (refine Goes.step rfl (fun _ h₁_ => ?_); replace hF := (FA.rely hc) hF h₁_; clear h₁_; refine goes_oper_k rfl rfl (by decide) (fun K_ hK_ => ?_); have hf0_ := (show _ = some (Value.slice (some ⟨c.jb, 0, none⟩) c.J c.cap) from (hja ▸ hF.1.1.jobsv)); go_simp; refine hK_ _ _ ⟨⟨(OffG.refl _ _ _), fun e he => ?_⟩, ?_⟩; (focus (have hm := mem_listed he; simp [go_sem, *] at hm; try (subst hm; exact (evp_read _ .jobsv (depB hc hk hB _ .jobsv))))); clear hK_ K_ hf0_)
      exact hm _ hF
    | 4, hi, hl =>
      simp [R4ops, A2, LBW, bodyW, Try.f16, Region.binds] at hi
      subst hi
      have hm := ih l0 l1 l2 l3 true l5 l6 l7 l8 t7 t8 t9 t11 t12 t13 t14 t15 t16 t17 (.int .i64 j) t19 t20 t21 t22 (by simpa using hl) g0 g1 g2 g3 (fun _ => rfl) (fun h => ⟨(g5 h).1, (g5 h).2.1, rfl⟩) g6 g7 g8
      unfold GoesTo backSpot backW at hm ⊢
      refine Goes.mono ?_ (len_one e 4 l)
      simp only [R4ops, A2, LBW, bodyW, Try.f16, Option.getD_some, TW, dd, pt]
      (refine Goes.step rfl (fun _ h₁_ => ?_); replace hF := (FA.rely hc) hF h₁_; clear h₁_; refine goes_oper_k rfl rfl (by k_ne) (fun K_ hK_ => ?_); go_simp; refine hK_ _ _ ⟨?_, ?_⟩; (focus ((first | refine dc0_none ?_ | refine dps_none ?_ | refine dpg_none ?_); intro e he; have hm := mem_listed he; simp [go_sem, *] at hm)); clear hK_ K_; try w_num)
      exact hm _ hF
    | 5, hi, hl =>
      simp [R4ops, A2, LBW, bodyW, Try.f16, Region.binds] at hi
      obtain ⟨rfl, h3, h4⟩ := hi
      have hm := ih l0 l1 l2 l3 l4 true l6 l7 l8 t7 t8 t9 t11 t12 t13 t14 t15 t16 t17 t18 (.pointer (some ⟨c.jb, j, none⟩)) t20 t21 t22 (by simpa using hl) g0 g1 g2 g3 g4 (fun _ => ⟨rfl, h3, h4⟩) (fun h => ⟨(g6 h).1, rfl⟩) g7 g8
      obtain rfl := g3 h3
      obtain rfl := g4 h4
      unfold GoesTo backSpot backW at hm ⊢
      refine Goes.mono ?_ (len_one e 5 l)
      simp only [R4ops, A2, LBW, bodyW, Try.f16, Option.getD_some, TW, dd, pt]
      (refine Goes.step rfl (fun _ h₁_ => ?_); replace hF := (FA.rely hc) hF h₁_; clear h₁_; refine goes_oper_k rfl rfl (by k_ne) (fun K_ hK_ => ?_); go_simp; refine hK_ _ _ ⟨?_, ?_⟩; (focus ((first | refine dc0_none ?_ | refine dps_none ?_ | refine dpg_none ?_); intro e he; have hm := mem_listed he; simp [go_sem, *] at hm)); clear hK_ K_; try w_num)
      exact hm _ hF
    | 6, hi, hl =>
      simp [R4ops, A2, LBW, bodyW, Try.f16, Region.binds] at hi
      obtain ⟨rfl, h5⟩ := hi
      have hm := ih l0 l1 l2 l3 l4 l5 true l7 l8 t7 t8 t9 t11 t12 t13 t14 t15 t16 t17 t18 t19 (c.vals j) t21 t22 (by simpa using hl) g0 g1 g2 g3 g4 g5 (fun _ => ⟨rfl, h5⟩) (fun h => ⟨(g7 h).1, rfl⟩) g8
      obtain ⟨rfl, h3, h4⟩ := g5 h5
      obtain rfl := g3 h3
      obtain rfl := g4 h4
      unfold GoesTo backSpot backW at hm ⊢
      refine Goes.mono ?_ (len_one e 6 l)
      simp only [R4ops, A2, LBW, bodyW, Try.f16, Option.getD_some, TW, dd, pt]
      (refine Goes.step rfl (fun _ h₁_ => ?_); replace hF := (FA.rely hc) hF h₁_; clear h₁_; refine goes_oper_k rfl rfl (by decide) (fun K_ hK_ => ?_); have hf0_ := (hF.1.1.jobs j hj); go_simp; refine hK_ _ _ ⟨⟨(OffG.refl _ _ _), fun e he => ?_⟩, ?_⟩; (focus (have hm := mem_listed he; simp [go_sem, *] at hm; try (subst hm; exact (evp_read _ (.jobs j hj) (depB hc hk hB _ (.jobs j hj)))))); clear hK_ K_ hf0_)
      exact hm _ hF
    | 7, hi, hl =>
      simp [R4ops, A2, LBW, bodyW, Try.f16, Region.binds] at hi
      obtain ⟨rfl, h2, h6⟩ := hi
      have hm := fun v => ih l0 l1 l2 l3 l4 l5 l6 true l8 t7 t8 t9 t11 t12 t13 t14 t15 t16 t17 t18 t19 t20 v t22 (by simpa using hl) g0 g1 g2 g3 g4 g5 g6 (fun _ => ⟨h2, h6⟩) (fun h => Bool.noConfusion (g8 h).2.2)
      obtain rfl := g2 h2
      obtain ⟨rfl, h5⟩ := g6 h6
      obtain ⟨rfl, h3, h4⟩ := g5 h5
      obtain rfl := g3 h3
      obtain rfl := g4 h4
      unfold GoesTo backSpot backW at hm ⊢
      refine Goes.mono ?_ (len_call e 7 l)
      exact does k j (HomeS c k) (baseD 16) ⟨TW c k (.int .i64 j) t7 t8 t9 t11 t12 t13 t14 t15 c.fn (.slice (some ⟨c.jb, 0, none⟩) c.J c.cap) (.int .i64 j) (.pointer (some ⟨c.jb, j, none⟩)) (c.vals j) t21 t22, dd c⟩ R4ops 7 l _ (.tmp 16) (.tmp 20) #[3] [.inBlock 1, .inLoop LBW, .inBlock 0] [bot] _ hk hj rfl rfl (by decide) rfl rfl rfl w hF.1 (fun v w' hF' ha => hm v w' ⟨hF', fun _ => ha⟩)
    | 8, hi, hl =>
      simp [R4ops, A2, LBW, bodyW, Try.f16, Region.binds] at hi
      obtain ⟨rfl, h1, h7⟩ := hi
      have hm := ih l0 l1 l2 l3 l4 l5 l6 l7 true t7 t8 t9 t11 t12 t13 t14 t15 t16 t17 t18 t19 t20 t21 (.agg #[.int .i64 j, t21]) (by simpa using hl) g0 g1 g2 g3 g4 g5 g6 g7 (fun _ => ⟨rfl, h1, h7⟩)
      obtain rfl := g1 h1
      obtain ⟨h2, h6⟩ := g7 h7
      obtain rfl := g2 h2
      obtain ⟨rfl, h5⟩ := g6 h6
      obtain ⟨rfl, h3, h4⟩ := g5 h5
      obtain rfl := g3 h3
      obtain rfl := g4 h4
      unfold GoesTo backSpot backW at hm ⊢
      have hfc := hc.f1 _ _ _ (hF.2 h7)
      simp only [Value.cells] at hfc
      refine Goes.mono ?_ (len_one e 8 l)
      simp only [R4ops, A2, LBW, bodyW, Try.f16, Option.getD_some, TW, dd, pt]
      (refine Goes.step rfl (fun _ h₁_ => ?_); replace hF := (FA.rely hc) hF h₁_; clear h₁_; refine goes_oper_k rfl rfl (by k_ne) (fun K_ hK_ => ?_); have hf0_ := hfc; go_simp; refine hK_ _ _ ⟨?_, ?_⟩; (focus ((first | refine dc0_none ?_ | refine dps_none ?_ | refine dpg_none ?_); intro e he; have hm := mem_listed he; simp [go_sem, *] at hm)); clear hK_ K_ hf0_; try w_num)
      exact hm _ hF
    | 9, hi, hl =>
      simp [R4ops, A2, LBW, bodyW, Try.f16, Region.binds] at hi
      obtain ⟨h0, h8, h7⟩ := hi
      obtain ⟨rfl, h1, _⟩ := g8 h8
      obtain rfl := g0 h0
      obtain ⟨h2, h6⟩ := g7 h7
      obtain ⟨_, h5⟩ := g6 h6
      obtain ⟨_, h3, h4⟩ := g5 h5
      subst h0 h1 h2 h3 h4 h5 h6 h7 h8
      have hnil : l = [] := by
        cases l with
        | nil => rfl
        | cons i l =>
          have := hl.1
          rw [mem_ready] at this
          obtain ⟨h1, o, ho, _⟩ := this
          have hlt : i < 10 := (Array.getElem?_eq_some_iff.1 ho).1
          exfalso
          revert h1
          match i, hlt with
          | 0, _ | 1, _ | 2, _ | 3, _ | 4, _ | 5, _ | 6, _ | 7, _ | 8, _ | 9, _ => simp
      subst hnil
      unfold GoesTo backSpot
      exact Goes.stop (fun w₁ h₁ => ⟨trivial, .agg #[.int .i64 j, t21], ⟨t21, rfl, (FA.rely hc hF h₁).2 rfl⟩, _, atIn_of rfl rfl (by decide) (fun _ => rfl) (fun _ => rfl) ⟨_, _, _, _, _, _, _, _, _, _, _, _, _, _, _, _, rfl⟩⟩)
    | n + 10, hi, hl => simp at hi

set_option maxRecDepth 100000 in
/-- from its desk, a job in hand, to the common channel -/
theorem takeW (hc : OkC c Shun) {e j : Nat} (does : Does c B e) (hk : k < c.n) (hj : j < c.J) (hB : c.H + 8 + 2 * c.n ≤ B) {g : Goroutine} (hg : HomeR c k g) (w : World) (hF : FW c k true w) :
    GoesTo Try.prog B (backSpot c k j) (10 * (e + 1) + 20) (Go.Conc.served g (recvd true (.int .i64 j) true)) w := by
  obtain ⟨t6, t7, t8, t9, t11, t12, t13, t14, t15, t16, t17, t18, t19, t20, t21, t22, rfl⟩ := hg
  rw [served_at]
  unfold GoesTo backSpot backW
  simp only [R2ops, A2, LBW, bodyW, Try.f16, Option.getD_some, TW, dd, pt, recvd, if_true]
  walk_nrm
  (refine Goes.step rfl (fun _ h₁_ => ?_); replace hF := FW.rely hF h₁_; clear h₁_; refine goes_oper_k rfl rfl (by k_ne) (fun K_ hK_ => ?_); go_simp; refine hK_ _ _ ⟨?_, ?_⟩; (focus ((first | refine dc0_none ?_ | refine dps_none ?_ | refine dpg_none ?_); intro e he; have hm := mem_listed he; simp [go_sem, *] at hm)); clear hK_ K_; try w_num)
  (refine Goes.step rfl (fun _ h₁_ => ?_); replace hF := FW.rely hF h₁_; clear h₁_; rw [stepG_region_end]; simp only [goes_go]; refine ⟨by ((first | refine dc0_none ?_ | refine dps_none ?_ | refine dpg_none ?_); intro e he; simp at he), ?_⟩)
  (refine Goes.step rfl (fun _ h₁_ => ?_); replace hF := FW.rely hF h₁_; clear h₁_; rw [stepG_seq]; simp only [goes_go]; refine ⟨by ((first | refine dc0_none ?_ | refine dps_none ?_ | refine dpg_none ?_); intro e he; simp at he), ?_⟩)
  (refine Goes.step rfl (fun _ h₁_ => ?_); replace hF := FW.rely hF h₁_; clear h₁_; rw [stepG_cond (t := true) rfl]; simp only [goes_go, if_true, if_false, Bool.false_eq_true, ↓reduceIte]; refine ⟨by ((first | refine dc0_none ?_ | refine dps_none ?_ | refine dpg_none ?_); intro e he; simp at he), ?_⟩)
  (refine Goes.step rfl (fun _ h₁_ => ?_); replace hF := FW.rely hF h₁_; clear h₁_; rw [stepG_skip]; simp only [goes_go]; refine ⟨by ((first | refine dc0_none ?_ | refine dps_none ?_ | refine dpg_none ?_); intro e he; simp at he), ?_⟩)
  (refine Goes.step rfl (fun _ h₁_ => ?_); replace hF := FW.rely hF h₁_; clear h₁_; rw [stepG_block]; simp only [goes_go]; refine ⟨by ((first | refine dc0_none ?_ | refine dps_none ?_ | refine dpg_none ?_); intro e he; simp at he), ?_⟩)
  (refine Goes.step rfl (fun _ h₁_ => ?_); replace hF := FW.rely hF h₁_; clear h₁_; rw [stepG_seq]; simp only [goes_go]; refine ⟨by ((first | refine dc0_none ?_ | refine dps_none ?_ | refine dpg_none ?_); intro e he; simp at he), ?_⟩)
  (refine Goes.step rfl (fun _ h₁_ => ?_); replace hF := FW.rely hF h₁_; clear h₁_; rw [stepG_region]; simp only [goes_go, List.size_toArray, List.length_cons, List.length_nil, Nat.reduceAdd, Nat.zero_add, List.range, List.range.loop]; refine ⟨by ((first | refine dc0_none ?_ | refine dps_none ?_ | refine dpg_none ?_); intro e he; simp at he), ?_⟩)
  (refine Goes.step rfl (fun _ h₁_ => ?_); replace hF := FW.rely hF h₁_; clear h₁_; refine goes_oper_k rfl rfl (by k_ne) (fun K_ hK_ => ?_); go_simp; refine hK_ _ _ ⟨?_, ?_⟩; (focus ((first | refine dc0_none ?_ | refine dps_none ?_ | refine dpg_none ?_); intro e he; have hm := mem_listed he; simp [go_sem, *] at hm)); clear hK_ K_; try w_num)
  (refine Goes.step rfl (fun _ h₁_ => ?_); replace hF := FW.rely hF h₁_; clear h₁_; refine goes_oper_k rfl rfl (by k_ne) (fun K_ hK_ => ?_); go_simp; refine hK_ _ _ ⟨?_, ?_⟩; (focus ((first | refine dc0_none ?_ | refine dps_none ?_ | refine dpg_none ?_); intro e he; have hm := mem_listed he; simp [go_sem, *] at hm)); clear hK_ K_; try w_num)
  (refine Goes.step rfl (fun _ h₁_ => ?_); replace hF := FW.rely hF h₁_; clear h₁_; rw [stepG_region_end]; simp only [goes_go]; refine ⟨by ((first | refine dc0_none ?_ | refine dps_none ?_ | refine dpg_none ?_); intro e he; simp at he), ?_⟩)
  (refine Goes.step rfl (fun _ h₁_ => ?_); replace hF := FW.rely hF h₁_; clear h₁_)
  rename_i w₁
  rw [stepG_region_draw]
  refine ⟨⟨OffG.at _ _ w₁ (w₁.drawn + 1), by simp⟩, ?_⟩
  have hF' : FA c k j false t21 { w₁ with drawn := w₁.drawn + 1 } := ⟨⟨hF.1.grow (OffG.at _ 0 w₁ (w₁.drawn + 1)), hF.2⟩, fun h => Bool.noConfusion h⟩
  have hok := okl_schedule mixed R4ops (w₁.tape w₁.drawn (.order ((baseD 16).fn) 4))
  have hlen := okl_len0 hok
  have key := drawn4 hc does hk hj hB _ false false false false false false false false false t7 t8 t9 (.tuple #[.int .i64 j, .bool true]) (.bool true) (.int .i64 j) t14 t15 t16 t17 t18 t19 t20 t21 t22 hok (by simp) (by simp) (by simp) (by simp) (by simp) (by simp) (by simp) (by simp) (by simp) _ hF'
  have hle : (Region.schedule (Try.prog.follows .mixedOrders) R4ops (w₁.tape w₁.drawn (.order ((baseD 16).fn) 4))).length * (e + 1) ≤ 10 * (e + 1) + 8 := by
    have : R4ops.size = 10 := rfl
    rw [this] at hlen
    exact Nat.le_trans (Nat.mul_le_mul_right _ hlen) (by omega)
  unfold GoesTo backSpot backW at key
  simp only [R4ops, A2, LBW, bodyW, Try.f16, Option.getD_some, TW, dd, pt] at key
  exact Goes.mono key hle

set_option maxRecDepth 100000 in
/-- from the common channel, the answer given, to its desk -/
theorem giveW (hc : OkC c Shun) {b : Bool} (hk : k < c.n) {g : Goroutine} (hg : HomeS c k g) (w : World) (hF : FW c k b w) :
    GoesTo Try.prog B (deskSpot c k) 20 (Go.Conc.served g undef) w := by
  obtain ⟨t6, t7, t8, t9, t11, t12, t13, t14, t15, t16, t17, t18, t19, t20, t21, t22, rfl⟩ := hg
  rw [served_at]
  unfold GoesTo deskSpot deskW
  simp only [R4ops, A2, LBW, bodyW, Try.f16, Option.getD_some, TW, dd, pt]
  walk_nrm
  (refine Goes.step rfl (fun _ h₁_ => ?_); replace hF := FW.rely hF h₁_; clear h₁_; rw [stepG_region_end]; simp only [goes_go]; refine ⟨by ((first | refine dc0_none ?_ | refine dps_none ?_ | refine dpg_none ?_); intro e he; simp at he), ?_⟩)
  (refine Goes.step rfl (fun _ h₁_ => ?_); replace hF := FW.rely hF h₁_; clear h₁_; rw [stepG_inBlock]; simp only [goes_go]; refine ⟨by ((first | refine dc0_none ?_ | refine dps_none ?_ | refine dpg_none ?_); intro e he; simp at he), ?_⟩)
  (refine Goes.step rfl (fun _ h₁_ => ?_); replace hF := FW.rely hF h₁_; clear h₁_; rw [stepG_inLoop]; simp only [goes_go]; refine ⟨by ((first | refine dc0_none ?_ | refine dps_none ?_ | refine dpg_none ?_); intro e he; simp at he), ?_⟩)
  (refine Goes.step rfl (fun _ h₁_ => ?_); replace hF := FW.rely hF h₁_; clear h₁_; rw [stepG_seq]; simp only [goes_go]; refine ⟨by ((first | refine dc0_none ?_ | refine dps_none ?_ | refine dpg_none ?_); intro e he; simp at he), ?_⟩)
  (refine Goes.step rfl (fun _ h₁_ => ?_); replace hF := FW.rely hF h₁_; clear h₁_; rw [stepG_region]; simp only [goes_go, List.size_toArray, List.length_cons, List.length_nil, Nat.reduceAdd, Nat.zero_add, List.range, List.range.loop]; refine ⟨by ((first | refine dc0_none ?_ | refine dps_none ?_ | refine dpg_none ?_); intro e he; simp at he), ?_⟩)
  refine Goes.stop (fun w₁ h₁ => ⟨trivial, undef, trivial, _, atIn_of rfl rfl (by decide) (fun _ => rfl) (fun _ => rfl) ?_⟩)
  exact ⟨_, _, _, _, _, _, _, _, _, _, _, _, _, _, _, _, rfl⟩

/-- its own way out, once Done has left: it only leaves -/
theorem quitsTail (T : Array Value) : QuitsD Try.prog 2 0 (G { (baseD 16).at ⟨T, []⟩ [] with mode := .returning } [bot]) := by
  refine QuitsD.ctl (g' := G bot []) rfl (fun w => ?_) ?_
  · simp [G, stepG, unwind, doReturn, results, Frame.at, baseD, bot, Try.func16, Try.f16, seen, GStep.after, goexitEntry]
  refine QuitsD.ctl (g' := { G bot [] with status := .finished }) rfl (fun w => ?_) ⟨rfl, rfl⟩
  simp [G, stepG, unwind, bot, goexitEntry, Frame.catches]
  rfl

set_option maxRecDepth 100000 in
/-- its desk is closed: to the library's Done -/
theorem byeW (hc : OkC c Shun) (hk : k < c.n) : Bye Try.prog 51 (c.H + 6) (deskSpot c k) := by
  intro g₂ w hg hhas hK hl
  have hg' : HomeR c k g₂ := hg
  obtain ⟨t6, t7, t8, t9, t11, t12, t13, t14, t15, t16, t17, t18, t19, t20, t21, t22, rfl⟩ := hg'
  have hF : WgLive 51 (c.H + 6) w ∧ Has (c.H + 7 + 2 * k) 0 (.int .i64 k) w := ⟨hl, (show KW c k w from hK).kcell⟩
  refine ⟨7 + 23, .r0 ?_⟩
  rw [served_at]
  have hdone := @doneW Try.prog link wgLib (c.H + 6) (c.H + 7 + 2 * k) (.int .i64 k)
  simp only [body_done, doneFn, Option.getD_some] at hdone
  simp only [deskSpot, deskW, spotW, R2ops, A2, LBW, bodyW, Try.f16, Option.getD_some, TW, dd, pt, recvd, if_true]
  walk_nrm
  (refine Goes.step rfl (fun _ h₁_ => ?_); replace hF := kn_rely hF h₁_; clear h₁_; refine goes_oper_k rfl rfl (by k_ne) (fun K_ hK_ => ?_); go_simp; refine hK_ _ _ ⟨?_, ?_⟩; (focus ((first | refine dc0_none ?_ | refine dps_none ?_ | refine dpg_none ?_); intro e he; have hm := mem_listed he; simp [go_sem, *] at hm)); clear hK_ K_; try w_num)
  (refine Goes.step rfl (fun _ h₁_ => ?_); replace hF := kn_rely hF h₁_; clear h₁_; rw [stepG_region_end]; simp only [goes_go]; refine ⟨by ((first | refine dc0_none ?_ | refine dps_none ?_ | refine dpg_none ?_); intro e he; simp at he), ?_⟩)
  (refine Goes.step rfl (fun _ h₁_ => ?_); replace hF := kn_rely hF h₁_; clear h₁_; rw [stepG_seq]; simp only [goes_go]; refine ⟨by ((first | refine dc0_none ?_ | refine dps_none ?_ | refine dpg_none ?_); intro e he; simp at he), ?_⟩)
  (refine Goes.step rfl (fun _ h₁_ => ?_); replace hF := kn_rely hF h₁_; clear h₁_; rw [stepG_cond (t := false) rfl]; simp only [goes_go, if_true, if_false, Bool.false_eq_true, ↓reduceIte]; refine ⟨by ((first | refine dc0_none ?_ | refine dps_none ?_ | refine dpg_none ?_); intro e he; simp at he), ?_⟩)
  (refine Goes.step rfl (fun _ h₁_ => ?_); replace hF := kn_rely hF h₁_; clear h₁_; refine goes_exit rfl ?_; refine ⟨by ((first | refine dc0_none ?_ | refine dps_none ?_ | refine dpg_none ?_); intro e he; simp at he), ?_⟩)
  (refine Goes.step rfl (fun _ h₁_ => ?_); replace hF := kn_rely hF h₁_; clear h₁_; rw [stepG_end]; simp only [goes_go]; refine ⟨by ((first | refine dc0_none ?_ | refine dps_none ?_ | refine dpg_none ?_); intro e he; simp at he), ?_⟩)
  (refine Goes.step rfl (fun _ h₁_ => ?_); replace hF := kn_rely hF h₁_; clear h₁_; rw [stepG_unwind_enter rfl Try.func17 (nm_done link) rfl]; simp only [goes_go]; refine ⟨by ((first | refine dc0_none ?_ | refine dps_none ?_ | refine dpg_none ?_); intro e he; simp at he), ?_⟩; walk_nrmf Try.f17)
  exact hdone rfl (quitsTail _) _ hF
end
end Go.Proofs.Ytngnkdedfcnfkaa.R8
