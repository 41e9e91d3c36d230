/-
  lantern/pool.Run (function 10): THE PHASE: a frame in which goroutine 0 has just entered Run ⟹ a frame with so many leavers more in which it is back at its caller, the answers laid.
-/
import Derived.Test.YtngnkdedfcnfkaaRBZ
set_option linter.unusedSimpArgs false
set_option linter.unusedVariables false
namespace Go.Proofs.Ytngnkdedfcnfkaa.R10
open Go Go.Conc Go.RowKit Go.Conc.Lib Go.ConcR.Gen Go.ConcN.Gen
open Go.ConcN (WgLive Has RW ShN upd upd_same upd_ne goes_mono Vc_le Vc bk_cell bk_sem OpenSt)
open Go.ConcR (KK WgAt stA smA rd wr mk)

noncomputable abbrev bRun : Frame := base 10
/-- who stands where while the desks are closed: k are -/
structure Laid3 (c : Ctx) (base : Nat) (pos : Nat → Bool × Nat) (k : Nat) (ρ : Roles) : Prop where
  only : ∀ i s st, ρ i = some (s, st) → ∃ j, j < c.n ∧ i = base + j ∧ s = spotP c j (pos j) ∧ (st = .open → k ≤ j)
  all : ∀ j, j < c.n → k ≤ j → ρ (base + j) = some (spotP c j (pos j), .open)
theorem Laid3.g {c : Ctx} {base k : Nat} {pos : Nat → Bool × Nat} {ρ : Roles} (h : Laid3 c base pos k ρ) : LaidG c c.n base ρ := fun i s st hi => by
  obtain ⟨j, hj, e, rfl, _⟩ := h.only i s st hi
  exact ⟨j, hj, e, spotP_of c j _⟩
theorem Laid3.evo {c : Ctx} {base k : Nat} {pos : Nat → Bool × Nat} {ρ ρ' : Roles} (h : Laid3 c base pos k ρ) (e : Evo ρ ρ') : Laid3 c base pos k ρ' := by
  refine ⟨fun i s st hi => ?_, fun j hj hk => ((e (base + j)).2 _).2 (h.all j hj hk)⟩
  obtain ⟨st', hi'⟩ := e.spot hi
  obtain ⟨j, hj, e1, e2, e3⟩ := h.only i s st' hi'
  refine ⟨j, hj, e1, e2, fun hst => ?_⟩
  subst hst
  have := ((e i).2 s).1 hi
  obtain ⟨j2, hj2, e4, _, e5⟩ := h.only i s _ this
  have := e5 rfl
  omega

structure Ph4 (c : Ctx) (Shun : Loc → Prop) (B : Nat) (W : World) (cs : List Frame) (base : Nat) (pos : Nat → Bool × Nat) (k : Nat) (gs : Array Goroutine) (w : World) (T : Trace) (q : Nat → Nat) (ρ : Roles) : Prop where
  size : gs.size = base + c.n
  a0 : ∃ a, gs[0]? = some a ∧ Head3 c cs k a
  ke : KE c 29 W w
  hub : Hub Try.prog 51 (c.H + 6) B (ShunW c Shun) (ChW c) (SR2 c) .kd ρ T gs w q
  laid : Laid3 c base pos k ρ
  desk : ∀ j, j < c.n → (pos j).1 = false
  deaf : Deaf T 0 = 0

section
variable {c : Ctx} {Shun : Loc → Prop} {B : Nat} {cs : List Frame} {W : World} {base : Nat} {pos : Nat → Bool × Nat}
theorem spotP_wf2 (hc : OkC c Shun) (hB : c.H + 8 + 2 * c.n ≤ B) {j : Nat} (hj : j < c.n) {p : Bool × Nat} (hp : p.1 = false) : (spotP c j p).Wf 51 (c.H + 6) B (ChW c) (SR2 c) := by
  unfold spotP
  rw [hp]
  exact wfW hc hj (.inr ⟨j, hj, rfl⟩) hB (move0 c) (fun _ _ r => off_sr2 hc r) (fun _ _ _ _ _ => trivial)

theorem start3 (hc : OkC c Shun) (hB : c.H + 8 + 2 * c.n ≤ B) (hbase : 0 < base) (hbig : base + 66 < 2147483648) {tv : Value} {gs : Array Goroutine} {w : World} {T : Trace} {q : Nat → Nat} {ρ : Roles} {sl : Option (Nat × Nat)} (P : Ph3 c Shun B W tv cs base pos gs w T q ρ) :
    ∃ N gs' w' sl' T' q' ρ', runNT Try.prog N (crowd gs w sl) T = (.next (crowd gs' w' sl'), T') ∧ Ph4 c Shun B W cs base pos 0 gs' w' T' q' ρ' := by
  obtain ⟨hsz, ⟨a, ha, hhead⟩, hK, C, hl, hdesk, hd0⟩ := P
  have hnm := hc.nmax
  have C₀ := C.retune (SR' := SR2 c) (fun i s st hi => by
    obtain ⟨j, hj, _, rfl, _⟩ := hl.only i s st hi
    exact spotP_wf2 hc hB hj (hdesk j hj)) (.inr (calm2 c))
  have hl3 : Laid3 c base pos 0 ρ := ⟨fun i s st hi => let ⟨j, hj, e1, e2, e3⟩ := hl.only i s st hi; ⟨j, hj, e1, e2, fun _ => Nat.zero_le _⟩, fun j hj _ => hl.all j hj⟩
  obtain ⟨N₁, gs₁, a₁, w₁, sl₁, T₁, q₁, ρ₁, hr₁, hsz₁, ha₁, ⟨hA₁, hK₁⟩, C₁, hd₁, he₁, _⟩ := C₀.hold_walk (sl := sl) (env2 c hB) (by omega) (by simp) (meekS (k := c.n) hc (Nat.le_refl _) hB hl.g) ha hd0 (end2 hc hB hhead hK.ke)
  exact ⟨N₁, gs₁, w₁, sl₁, T₁, q₁, ρ₁, hr₁, by omega, ⟨a₁, ha₁, hA₁⟩, hK₁, C₁, hl3.evo he₁, hdesk, hd₁⟩

set_option maxHeartbeats 1600000 in
theorem round3 (hc : OkC c Shun) (hB : c.H + 8 + 2 * c.n ≤ B) {k : Nat} (hk : k < c.n) (hbase : 0 < base) (hbig : base + 66 < 2147483648) {gs : Array Goroutine} {w : World} {T : Trace} {q : Nat → Nat} {ρ : Roles} {sl : Option (Nat × Nat)} (P : Ph4 c Shun B W cs base pos k gs w T q ρ) :
    ∃ N gs' w' sl' T' q' ρ', runNT Try.prog N (crowd gs w sl) T = (.next (crowd gs' w' sl'), T') ∧ Ph4 c Shun B W cs base pos (k + 1) gs' w' T' q' ρ' := by
  obtain ⟨hsz, ⟨a, ha, hhead⟩, hK, C, hl, hdesk, hd0⟩ := P
  have hnm := hc.nmax
  have E := env2 c hB
  obtain ⟨N₁, gs₁, a₁, w₁, sl₁, T₁, q₁, ρ₁, hr₁, hsz₁, ha₁, ⟨hA₁, hK₁⟩, C₁, hd₁, he₁, _⟩ := C.hold_walk (sl := sl) E (by omega) (by simp) (meekS (k := c.n) hc (Nat.le_refl _) hB hl.g) ha hd0 (pre3 hc hB hk hhead hK)
  have hl₁ := hl.evo he₁
  obtain ⟨hrun, hmw, a₂, hrun₂, hA₂, hgo⟩ := close3 hA₁
  have hpk := hdesk k hk
  have hsp : spotP c k (pos k) = deskSpot c k := by unfold spotP; rw [hpk]; rfl
  have hρ := hl₁.all k hk (Nat.le_refl _)
  rw [hsp] at hρ
  obtain ⟨N₂, gs₂, w₂, sl₂, T₂, q₂, ρ₂, κ, hr₂, hsz₂, ha₂, hSR₂, he₂, hch₂, C₂, hd₂⟩ := C₁.close (sl := sl₁) E (by omega) (by simp) hρ rfl (byeW hc hk) (calm2 c) ha₁ hrun hmw hrun₂ (fun v κ _ hv => hgo v κ hv)
  have hK₂ := (hK₁.off2 hc hSR₂).close hc (q := κ) hk (let ⟨x, hx⟩ := C₁.chans _ _ hρ; ⟨x, (hch₂ _ (.inr ⟨k, hk, rfl⟩)).trans hx⟩)
  have hl₂ := hl₁.evo he₂
  have hl₃ : Laid3 c base pos (k + 1) (upd ρ₂ (base + k) (some (deskSpot c k, .shut))) := by
    refine ⟨fun i s st hi => ?_, fun j hj hjk => ?_⟩
    · by_cases e : i = base + k
      · subst e; rw [upd_same] at hi
        obtain ⟨rfl, rfl⟩ := Prod.mk.inj (Option.some.inj hi)
        exact ⟨k, hk, rfl, hsp.symm, fun h => by cases h⟩
      · rw [upd_ne ρ₂ _ e] at hi
        obtain ⟨j, hj, e1, e2, e3⟩ := hl₂.only i s st hi
        exact ⟨j, hj, e1, e2, fun h => by have := e3 h; omega⟩
    · rw [upd_ne ρ₂ _ (by omega)]; exact hl₂.all j hj (by omega)
  obtain ⟨N₃, gs₃, a₃, w₃, sl₃, T₃, q₃, ρ₃, hr₃, hsz₃, ha₃, ⟨hA₃, hK₃⟩, C₃, hd₃, he₃, _⟩ := Hub.hold_walk (sl := sl₂) E (by omega) (by simp) (meekS (k := c.n) hc (Nat.le_refl _) hB hl₃.g) ha₂ C₂ (hd₂.trans hd₁) (next3 hc hk hA₂ hK₂)
  exact ⟨N₁ + (N₂ + N₃), gs₃, w₃, sl₃, T₃, q₃, ρ₃, runNT_then hr₁ (runNT_then hr₂ hr₃), by omega, ⟨a₃, ha₃, hA₃⟩, hK₃, C₃, hl₃.evo he₃, hdesk, hd₃⟩

theorem rounds3 (hc : OkC c Shun) (hB : c.H + 8 + 2 * c.n ≤ B) (hbase : 0 < base) (hbig : base + 66 < 2147483648) : ∀ (m k : Nat), k + m = c.n → ∀ {gs : Array Goroutine} {w : World} {T : Trace} {q : Nat → Nat} {ρ : Roles} {sl : Option (Nat × Nat)}, Ph4 c Shun B W cs base pos k gs w T q ρ →
    ∃ N gs' w' sl' T' q' ρ', runNT Try.prog N (crowd gs w sl) T = (.next (crowd gs' w' sl'), T') ∧ Ph4 c Shun B W cs base pos c.n gs' w' T' q' ρ'
  | 0, k, h, gs, w, T, q, ρ, sl, P => by
    obtain rfl : k = c.n := by omega
    exact ⟨0, gs, w, sl, T, q, ρ, rfl, P⟩
  | m + 1, k, h, gs, w, T, q, ρ, sl, P => by
    obtain ⟨N₁, gs₁, w₁, sl₁, T₁, q₁, ρ₁, hr₁, P₁⟩ := round3 (sl := sl) hc hB (by omega) hbase hbig P
    obtain ⟨N₂, gs₂, w₂, sl₂, T₂, q₂, ρ₂, hr₂, P₂⟩ := rounds3 hc hB hbase hbig m (k + 1) (by omega) (sl := sl₁) P₁
    exact ⟨N₁ + N₂, gs₂, w₂, sl₂, T₂, q₂, ρ₂, runNT_then hr₁ hr₂, P₂⟩

theorem dg_evL {Wg B : Nat} {Shun : Loc → Prop} (hB : Wg < B) : ∀ w w' es, DG Wg w w' es → ∀ e ∈ es, EvL Shun B e := by
  rintro w w' es ⟨_, h⟩ e he
  rcases h e he with rfl | rfl
  · exact ⟨fun x hx _ => by simp only [MemAct.ofEvent, MemAct.touch?, Option.some.injEq] at hx; subst hx; simp, by simp, by simp, hB⟩
  · exact ⟨fun x hx _ => by simp only [MemAct.ofEvent, MemAct.touch?, Option.some.injEq] at hx; subst hx; simp, by simp, by simp, hB⟩

set_option maxHeartbeats 1600000 in
/-- from the last close to the caller -/
theorem finish3 (hc : OkC c Shun) (hB : c.H + 8 + 2 * c.n ≤ B) (hbase : 0 < base) (hbig : base + 66 < 2147483648) {b₁ : Frame} {a₁ : Act} {ops₁ : Array Oper} {i₁ : Nat} {rest₁ : List Nat} {k₁ : List Item} {cs₁ : List Frame} {gs : Array Goroutine} {w : World} {T : Trace} {q : Nat → Nat} {ρ : Roles} {sl : Option (Nat × Nat)}
    (P : Ph4 c Shun B W (b₁.at a₁ (.inRegion ops₁ (i₁ :: rest₁) :: k₁) :: cs₁) base pos c.n gs w T q ρ) :
    ∃ N gs' a' w' sl' T' q', runNT Try.prog N (crowd gs w sl) T = (.next (crowd gs' w' sl'), T') ∧ gs'.size = base + c.n ∧ gs'[0]? = some a' ∧ Left3 c b₁ a₁ ops₁ i₁ rest₁ k₁ cs₁ a' ∧ KE c 29 W w' ∧ Leavers Try.prog T' gs' q' ∧ Past (ShunW c Shun) w'.heap.size T' := by
  obtain ⟨hsz, ⟨a, ha, hhead⟩, hK, C, hl, hdesk, hd0⟩ := P
  have hnm := hc.nmax
  have E := env2 c hB
  have hM := meekS (k := c.n) hc (Nat.le_refl _) hB hl.g
  have hMg : Meek (c.H + 6) B (ShunW c Shun) ρ (DG (c.H + 6)) := fun w w' es d => hM w w' es (dg_ds d)
  have hclosed : ∀ i s st, ρ i = some (s, st) → st ≠ .open := fun i s st hi e => by
    obtain ⟨j, hj, _, _, h⟩ := hl.only i s st hi
    have := h e; omega
  obtain ⟨Tw, hTw, hG⟩ := wait3 hc hB hhead hK
  obtain ⟨N₁, gs₁, a₂, w₁, es₁, sl₁, T₁, fn₁, pos₁, q₁, ρ₁, tag₁, hr₁, hsz₁, ha₁, ⟨rfl, rfl, m₁, hG₁⟩, C₁, hd₁, he₁, _, _⟩ := C.go_step (sl := sl) E (by omega) (by simp) hM ha hd0 hG (fun _ _ h => h.1)
    (Next := fun a' w' es tag' _ _ => es = #[mk .disable] ∧ tag' = .kd ∧ ∃ m, Goes Try.prog true (SR2 c) (DG (c.H + 6)) (AnchX link (c.H + 6) (KE c 29 W) (bRun.at ⟨Tw, []⟩ (.inRegion R32ops (0 :: []) :: [.code C5])) (b₁.at a₁ (.inRegion ops₁ (i₁ :: rest₁) :: k₁) :: cs₁)) m a' w')
    (fun b v ρ' q' hS hev hle hmode => by
      obtain ⟨_, g', hgo, hn⟩ := hS v (E.refl _)
      exact ⟨g', v, _, .kd, hgo, C.dm0_wg E (.refl _ v) (fun e he => by simp at he; subst he; exact C.evM_bk E (.inl rfl)), hmode, rfl, rfl, hn⟩)
  obtain ⟨N₂, m₂, T₂, hr₂, gs₂, a₃, w₂, sl₂, q₂, rfl, hsz₂, ha₂, ⟨m₃, hG₂⟩, hP₂, hL₂, _⟩ := wait_loop (P := Try.prog) (D := DG (c.H + 6)) E (fun g w h => waitRoundX wgLib (KE.stays hc) g w h) _ (sl := sl₁) rfl (by omega) (hMg.evo he₁) ha₁ C₁ (he₁.closed hclosed) (by rw [Deaf_own, hd₁]; rfl) hG₁
  obtain ⟨N₃, gs₃, a₄, w₃, sl₃, T₃, q₃, hr₃, hsz₃, ha₃, ⟨⟨rfl, hK₃⟩, hs₃⟩, hL₃, hP₃⟩ := walk_beside (P := Try.prog) (dg_evL (by omega : c.H + 6 < max w₂.heap.size (c.H + 7))) _ _ gs₂ a₃ w₂ sl₂ T₂ q₂ (Nat.le_refl _) ha₂ hL₂ (hP₂.mono (Nat.le_max_left _ _))
    (goes_inv (I := fun w => w.heap.size = w₂.heap.size) (fun a b h r => by obtain ⟨d, rfl⟩ := r; exact h) (fun a b es h d => by obtain ⟨rfl, _⟩ := d; exact h) rfl hG₂)
  obtain ⟨N₄, gs₄, a₅, w₄, sl₄, T₄, q₄, hr₄, hsz₄, ha₄, ⟨⟨hA₄, hK₄⟩, hs₄⟩, hL₄, hP₄⟩ := walk_beside (P := Try.prog) (dg_evL (by omega : c.H + 6 < max w₂.heap.size (c.H + 7))) _ _ gs₃ _ w₃ sl₃ T₃ q₃ (Nat.le_refl _) ha₃ hL₃ hP₃
    (goes_inv (I := fun w => w.heap.size = w₂.heap.size) (fun a b h r => by obtain ⟨d, rfl⟩ := r; exact h) (fun a b es h d => by obtain ⟨rfl, _⟩ := d; exact h) hs₃ (ret3 hc hTw hK₃))
  have hsz4 := hK₄.sz
  rw [show max w₂.heap.size (c.H + 7) = w₄.heap.size by omega] at hP₄
  exact ⟨N₁ + (N₂ + (N₃ + N₄)), gs₄, a₅, w₄, sl₄, T₄, q₄, runNT_then hr₁ (runNT_then hr₂ (runNT_then hr₃ hr₄)), by omega, ha₄, hA₄, hK₄, hL₄, hP₄⟩

/-- the hub's beginning: nobody works yet -/
theorem hub0 (hc : OkC c Shun) (hB : c.H + 8 + 2 * c.n ≤ B) {B₀ : Nat} (hB₀ : B₀ ≤ c.H + 6) {gs : Array Goroutine} {w : World} {T : Trace} {q : Nat → Nat} (hL : Leavers Try.prog T gs q) (hP : Past Shun B₀ T) (hw : WgAt 51 (c.H + 6) w 0 0) :
    Hub Try.prog 51 (c.H + 6) B (ShunW c Shun) (ChW c) SR0 .kd (fun _ => none) T gs w q := by
  have hst : ∀ i, (stg (fun _ => none) i).stage = 1 := fun i => by rw [stg_eq]; rfl
  have hop : OpenSt gs.size (stg (fun _ => none)) := fun i _ => .inr (.inr (.inr (hst i)))
  have hV : Vc gs.size (stg (fun _ => none)) = 0 := by
    have : ∀ N, Vc N (stg (fun _ => none)) = 0 := fun N => by
      induction N with
      | zero => rfl
      | succ N ih =>
        unfold Vc at ih ⊢
        simp only [Go.ConcN.sumTo]
        rw [ih]
        simp [Go.ConcN.cnt, hst]
    exact this _
  have hm := mode_kd_of hop
  rw [hV] at hm
  refine ⟨fun i g hi hg => hL.old i g hi hg, fun _ _ _ h => (by cases h), fun _ _ h => (by cases h), fun _ _ h => (by cases h), fun _ _ _ _ _ _ h => (by cases h), fun _ _ _ h => (by cases h), fun _ _ _ _ _ _ h => (by cases h), rfl, fun j hj => ⟨hL.above j hj, rfl⟩, ?_, ?_, ⟨0, 0, hw, by simpa using hm⟩, .inl fun _ _ _ h => (by cases h)⟩
  · refine PT.begin hP hB₀ (Nat.le_of_lt (Nat.lt_of_le_of_lt hB₀ (live_lt ⟨_, _, hw⟩))) (fun l h => .inl h) (fun g h => by unfold MemOf at h; cases h)
  · refine ⟨fun l h => .inr h, fun g l h => ?_, fun g l h => ?_, fun g g' l h => ?_⟩
    · rcases h with ⟨s, st, a, h, _⟩ | ⟨s, st, a, h, _⟩ <;> cases h
    · rcases h with ⟨s, st, a, h, _⟩ | ⟨s, st, a, h, _⟩ <;> cases h
    · obtain ⟨s, st, a, h, _⟩ := h; cases h

set_option maxHeartbeats 1600000 in
/-- ████████ ONE CALL OF Run. ████████ -/
theorem run_phase (hc : OkC c Shun) {e : Nat} (does : Does c B e) (hB : c.H + 8 + 2 * c.n ≤ B) (hH : c.H = W.heap.size) (hjobs : ∀ i, i < c.J → W.cell? ⟨c.jb, i, none⟩ = some (c.vals i))
    {ta : Option Addr} {tl tc tb : Nat} {tz : Nat → Int} (hT : OkT c Shun W ta tl tb tz) {B₀ : Nat} (hB₀ : B₀ ≤ c.H) {b₁ : Frame} {a₁ : Act} {ops₁ : Array Oper} {i₁ : Nat} {rest₁ : List Nat} {k₁ : List Item} {cs₁ : List Frame}
    {gs : Array Goroutine} {T : Trace} {q : Nat → Nat} {sl : Option (Nat × Nat)} (hbig : gs.size + 66 < 2147483648) (ha : gs[0]? = some (gRun (.slice c.ja c.J c.cap) (.int .i64 c.n) (.slice ta tl tc) c.fn (b₁.at a₁ (.inRegion ops₁ (i₁ :: rest₁) :: k₁) :: cs₁))) (hL : Leavers Try.prog T gs q) (hP : Past Shun B₀ T) :
    ∃ N gs' a' w' sl' T' q', runNT Try.prog N (crowd gs W sl) T = (.next (crowd gs' w' sl'), T') ∧ gs'.size = gs.size + c.n ∧ gs'[0]? = some a' ∧ Left3 c b₁ a₁ ops₁ i₁ rest₁ k₁ cs₁ a' ∧ KE c 29 W w' ∧ Leavers Try.prog T' gs' q' ∧ Past (ShunW c Shun) w'.heap.size T' := by
  have hB' : c.H + 8 + 2 * c.n ≤ B := by omega
  have hbase : 0 < gs.size := (Array.getElem?_eq_some_iff.1 ha).1
  have hnm := hc.nmax
  obtain ⟨m₀, hG⟩ := entry1 (B := c.H + 6) (cs := b₁.at a₁ (.inRegion ops₁ (i₁ :: rest₁) :: k₁) :: cs₁) (tv := .slice ta tl tc) hc (Nat.le_refl _) hH hjobs
  obtain ⟨N₁, gs₁, a₂, w₁, sl₁, T₁, q₁, hr₁, hsz₁, ha₁, ⟨hA₁, hK₁, hg₁⟩, hL₁, hP₁⟩ := walk_beside (P := Try.prog) (Shun := Shun) (B := c.H + 6) (fun _ _ _ h => h) _ _ gs _ W sl T q (Nat.le_refl _) ha hL (hP.mono (by omega)) hG
  have C₁ := hub0 hc hB' (Nat.le_refl _) hL₁ hP₁ hg₁
  obtain ⟨N₂, gs₂, w₂, sl₂, T₂, q₂, ρ₂, hr₂, P₂⟩ := rounds1 (sl := sl₁) (base := gs.size) hc hB' hbase hbig c.n 0 (by omega) ⟨by omega, ⟨a₂, ha₁, hA₁⟩, hK₁, C₁, ⟨fun _ _ _ h => (by cases h), fun j hj => (by omega)⟩, hP₁.hears⟩
  obtain ⟨N₃, gs₃, w₃, sl₃, T₃, q₃, ρ₃, pos₃, hr₃, P₃⟩ := jobs2 (sl := sl₂) hc does hB hbase hbig hT P₂
  obtain ⟨N₄, gs₄, w₄, sl₄, T₄, q₄, ρ₄, hr₄, P₄⟩ := start3 (sl := sl₃) hc hB' hbase hbig P₃
  obtain ⟨N₅, gs₅, w₅, sl₅, T₅, q₅, ρ₅, hr₅, P₅⟩ := rounds3 (sl := sl₄) hc hB' hbase hbig c.n 0 (by omega) P₄
  obtain ⟨N₆, gs₆, a₆, w₆, sl₆, T₆, q₆, hr₆, hsz₆, ha₆, hA₆, hK₆, hL₆, hP₆⟩ := finish3 (sl := sl₅) hc hB' hbase hbig P₅
  exact ⟨N₁ + (N₂ + (N₃ + (N₄ + (N₅ + N₆)))), gs₆, a₆, w₆, sl₆, T₆, q₆, runNT_then hr₁ (runNT_then hr₂ (runNT_then hr₃ (runNT_then hr₄ (runNT_then hr₅ hr₆)))), hsz₆, ha₆, hA₆, hK₆, hL₆, hP₆⟩
end
end Go.Proofs.Ytngnkdedfcnfkaa.R10
