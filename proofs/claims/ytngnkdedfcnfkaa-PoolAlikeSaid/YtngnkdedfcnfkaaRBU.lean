/-
  lantern/pool.Run (function 10): the machine hires the workers, one behind the other.
-/
import Derived.Test.YtngnkdedfcnfkaaRBT
set_option linter.unusedSimpArgs false
set_option linter.unusedVariables false
namespace Go.Proofs.Ytngnkdedfcnfkaa.R10
open Go Go.Conc Go.RowKit Go.Conc.Lib Go.ConcR.Gen Go.ConcN.Gen
open Go.ConcN (WgLive Has RW ShN upd upd_same upd_ne goes_mono Vc_le bk_cell bk_sem)
open Go.ConcR (KK WgAt stA smA rd wr mk)

/-- who stands where while it spawns -/
structure Laid1 (c : Ctx) (k base : Nat) (ρ : Roles) : Prop where
  only : ∀ i s st, ρ i = some (s, st) → ∃ j, j < k ∧ i = base + j ∧ s = deskSpot c j ∧ st = .open
  all : ∀ j, j < k → ρ (base + j) = some (deskSpot c j, .open)
theorem Laid1.g {c : Ctx} {k base : Nat} {ρ : Roles} (h : Laid1 c k base ρ) : LaidG c k base ρ := fun i s st hi => by
  obtain ⟨j, hj, e, rfl, _⟩ := h.only i s st hi
  exact ⟨j, hj, e, spotOf_W c j (.inr rfl)⟩

structure Ph1 (c : Ctx) (Shun : Loc → Prop) (B : Nat) (W : World) (tv : Value) (cs : List Frame) (base k : Nat) (gs : Array Goroutine) (w : World) (T : Trace) (q : Nat → Nat) (ρ : Roles) : Prop where
  size : gs.size = base + k
  a0 : ∃ a, gs[0]? = some a ∧ Head1 c tv cs k a
  ks : KS c W k w
  hub : Hub Try.prog 51 (c.H + 6) B (ShunW c Shun) (ChW c) SR0 .kd ρ T gs w q
  laid : Laid1 c k base ρ
  deaf : Deaf T 0 = 0

section
variable {c : Ctx} {Shun : Loc → Prop} {B : Nat} {cs : List Frame} {W : World} {tv : Value} {base k : Nat}
theorem head_run {g : Goroutine} (h : Head1 c tv cs k g) : g.status = .running := by
  obtain ⟨T, rfl, _⟩ := h; rfl

set_option maxHeartbeats 1600000 in
/-- ████ ONE WORKER IS HIRED. ████ -/
theorem round1 (hc : OkC c Shun) (hB : c.H + 8 + 2 * c.n ≤ B) (hk : k < c.n) (hbase : 0 < base) (hbig : base + 66 < 2147483648) {gs : Array Goroutine} {w : World} {T : Trace} {q : Nat → Nat} {ρ : Roles} {sl : Option (Nat × Nat)} (P : Ph1 c Shun B W tv cs base k gs w T q ρ) :
    ∃ N gs' w' sl' T' q' ρ', runNT Try.prog N (crowd gs w sl) T = (.next (crowd gs' w' sl'), T') ∧ Ph1 c Shun B W tv cs base (k + 1) gs' w' T' q' ρ' := by
  obtain ⟨hsz, ⟨a, ha, hhead⟩, hks, C, hlaid, hd0⟩ := P
  have hnm := hc.nmax
  have E := env0 c hB
  have hopen : ∀ i s st, ρ i = some (s, st) → st = .open := fun i s st hi => (hlaid.only i s st hi).choose_spec.2.2.2
  have hM := meekS (k := k) hc (Nat.le_of_lt hk) hB hlaid.g
  have hMg : Meek (c.H + 6) B (ShunW c Shun) ρ (DG (c.H + 6)) := fun w w' es d => hM w w' es (dg_ds d)
  have hN : gs.size + 1 < 2147483648 := by omega
  -- 'disable'
  obtain ⟨N₁, gs₁, a₁, w₁, es₁, sl₁, T₁, fn₁, pos₁, q₁, ρ₁, tag₁, hr₁, hsz₁, ha₁, ⟨rfl, rfl, m₁, hG₁⟩, C₁, hd₁, he₁, _, _⟩ := C.go_step (sl := sl) E hN (by simp) hM ha hd0 (hire1 hc hB hk hhead hks) (fun _ _ h => h.1)
    (Next := fun a' w' es tag' _ _ => es = #[mk .disable] ∧ tag' = .kd ∧ ∃ m, Goes Try.prog true SR0 (DG (c.H + 6)) (YA1 Try.prog 51 (c.H + 6) SR0 (fun g w => After1 c tv cs k g ∧ KS c W (k + 1) w)) m a' w')
    (fun b v ρ' q' hS hev hle hmode => by
      obtain ⟨_, g', hgo, hn⟩ := hS v (E.refl _)
      exact ⟨g', v, _, .kd, hgo, C.dm0_wg E (.refl _ v) (fun e he => by simp at he; subst he; exact C.evM_bk E (.inl rfl)), hmode, rfl, rfl, hn⟩)
  obtain rfl := he₁.eq_of_open hopen
  -- the atomic add
  obtain ⟨N₂, gs₂, a₂, w₂, es₂, sl₂, T₂, fn₂, pos₂, q₂, ρ₂, tag₂, hr₂, hsz₂, ha₂, ⟨rfl, rfl, m₂, hG₂⟩, C₂, hd₂, he₂, _, _⟩ := C₁.go_step (sl := sl₁) E (by rw [hsz₁]; exact hN) (by simp) hMg ha₁ (by rw [Deaf_own, hd₁]; rfl : Deaf _ 0 = 1) hG₁ (fun _ _ h => h.1)
    (Next := fun a' w' es tag' _ _ => es = #[rd (stA (c.H + 6)), wr (stA (c.H + 6))] ∧ tag' = .sp 0 3 ∧ ∃ m, Goes Try.prog true SR0 (DG (c.H + 6)) (YKe Try.prog (c.H + 6) SR0 (fun g w => After1 c tv cs k g ∧ KS c W (k + 1) w)) m a' w')
    (fun b v ρ' q' hS hev hle hmode => by
      obtain ⟨_, hx⟩ := hS v (E.refl _)
      obtain ⟨st, sm, hwg, hmo⟩ := hmode
      obtain ⟨hop, rfl, rfl⟩ := mode_kd hmo
      obtain ⟨g', hgo, hn⟩ := hx _ (by have := Vc_le gs₁.size (stg ρ'); omega) hwg
      exact ⟨g', _, _, .sp 0 3, hgo, C₁.dm0_wg E (aside_setCell v (stA _) _) (fun e he => by simp at he; rcases he with rfl | rfl <;> exact C₁.evM_bk E (bk_cell _ _ rfl)), ⟨_, 0, hwg.setSt _, mode_sp_of hop⟩, rfl, rfl, hn⟩)
  obtain rfl := he₂.eq_of_open hopen
  -- 'enable'
  obtain ⟨N₃, gs₃, a₃, w₃, es₃, sl₃, T₃, fn₃, pos₃, q₃, ρ₃, tag₃, hr₃, hsz₃, ha₃, ⟨rfl, rfl, m₃, hG₃⟩, C₃, hd₃, he₃, _, _⟩ := C₂.go_step (sl := sl₂) E (by rw [hsz₂, hsz₁]; exact hN) (by simp) hMg ha₂ (by rw [Deaf_own, hd₂]; rfl : Deaf _ 0 = 1) hG₂ (fun _ _ h => h.1)
    (Next := fun a' w' es tag' _ _ => es = #[mk .enable] ∧ tag' = .sp 0 3 ∧ ∃ m, Goes Try.prog true SR0 (DG (c.H + 6)) (fun g w => After1 c tv cs k g ∧ KS c W (k + 1) w) m a' w')
    (fun b v ρ' q' hS hev hle hmode => by
      obtain ⟨_, g', hgo, hn⟩ := hS v (E.refl _)
      exact ⟨g', v, _, .sp 0 3, hgo, C₂.dm0_wg E (.refl _ v) (fun e he => by simp at he; subst he; exact C₂.evM_bk E (.inr (.inl rfl))), hmode, rfl, rfl, hn⟩)
  obtain rfl := he₃.eq_of_open hopen
  have hszA : gs₃.size = base + k := by omega
  -- to the go statement
  obtain ⟨N₄, gs₄, a₄, w₄, sl₄, T₄, q₄, ρ₄, hr₄, hsz₄, ha₄, ⟨hA₄, hK₄⟩, C₄, hd₄, he₄, _⟩ := C₃.hold_walk (sl := sl₃) E (by omega) (by simp) hMg ha₃ (by rw [Deaf_own, hd₃]; rfl : Deaf _ 0 = 0) hG₃
  obtain rfl := he₄.eq_of_open hopen
  obtain ⟨N₅, gs₅, a₅, w₅, sl₅, T₅, q₅, ρ₅, hr₅, hsz₅, ha₅, ⟨hA₅, hK₅⟩, C₅, hd₅, he₅, _⟩ := C₄.hold_walk (sl := sl₄) E (by omega) (by simp) hM ha₄ hd₄ (go1 hc hA₄ hK₄)
  obtain rfl := he₅.eq_of_open hopen
  obtain ⟨hrun, a₆, hgone, hspawn⟩ := spawn1 hA₅
  have hwf : (deskSpot c k).Wf 51 (c.H + 6) B (ChW c) SR0 := wfW hc hk (.inr ⟨k, hk, rfl⟩) hB (move0 c) (fun _ _ r => r) (fun _ _ _ _ _ => trivial)
  obtain ⟨N₆, gs₆, w₆, sl₆, T₆, q₆, ρ₆, hr₆, hsz₆, ha₆, hSR₆, he₆, C₆, hd₆⟩ := C₅.hire (sl := sl₅) E (by omega) ha₅ hrun hd₅ (a' := a₆) (child := born Try.prog (callW c k)) (es := #[]) (fun v _ => hspawn v) (by simp) (deskSpot c k) hwf
    (fun v r => (hK₅.off r).kw (by omega)) (fun i s' st hi => by
      obtain ⟨j, hj, _, rfl, _⟩ := hlaid.only i s' st hi
      show c.H + 8 + 2 * j ≠ c.H + 8 + 2 * k
      omega) (hK₅.chs k (by omega))
    (fun j s' st hi => by
      obtain ⟨j', hj', _, rfl, _⟩ := hlaid.only j s' st hi
      exact ⟨fun x hx => (show False from hx).elim, fun x hx => (show False from hx).elim⟩)
    (fun x hx => by
      rcases hx with hx | hx
      · have hd : DepW c k x := hx
        rcases hd.where_ with e | e | e | e | e | e | ⟨e, hJ⟩
        · exact shunW_not (hc.sh x (by omega) (by omega)) (by omega)
        · exact shunW_not (hc.sh x (by omega) (by omega)) (by omega)
        · exact shunW_not (hc.sh x (by omega) (by omega)) (by omega)
        · exact shunW_not (hc.sh x (by omega) (by omega)) (by omega)
        · exact shunW_not (hc.sh x (by omega) (by omega)) (by omega)
        · subst e; exact shunW_not (hc.sh _ (by simp) (by simp)) (by simp)
        · exact shunW_not (hc.shj x hJ e) (by have := hc.jbH hJ; omega)
      · exact (show False from hx).elim)
    (fun v r => ⟨40, startW (b := false) hc hk hB v ⟨(hK₅.off r).kw (by omega), fun e => Bool.noConfusion e⟩⟩)
  obtain rfl := he₆.eq_of_open hopen
  have hbk : gs₅.size = base + k := by omega
  rw [hbk] at C₆
  have hlaid' : Laid1 c (k + 1) base (upd ρ₆ (base + k) (some (deskSpot c k, .open))) := by
    refine ⟨fun i s st hi => ?_, fun j hj => ?_⟩
    · by_cases e : i = base + k
      · subst e; rw [upd_same] at hi
        obtain ⟨rfl, rfl⟩ := Prod.mk.inj (Option.some.inj hi)
        exact ⟨k, by omega, rfl, rfl, rfl⟩
      · rw [upd_ne ρ₆ _ e] at hi
        obtain ⟨j, hj, h⟩ := hlaid.only i s st hi
        exact ⟨j, by omega, h⟩
    · by_cases e : j = k
      · subst e; rw [upd_same]
      · rw [upd_ne ρ₆ _ (by omega)]; exact hlaid.all j (by omega)
  -- to the loop's head
  obtain ⟨N₇, gs₇, a₇, w₇, sl₇, T₇, q₇, ρ₇, hr₇, hsz₇, ha₇, ⟨hA₇, hK₇⟩, C₇, hd₇, he₇, _⟩ := C₆.hold_walk (sl := sl₆) E (by omega) (by simp) (meekS (k := k + 1) hc hk hB hlaid'.g) ha₆ hd₆ (next1 hc hk hgone (hK₅.off hSR₆))
  obtain rfl := he₇.eq_of_open (fun i s st hi => (hlaid'.only i s st hi).choose_spec.2.2.2)
  exact ⟨N₁ + (N₂ + (N₃ + (N₄ + (N₅ + (N₆ + N₇))))), gs₇, w₇, sl₇, T₇, q₇, _, runNT_then hr₁ (runNT_then hr₂ (runNT_then hr₃ (runNT_then hr₄ (runNT_then hr₅ (runNT_then hr₆ hr₇))))),
    by omega, ⟨a₇, ha₇, hA₇⟩, hK₇, C₇, hlaid', hd₇⟩

/-- all are hired -/
theorem rounds1 (hc : OkC c Shun) (hB : c.H + 8 + 2 * c.n ≤ B) (hbase : 0 < base) (hbig : base + 66 < 2147483648) : ∀ (m k : Nat), k + m = c.n → ∀ {gs : Array Goroutine} {w : World} {T : Trace} {q : Nat → Nat} {ρ : Roles} {sl : Option (Nat × Nat)}, Ph1 c Shun B W tv cs base k gs w T q ρ →
    ∃ N gs' w' sl' T' q' ρ', runNT Try.prog N (crowd gs w sl) T = (.next (crowd gs' w' sl'), T') ∧ Ph1 c Shun B W tv cs base c.n gs' w' T' q' ρ'
  | 0, k, h, gs, w, T, q, ρ, sl, P => by
    obtain rfl : k = c.n := by omega
    exact ⟨0, gs, w, sl, T, q, ρ, rfl, P⟩
  | m + 1, k, h, gs, w, T, q, ρ, sl, P => by
    obtain ⟨N₁, gs₁, w₁, sl₁, T₁, q₁, ρ₁, hr₁, P₁⟩ := round1 (sl := sl) hc hB (by omega) hbase hbig P
    obtain ⟨N₂, gs₂, w₂, sl₂, T₂, q₂, ρ₂, hr₂, P₂⟩ := rounds1 hc hB hbase hbig m (k + 1) (by omega) (sl := sl₁) P₁
    exact ⟨N₁ + N₂, gs₂, w₂, sl₂, T₂, q₂, ρ₂, runNT_then hr₁ hr₂, P₂⟩
end
end Go.Proofs.Ytngnkdedfcnfkaa.R10
