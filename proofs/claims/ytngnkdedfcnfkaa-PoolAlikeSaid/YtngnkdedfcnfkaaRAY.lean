/-
  lantern/pool.Run (function 8): the machine hands out the jobs and takes the answers.
-/
import Derived.Test.YtngnkdedfcnfkaaRAX
import Derived.Test.YtngnkdedfcnfkaaPrH
set_option linter.unusedSimpArgs false
set_option linter.unusedVariables false
namespace Go.Proofs.Ytngnkdedfcnfkaa.R8
open Go Go.Conc Go.RowKit Go.Conc.Lib Go.ConcR.Gen Go.ConcN.Gen
open Go.ConcN (WgLive Has RW ShN upd upd_same upd_ne goes_mono Vc_le bk_cell bk_sem)
open Go.ConcR (KK WgAt stA smA rd wr mk)

/-- the spot that goes with a place -/
def spotP (c : Ctx) (j : Nat) (p : Bool × Nat) : Spot := if p.1 then backSpot c j p.2 else deskSpot c j
theorem spotP_chan (c : Ctx) (j : Nat) (p : Bool × Nat) : (spotP c j p).chan = if p.1 then c.H + 4 else c.H + 8 + 2 * j := by
  unfold spotP; split <;> rfl
theorem spotP_send (c : Ctx) (j : Nat) (p : Bool × Nat) : (spotP c j p).isSend = p.1 := by
  unfold spotP; cases p.1 <;> rfl
theorem spotP_K (c : Ctx) (j : Nat) (p : Bool × Nat) : (spotP c j p).K = KW c j := by
  unfold spotP; split <;> rfl
theorem spotP_Own (c : Ctx) (j : Nat) (p : Bool × Nat) : (spotP c j p).Own = fun _ => False := by
  unfold spotP; split <;> rfl
theorem spotP_DepB (c : Ctx) (j : Nat) (p : Bool × Nat) : (spotP c j p).DepB = (· = c.H + 7 + 2 * j) := by
  unfold spotP; split <;> rfl
theorem spotP_of (c : Ctx) (j : Nat) (p : Bool × Nat) : SpotOf c j (spotP c j p) := by
  unfold spotP; split
  · exact spotOf_W c j (.inl rfl)
  · exact spotOf_W c j (.inr rfl)
theorem spotP_wf {c : Ctx} {Shun : Loc → Prop} {B : Nat} (hc : OkC c Shun) (hB : c.H + 8 + 2 * c.n ≤ B) {j : Nat} (hj : j < c.n) (p : Bool × Nat) : (spotP c j p).Wf 51 (c.H + 6) B (ChW c) (SR1 c) := by
  unfold spotP; split
  · exact wfW hc hj (.inl rfl) hB (moveG c) (fun _ _ r => r) (fun u w w' h k => let ⟨v, e, h⟩ := h; ⟨v, e, hc.ansK _ _ _ _ h k⟩)
  · exact wfW hc hj (.inr ⟨j, hj, rfl⟩) hB (move0 c) (move0 c) (fun _ _ _ _ _ => trivial)

/-- who stands where -/
structure Laid2 (c : Ctx) (base : Nat) (pos : Nat → Bool × Nat) (ρ : Roles) : Prop where
  only : ∀ i s st, ρ i = some (s, st) → ∃ j, j < c.n ∧ i = base + j ∧ s = spotP c j (pos j) ∧ st = .open
  all : ∀ j, j < c.n → ρ (base + j) = some (spotP c j (pos j), .open)
theorem Laid2.g {c : Ctx} {base : Nat} {pos : Nat → Bool × Nat} {ρ : Roles} (h : Laid2 c base pos ρ) : LaidG c c.n base ρ := fun i s st hi => by
  obtain ⟨j, hj, e, rfl, _⟩ := h.only i s st hi
  exact ⟨j, hj, e, spotP_of c j _⟩
theorem Laid2.open' {c : Ctx} {base : Nat} {pos : Nat → Bool × Nat} {ρ : Roles} (h : Laid2 c base pos ρ) : ∀ i s st, ρ i = some (s, st) → st = .open := fun i s st hi => (h.only i s st hi).choose_spec.2.2.2
theorem Laid2.upd {c : Ctx} {base : Nat} {pos : Nat → Bool × Nat} {ρ : Roles} (h : Laid2 c base pos ρ) {j : Nat} (hj : j < c.n) (p : Bool × Nat) : Laid2 c base (upd pos j p) (upd ρ (base + j) (some (spotP c j p, .open))) := by
  refine ⟨fun i s st hi => ?_, fun j' hj' => ?_⟩
  · by_cases e : i = base + j
    · subst e; rw [upd_same] at hi
      obtain ⟨rfl, rfl⟩ := Prod.mk.inj (Option.some.inj hi)
      exact ⟨j, hj, rfl, by rw [upd_same], rfl⟩
    · rw [upd_ne ρ _ e] at hi
      obtain ⟨j', hj', e', rfl, hst⟩ := h.only i s st hi
      exact ⟨j', hj', e', by rw [upd_ne pos _ (by omega)], hst⟩
  · by_cases e : j' = j
    · subst e; rw [upd_same, upd_same]
    · rw [upd_ne ρ _ (by omega), upd_ne pos _ e]; exact h.all j' hj'

structure Ph2 (c : Ctx) (Shun : Loc → Prop) (SR : World → World → Prop) (B : Nat) (W : World) (tv : Value) (cs : List Frame) (base g t : Nat) (pos : Nat → Bool × Nat) (dn : Nat → Bool) (gs : Array Goroutine) (w : World) (T : Trace) (q : Nat → Nat) (ρ : Roles) : Prop where
  size : gs.size = base + c.n
  a0 : ∃ a, gs[0]? = some a ∧ Head2 c tv cs g t a
  kd : KD c 3 W t (fun x => dn x = true) w
  hub : Hub Try.prog 51 (c.H + 6) B (ShunW c Shun) (ChW c) SR .kd ρ T gs w q
  laid : Laid2 c base pos ρ
  fly : Fly c.n c.J g t pos dn
  deaf : Deaf T 0 = 0

section
variable {c : Ctx} {Shun : Loc → Prop} {B : Nat} {cs : List Frame} {W : World} {base : Nat}

/-- where worker i goes when it is served -/
def Nx2 (c : Ctx) (base g : Nat) (pos : Nat → Bool × Nat) (i : Nat) (s s' : Spot) : Prop :=
  ∃ j, j < c.n ∧ i = base + j ∧ s = spotP c j (pos j) ∧ ((∃ x, pos j = (true, x) ∧ s' = spotP c j (false, x + 1)) ∨ (∃ d, pos j = (false, d) ∧ g < c.J ∧ s' = spotP c j (true, g)))

theorem newRole2 (hc : OkC c Shun) (hB : c.H + 8 + 2 * c.n ≤ B) {pos : Nat → Bool × Nat} {ρ : Roles} (hl : Laid2 c base pos ρ) {j t : Nat} (hj : j < c.n) (p : Bool × Nat) {don : Nat → Prop} {w' : World} (hK : KD c 3 W t don w') :
    NewRole 51 (c.H + 6) B (ChW c) (SR1 c) ρ (base + j) w' (some (spotP c j p, .open)) := by
  refine ⟨?_, fun s st h => ?_, fun s h => ?_, fun s h => ?_, fun s st i s' st' h hne hi hs => ?_, fun s st i s' st' h hne hi => ?_, .inl fun s st h => ?_⟩
  · rw [hl.all j hj]
    unfold spotP fam
    split <;> split <;> rfl
  · obtain ⟨rfl, rfl⟩ := Prod.mk.inj (Option.some.inj h)
    exact ⟨spotP_wf hc hB hj p, by rw [spotP_K]; exact hK.kb.kw hj⟩
  · obtain ⟨rfl, _⟩ := Prod.mk.inj (Option.some.inj h)
    rw [spotP_chan]
    split
    · exact hK.back
    · exact hK.chs j hj
  · obtain ⟨_, h2⟩ := Prod.mk.inj (Option.some.inj h)
    cases h2
  · obtain ⟨rfl, rfl⟩ := Prod.mk.inj (Option.some.inj h)
    obtain ⟨j', hj', rfl, rfl, _⟩ := hl.only i s' st' hi
    rw [spotP_chan, spotP_chan]
    rw [spotP_send, spotP_send] at hs
    have hjj : j' ≠ j := fun e => hne (by rw [e])
    cases hb : p.1 with
    | false =>
      cases hb' : (pos j').1 with
      | false => simp only [Bool.false_eq_true, if_false]; omega
      | true => simp only [if_true, Bool.false_eq_true, if_false]; omega
    | true =>
      cases hb' : (pos j').1 with
      | false => simp only [if_true, Bool.false_eq_true, if_false]; omega
      | true => rw [hb, hb'] at hs; simp at hs
  · obtain ⟨rfl, rfl⟩ := Prod.mk.inj (Option.some.inj h)
    obtain ⟨j', hj', rfl, rfl, _⟩ := hl.only i s' st' hi
    rw [spotP_Own, spotP_Own, spotP_DepB, spotP_DepB]
    constructor
    · intro a ha; exact (show False from ha).elim
    · intro a ha; exact (show False from ha).elim
  · obtain ⟨_, rfl⟩ := Prod.mk.inj (Option.some.inj h)
    rfl

/-- ████ WHOEVER IS SERVED GOES ON. ████ -/
theorem serves2 (hc : OkC c Shun) {e : Nat} (does : Does c B e) (hB : c.H + 8 + 2 * c.n ≤ B) {pos : Nat → Bool × Nat} {ρ : Roles} (hl : Laid2 c base pos ρ) {g t tl : Nat} {tz : Nat → Int} {dn : Nat → Bool} (F : Fly c.n c.J g t pos dn) {w : World} (hK : KD c 3 W t (fun x => dn x = true) w) :
    Serves Try.prog 51 (c.H + 6) B (ChW c) (SR1 c) ρ w (sndOf c tl tz g) (c.H + 4) (Nx2 c base g pos) := by
  intro i s g₂ w₁ w' hi hhome hhas hKs hSR hM
  obtain ⟨j, hj, rfl, rfl, _⟩ := hl.only i s _ hi
  have hK' : KD c 3 W t (fun x => dn x = true) w' := (hK.grow hc hSR).meets hc hM
  have hkw : FW c j true w' := ⟨hK'.kb.kw hj, fun _ => hK'.sz⟩
  cases hp : pos j with
  | mk b x =>
    cases b with
    | true =>
      rw [hp] at hhome hhas
      refine ⟨fun _ => ⟨spotP c j (false, x + 1), 20, ⟨j, hj, rfl, by rw [hp], .inl ⟨x, hp, rfl⟩⟩, newRole2 hc hB hl hj _ hK', ?_⟩, fun v z hs => ?_⟩
      · exact giveW hc hj (show HomeS c j g₂ from hhome) w' hkw
      · rw [spotP_send] at hs; simp at hs
    | false =>
      rw [hp] at hhome hhas
      refine ⟨fun hs => ?_, fun v z _ hcs => ?_⟩
      · rw [spotP_send] at hs; simp at hs
      · unfold sndOf at hcs
        split at hcs
        · simp [scaseNil, scase] at hcs
        · rename_i hne
          have hg : g < c.J := by have := F.gJ; omega
          obtain rfl : v = .int .i64 g := by simp [scase] at hcs; exact hcs.2.1.symm
          exact ⟨spotP c j (true, g), _, ⟨j, hj, rfl, by rw [hp], .inr ⟨x, hp, hg, rfl⟩⟩, newRole2 hc hB hl hj _ hK', takeW hc does hj hg hB (show HomeR c j g₂ from hhome) w' hkw⟩

theorem head2_run {tv : Value} {g t : Nat} {a : Goroutine} (h : Head2 c tv cs g t a) : a.status = .running := by
  obtain ⟨T, rfl, _⟩ := h; rfl

set_option maxHeartbeats 1600000 in
/-- from the loop's head through the select -/
theorem sel2 (hc : OkC c Shun) {e : Nat} (does : Does c B e) (hB : c.H + 8 + 2 * c.n ≤ B) (hbase : 0 < base) (hbig : base + 66 < 2147483648) {ta : Option Addr} {tl tc tb : Nat} {tz : Nat → Int} (hT : OkT c Shun W ta tl tb tz) {g t : Nat} (ht : t < c.J) {pos : Nat → Bool × Nat} {dn : Nat → Bool}
    {gs : Array Goroutine} {w : World} {T : Trace} {q : Nat → Nat} {ρ : Roles} {sl : Option (Nat × Nat)} (P : Ph2 c Shun (SR1 c) B W (.slice ta tl tc) cs base g t pos dn gs w T q ρ) :
    ∃ N gs' a' w' sl' T' q' j p, runNT Try.prog N (crowd gs w sl) T = (.next (crowd gs' w' sl'), T') ∧ gs'.size = gs.size ∧ gs'[0]? = some a' ∧ j < c.n ∧ KD c 3 W t (fun x => dn x = true) w' ∧ Deaf T' 0 = 0 ∧
      Hub Try.prog 51 (c.H + 6) B (ShunW c Shun) (ChW c) (SR1 c) .kd (upd ρ (base + j) (some (spotP c j p, .open))) T' gs' w' q' ∧
      ((∃ d, pos j = (false, d) ∧ g < c.J ∧ p = (true, g) ∧ Behind2 c (.slice ta tl tc) cs g t (.tuple #[.int .i64 0, .bool false, zbOf]) a') ∨
        (∃ x v, pos j = (true, x) ∧ p = (false, x + 1) ∧ c.Ans x v w' ∧ Behind2 c (.slice ta tl tc) cs g t (.tuple #[.int .i64 1, .bool true, .agg #[.int .i64 x, v]]) a')) := by
  obtain ⟨hsz, ⟨a, ha, hhead⟩, hK, C, hl, F, hd0⟩ := P
  have hB' : c.H + 8 + 2 * c.n ≤ B := by omega
  have hnm := hc.nmax
  have hn0 := hc.npos
  have E := env1 c hB'
  have hopen := hl.open'
  have hM := meekS (k := c.n) hc (Nat.le_refl _) hB' hl.g
  obtain ⟨N₁, gs₁, a₁, w₁, sl₁, T₁, q₁, ρ₁, hr₁, hsz₁, ha₁, ⟨hA₁, hK₁⟩, C₁, hd₁, he₁, _⟩ := C.hold_walk (sl := sl) E (by omega) (by simp) hM ha hd0 (pre2 hc hB' hT F.gJ ht hhead hK)
  obtain rfl := he₁.eq_of_open hopen
  obtain ⟨hrun, hcomm, hbeh⟩ := comm2 hA₁
  have hrn : turnOf tl tz c.n g < c.n := turnOf_lt hn0
  have S : Sel (ChW c) B ρ₁ w₁ (sndOf c tl tz g) (c.H + 4) := by
    refine ⟨?_, .inl rfl, by omega, hK₁.back, fun i s st hi => ?_⟩
    · unfold sndOf
      split
      · exact .inr ⟨_, _, rfl⟩
      · exact .inl ⟨_, _, _, rfl, .inr ⟨_, hrn, rfl⟩, by omega, by omega, hK₁.chs _ hrn⟩
    · obtain ⟨j, hj, _, rfl, _⟩ := hl.only i s st hi
      rw [spotP_send, spotP_chan]
      cases (pos j).1 with
      | false => simp only [Bool.false_eq_true, if_false, false_iff]; omega
      | true => simp
  have hrdy : ∃ i s, ρ₁ i = some (s, .open) ∧ i < gs₁.size ∧ Wants (sndOf c tl tz g) (c.H + 4) s := by
    by_cases hg : g = c.J
    · obtain ⟨j, x, hj, hp⟩ := Fly.some_busy (hg ▸ F) ht
      refine ⟨base + j, _, hl.all j hj, by omega, .inl ⟨?_, ?_⟩⟩
      · rw [spotP_send, hp]
      · rw [spotP_chan, hp]; rfl
    · refine ⟨base + turnOf tl tz c.n g, _, hl.all _ hrn, by omega, ?_⟩
      cases hb : (pos (turnOf tl tz c.n g)).1 with
      | true => exact .inl ⟨by rw [spotP_send]; exact hb, by rw [spotP_chan, hb]; rfl⟩
      | false =>
        refine .inr ⟨by rw [spotP_send]; exact hb, .int .i64 g, .int .i64 0, ?_⟩
        unfold sndOf
        rw [if_neg hg, spotP_chan, hb]; rfl
  obtain ⟨N₂, m₂, T₂, hr₂, gs₂, a₂, w₂, w₃, sl₂, q₂, i, s, s', rfl, hsz₂, ha₂, hρ, hcase, hnx, hhas, hSR, hMt, C₂, hd₂⟩ := C₁.select (sl := sl₁) E (by omega) (by simp) hopen ha₁ hrun hd₁ (fun v _ => hcomm v) (by simp) S (serves2 hc does hB' hl F hK₁) hrdy
  have hK₃ := (hK₁.grow hc hSR).meets hc hMt
  obtain ⟨j, hj, rfl, rfl, hmv⟩ := hnx
  rcases hmv with ⟨x, hp, rfl⟩ | ⟨d, hp, hg, rfl⟩
  · rcases hcase with ⟨hs, _⟩ | ⟨_, _, u, hu, rfl⟩
    · rw [spotP_send, hp] at hs; simp at hs
    · rw [hp] at hu
      obtain ⟨v, rfl, hv⟩ : ∃ v, u = .agg #[.int .i64 x, v] ∧ c.Ans x v w₂ := hu
      exact ⟨N₁ + N₂, gs₂, _, w₃, sl₂, T₂, q₂, j, _, runNT_then hr₁ hr₂, hsz₂.trans hsz₁, ha₂, hj, hK₃, hd₂, C₂, .inr ⟨x, v, hp, rfl, hc.ansK _ _ _ _ hv hMt.kept, (hbeh (.agg #[.int .i64 x, v])).2⟩⟩
  · refine ⟨N₁ + N₂, gs₂, a₂, w₃, sl₂, T₂, q₂, j, _, runNT_then hr₁ hr₂, hsz₂.trans hsz₁, ha₂, hj, hK₃, hd₂, C₂, .inl ⟨d, hp, hg, rfl, ?_⟩⟩
    rcases hcase with ⟨_, _, rfl⟩ | ⟨hs, _⟩
    · exact (hbeh undef).1
    · rw [spotP_send, hp] at hs; simp at hs

theorem spotP_wf0 (hc : OkC c Shun) (hB : c.H + 8 + 2 * c.n ≤ B) {j : Nat} (hj : j < c.n) {p : Bool × Nat} (hp : p.1 = false) : (spotP c j p).Wf 51 (c.H + 6) B (ChW c) SR0 := by
  unfold spotP
  rw [hp]
  exact wfW hc hj (.inr ⟨j, hj, rfl⟩) hB (move0 c) (fun _ _ r => r) (fun _ _ _ _ _ => trivial)

/-- all answers are taken -/
structure Ph3 (c : Ctx) (Shun : Loc → Prop) (B : Nat) (W : World) (tv : Value) (cs : List Frame) (base : Nat) (pos : Nat → Bool × Nat) (gs : Array Goroutine) (w : World) (T : Trace) (q : Nat → Nat) (ρ : Roles) : Prop where
  size : gs.size = base + c.n
  a0 : ∃ a, gs[0]? = some a ∧ Head2 c tv cs c.J c.J a
  kd : KD c 3 W c.J (fun x => x < c.J) w
  hub : Hub Try.prog 51 (c.H + 6) B (ShunW c Shun) (ChW c) SR0 .kd ρ T gs w q
  laid : Laid2 c base pos ρ
  desk : ∀ j, j < c.n → (pos j).1 = false
  deaf : Deaf T 0 = 0

set_option maxHeartbeats 1600000 in
/-- ████ THE JOBS ARE HANDED OUT, THE ANSWERS TAKEN. ████ -/
theorem loop2 (hc : OkC c Shun) {e : Nat} (does : Does c B e) (hB : c.H + 8 + 2 * c.n ≤ B) (hbase : 0 < base) (hbig : base + 66 < 2147483648) {ta : Option Addr} {tl tc tb : Nat} {tz : Nat → Int} (hT : OkT c Shun W ta tl tb tz) : ∀ (m g t : Nat), g + t + m = 2 * c.J → t < c.J → ∀ {pos : Nat → Bool × Nat} {dn : Nat → Bool}
    {gs : Array Goroutine} {w : World} {T : Trace} {q : Nat → Nat} {ρ : Roles} {sl : Option (Nat × Nat)}, Ph2 c Shun (SR1 c) B W (.slice ta tl tc) cs base g t pos dn gs w T q ρ →
    ∃ N gs' w' sl' T' q' ρ' pos', runNT Try.prog N (crowd gs w sl) T = (.next (crowd gs' w' sl'), T') ∧ Ph3 c Shun B W (.slice ta tl tc) cs base pos' gs' w' T' q' ρ' := by
  intro m
  induction m with
  | zero =>
    intro g t hm ht pos dn gs w T q ρ sl P
    have := P.fly.gJ
    omega
  | succ m ih =>
    intro g t hm ht pos dn gs w T q ρ sl P
    have hnm := hc.nmax
    have hB' : c.H + 8 + 2 * c.n ≤ B := by omega
    obtain ⟨N₁, gs₁, a₁, w₁, sl₁, T₁, q₁, j, p, hr₁, hsz₁, ha₁, hj, hK₁, hd₁, C₁, hcase⟩ := sel2 (sl := sl) hc does hB hbase hbig hT ht P
    have hsz := P.size
    have F := P.fly
    have hl' := P.laid.upd hj p
    have hM := meekS (k := c.n) hc (Nat.le_refl _) hB' hl'.g
    rcases hcase with ⟨d, hp, hg, rfl, hbeh⟩ | ⟨x, v, hp, rfl, hAn, hbeh⟩
    · -- a job was given
      obtain ⟨N₂, gs₂, a₂, w₂, sl₂, T₂, q₂, ρ₂, hr₂, hsz₂, ha₂, ⟨hA₂, hK₂⟩, C₂, hd₂, he₂, _⟩ := C₁.hold_walk (sl := sl₁) (env1 c hB') (by omega) (by simp) hM ha₁ hd₁ (sent2 (B := B) hc F.gJ hbeh hK₁)
      obtain rfl := he₂.eq_of_open hl'.open'
      obtain ⟨N₃, gs₃, w₃, sl₃, T₃, q₃, ρ₃, pos₃, hr₃, P₃⟩ := ih (g + 1) t (by omega) ht (sl := sl₂) ⟨by omega, ⟨a₂, ha₂, hA₂⟩, hK₂, C₂, hl', F.give hg hj hp, hd₂⟩
      exact ⟨N₁ + (N₂ + N₃), gs₃, w₃, sl₃, T₃, q₃, ρ₃, pos₃, runNT_then hr₁ (runNT_then hr₂ hr₃), P₃⟩
    · have hx := (F.busy j x hj hp).1
      have hxJ : x < c.J := by have := F.gJ; omega
      have F' := F.take hj hp
      have hG := got2 (B := B) (don := fun y => dn y = true) hc hB ht hxJ hbeh ⟨hK₁, hAn⟩
      have hdn : ∀ y, y < c.J → upd dn x true y = true → dn y = true ∨ y = x := fun y _ h => by
        by_cases e : y = x
        · exact .inr e
        · rw [upd_ne dn _ e] at h; exact .inl h
      by_cases htJ : t + 1 = c.J
      · -- it was the last
        rw [htJ] at F'
        obtain ⟨hgJ, hall, hdesk⟩ := F'.over
        have hopen := hl'.open'
        have C₀ := C₁.retune (SR' := SR0) (fun i s st hi => by
          obtain ⟨j', hj', _, rfl, _⟩ := hl'.only i s st hi
          exact spotP_wf0 hc hB' hj' (hdesk j' hj')) (.inl hopen)
        have hG' := goes_R (R' := SR0) (fun a b r => move0 c a b r) hG
        obtain ⟨N₂, gs₂, a₂, w₂, sl₂, T₂, q₂, ρ₂, hr₂, hsz₂, ha₂, ⟨hA₂, hK₂⟩, C₂, hd₂, he₂, _⟩ := C₀.hold_walk (sl := sl₁) (env0 c hB') (by omega) (by simp) hM ha₁ hd₁ hG'
        obtain rfl := he₂.eq_of_open hopen
        rw [htJ] at hK₂ hA₂
        rw [hgJ] at hA₂
        exact ⟨N₁ + N₂, gs₂, w₂, sl₂, T₂, q₂, _, _, runNT_then hr₁ hr₂, by omega, ⟨a₂, ha₂, hA₂⟩, hK₂.mono (fun y hy _ => hdn y hy (hall y hy)), C₂, hl', hdesk, hd₂⟩
      · obtain ⟨N₂, gs₂, a₂, w₂, sl₂, T₂, q₂, ρ₂, hr₂, hsz₂, ha₂, ⟨hA₂, hK₂⟩, C₂, hd₂, he₂, _⟩ := C₁.hold_walk (sl := sl₁) (env1 c hB') (by omega) (by simp) hM ha₁ hd₁ hG
        obtain rfl := he₂.eq_of_open hl'.open'
        obtain ⟨N₃, gs₃, w₃, sl₃, T₃, q₃, ρ₃, pos₃, hr₃, P₃⟩ := ih g (t + 1) (by omega) (by omega) (sl := sl₂) ⟨by omega, ⟨a₂, ha₂, hA₂⟩, hK₂.mono hdn, C₂, hl', F', hd₂⟩
        exact ⟨N₁ + (N₂ + N₃), gs₃, w₃, sl₃, T₃, q₃, ρ₃, pos₃, runNT_then hr₁ (runNT_then hr₂ hr₃), P₃⟩

/-- from the workers' hiring to the last answer -/
theorem jobs2 (hc : OkC c Shun) {e : Nat} (does : Does c B e) (hB : c.H + 8 + 2 * c.n ≤ B) (hbase : 0 < base) (hbig : base + 66 < 2147483648) {ta : Option Addr} {tl tc tb : Nat} {tz : Nat → Int} (hT : OkT c Shun W ta tl tb tz)
    {gs : Array Goroutine} {w : World} {T : Trace} {q : Nat → Nat} {ρ : Roles} {sl : Option (Nat × Nat)} (P : Ph1 c Shun B W (.slice ta tl tc) cs base c.n gs w T q ρ) :
    ∃ N gs' w' sl' T' q' ρ' pos', runNT Try.prog N (crowd gs w sl) T = (.next (crowd gs' w' sl'), T') ∧ Ph3 c Shun B W (.slice ta tl tc) cs base pos' gs' w' T' q' ρ' := by
  obtain ⟨hsz, ⟨a, ha, hhead⟩, hks, C, hlaid, hd0⟩ := P
  have hnm := hc.nmax
  have hB' : c.H + 8 + 2 * c.n ≤ B := by omega
  have hopen : ∀ i s st, ρ i = some (s, st) → st = .open := fun i s st hi => (hlaid.only i s st hi).choose_spec.2.2.2
  obtain ⟨N₁, gs₁, a₁, w₁, sl₁, T₁, q₁, ρ₁, hr₁, hsz₁, ha₁, ⟨hA₁, hK₁⟩, C₁, hd₁, he₁, _⟩ := C.hold_walk (sl := sl) (env0 c hB') (by omega) (by simp) (meekS (k := c.n) hc (Nat.le_refl _) hB' hlaid.g) ha hd0 (out2 hc hB' hhead hks)
  obtain rfl := he₁.eq_of_open hopen
  have hl : Laid2 c base (fun _ => (false, 0)) ρ₁ := ⟨fun i s st hi => hlaid.only i s st hi, fun j hj => hlaid.all j hj⟩
  by_cases hJ : c.J = 0
  · refine ⟨N₁, gs₁, w₁, sl₁, T₁, q₁, _, _, hr₁, by omega, ⟨a₁, ha₁, by rw [hJ]; exact hA₁⟩, by rw [hJ]; exact hK₁.mono (fun x hx _ => by omega), C₁, hl, fun _ _ => rfl, hd₁⟩
  · have C₂ := C₁.retune (SR' := SR1 c) (fun i s st hi => by
      obtain ⟨j, hj, _, rfl, _⟩ := hl.only i s st hi
      exact spotP_wf hc hB' hj _) (.inl hopen)
    obtain ⟨N₂, gs₂, w₂, sl₂, T₂, q₂, ρ₂, pos₂, hr₂, P₂⟩ := loop2 (sl := sl₁) hc does hB hbase hbig hT (2 * c.J) 0 0 (by omega) (by omega) ⟨by omega, ⟨a₁, ha₁, hA₁⟩, hK₁.mono (fun x hx h => by simp at h), C₂, hl, Fly.start c.n c.J, hd₁⟩
    exact ⟨N₁ + N₂, gs₂, w₂, sl₂, T₂, q₂, ρ₂, pos₂, runNT_then hr₁ hr₂, P₂⟩
end
end Go.Proofs.Ytngnkdedfcnfkaa.R8
