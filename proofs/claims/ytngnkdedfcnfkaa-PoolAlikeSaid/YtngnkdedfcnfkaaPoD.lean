/-
  A starter and its workers: the starter's select: a send to one worker's desk (or to nobody), or a receive of the common channel.
-/
import Derived.Test.YtngnkdedfcnfkaaPoC
import Derived.Test.YtngnkdedfcnfkaaPoQ
import Derived.Conc.LoneSelect
namespace Go.Proofs.Ytngnkdedfcnfkaa
open Go Go.Conc
open Go.ConcN (sumTo upd sumTo_upd upd_ne upd_same ShN RelBy CTag WD WgLive)
open Go.ConcR (stA smA WgAt)

/-- what the select's meeting does to the world -/
def Meets (Ch : Nat → Prop) (w w' : World) : Prop := ∃ d c k, Ch c ∧ w.heap[c]? = some (.chan 0 #[] false k k false) ∧ w' = (w.at d).setChan c 0 #[] false (k + 1) (k + 1) false
theorem Meets.off {Ch : Nat → Prop} {w w' : World} (h : Meets Ch w w') : ∀ b, ¬ Ch b → w'.heap[b]? = w.heap[b]? := by
  obtain ⟨d, c, k, hc, _, rfl⟩ := h
  intro b hb
  have : c ≠ b := fun e => hb (e ▸ hc)
  show (w.heap.setIfInBounds c _)[b]? = _
  rw [Array.getElem?_setIfInBounds_ne this]
theorem Meets.kept {Ch : Nat → Prop} {w w' : World} (h : Meets Ch w w') : Kept w w' := by
  obtain ⟨d, c, k, _, hc, rfl⟩ := h
  refine kept_off (S := (· = c)) (fun b hb => ?_) (fun b hb arr e => by subst hb; rw [hc] at e; cases e) (Nat.le_of_eq ?_)
  · show (w.heap.setIfInBounds c _)[b]? = _
    rw [Array.getElem?_setIfInBounds_ne (fun e => hb e.symm)]
  · show _ = (w.heap.setIfInBounds c _).size
    simp
theorem Meets.size {Ch : Nat → Prop} {w w' : World} (h : Meets Ch w w') : w'.heap.size = w.heap.size := by
  obtain ⟨d, c, k, _, hc, rfl⟩ := h
  show (w.heap.setIfInBounds c _).size = _
  simp
theorem Meets.chan {Ch : Nat → Prop} {w w' : World} (h : Meets Ch w w') {c : Nat} {cl : Bool} {k : Nat} (hc : w.heap[c]? = some (.chan 0 #[] cl k k false)) : ∃ k', w'.heap[c]? = some (.chan 0 #[] cl k' k' false) := by
  obtain ⟨d, c', k', _, hc', rfl⟩ := h
  by_cases e : c' = c
  · subst e
    rw [hc] at hc'
    obtain ⟨_, _, rfl, rfl, _⟩ := Obj.chan.inj (Option.some.inj hc')
    refine ⟨k + 1, ?_⟩
    show (w.heap.setIfInBounds c' _)[c']? = _
    rw [Array.getElem?_setIfInBounds_self_of_lt (Array.getElem?_eq_some_iff.1 hc).1]
  · exact ⟨k, by show (w.heap.setIfInBounds c' _)[c]? = _; rw [Array.getElem?_setIfInBounds_ne e]; exact hc⟩

section
variable {P : Program} {ty : TypeId} {Wg B : Nat} {Shun : Loc → Prop} {Ch : Nat → Prop} {SR : World → World → Prop} {tag : CTag} {ρ : Roles} {T : Trace} {gs : Array Goroutine} {w : World} {q : Nat → Nat}

/-- a meeting: the worker's record is served and is on its way to its next seat -/
theorem Hub.meet (E : Env ty Wg B Ch SR) (C : Hub P ty Wg B Shun Ch SR tag ρ T gs w q) {i : Nat} {s s' : Spot} {g' : Goroutine} {ops : Array MemOp} {gs' : Array Goroutine} {w' : World} {nc : Nat} (hpos : 0 < i) (hil : i < gs.size) (hρ : ρ i = some (s, .open))
    (hsz : gs'.size = gs.size) (hother : ∀ x, 0 < x → x ≠ i → gs'[x]? = gs[x]?) (hself : gs'[i]? = some g') (hops : ∀ op ∈ ops, op.g = i ∨ op.g = 0) (hpast : PT Wg Shun (MemOf ρ) (RdOf ρ) (OwOf ρ) w.heap.size (T ++ ops)) (hD : Deaf (T ++ ops) i = 0)
    (hW : Meets Ch w w') (hnew : NewRole ty Wg B Ch SR ρ i w' (some (s', .open))) (hG : GoesTo P B s' nc g' w') : Hub P ty Wg B Shun Ch SR tag (upd ρ i (some (s', .open))) (T ++ ops) gs' w' (upd q i (nc + 1)) := by
  refine C.put hpos hil hsz hother hself hops ⟨.inl ⟨nc, rfl, hG⟩, hD⟩ hnew (fun j s st _ h => ?_) (by rw [hW.size]; exact hpast) (C.mode_same (by rw [hρ]; rfl) (hW.off Wg E.chWg) tag (.inl rfl))
  have W := C.wf j s st h
  refine ⟨W.stabK _ _ (C.keep j s st h) (fun a ha => same_block (hW.off _ (W.depCh a ha).1)) (fun b hb => hW.off b (W.depBCh b hb).1), ⟨fun a ha => same_block (hW.off _ (W.ownCh a ha).1), hW.kept⟩, hW.off _ (W.depBCh _ W.seeC).1, fun cl k hk => hW.chan hk⟩

theorem parked_inj {g g' : Goroutine} {cs cs' : Array CommCase} {sh sh' : CommShape} (h : parked g cs sh = parked g' cs' sh') : cs = cs' ∧ sh = sh' ∧ ∀ P c s k v ok, g.finishComm P c s k v ok = g'.finishComm P c s k v ok := by
  have h1 := congrArg Goroutine.offers h
  simp only [parked, Option.some.injEq, Prod.mk.injEq] at h1
  exact ⟨h1.1, h1.2, fun P c s k v ok => by rw [← finishComm_parked P g c cs s sh, h, finishComm_parked]⟩

/-- who is parked offers what its spot says -/
theorem Hub.partner (C : Hub P ty Wg B Shun Ch SR tag ρ T gs w q) {c : Nat} {b : Bool} {p : Nat × Nat} (hp : p ∈ partners (gs.setIfInBounds 0 ph) c b) :
    p.2 = 0 ∧ p.1 ≠ 0 ∧ ∃ s g₂ u, ρ p.1 = some (s, .open) ∧ s.isSend = b ∧ s.chan = c ∧ s.Val u w ∧ gs[p.1]? = some (parked g₂ (s.seat u).cases (s.seat u).shape) := by
  obtain ⟨j, k⟩ := p
  obtain ⟨g, hg, hk⟩ := mem_partners.1 hp
  rcases getElem?_stand gs 0 j g hg with ⟨_, rfl⟩ | ⟨hj, hg'⟩
  · rw [offersAt_ph] at hk; cases hk
  · rcases (C.role j g (by omega) hg').cases (fun s st => C.keep j s st) with ⟨z, _⟩ | z | ⟨s, g₂, u, hρ, _, hu, rfl⟩
    · rw [offersAt_of_not_blocked (by rw [z]; simp)] at hk; cases hk
    · rw [offersAt_of_not_blocked (by rw [z]; simp)] at hk; cases hk
    · have key : k ∈ (if s.isSend = b ∧ s.chan = c then [0] else ([] : List Nat)) := by
        cases b with
        | true => rw [offers_send] at hk; exact hk
        | false => rw [offers_recv] at hk; exact hk
      split at key
      · rename_i hb
        exact ⟨by simpa using key, hj, s, g₂, u, hρ, hb.1, hb.2, hu, hg'⟩
      · cases key

/-- where the select is -/
structure Sel (Ch : Nat → Prop) (B : Nat) (ρ : Roles) (w : World) (c₀ : CommCase) (back : Nat) : Prop where
  first : (∃ c v z, c₀ = scase c v z ∧ Ch c ∧ c ≠ back ∧ c < B ∧ ∃ k, w.heap[c]? = some (.chan 0 #[] false k k false)) ∨ ∃ v z, c₀ = scaseNil v z
  ch : Ch back
  low : back < B
  chan : ∃ k, w.heap[back]? = some (.chan 0 #[] false k k false)
  sends : ∀ i s st, ρ i = some (s, st) → (s.isSend = true ↔ s.chan = back)

/-- spot s wants what the select offers -/
def Wants (c₀ : CommCase) (back : Nat) (s : Spot) : Prop := (s.isSend = true ∧ s.chan = back) ∨ (s.isSend = false ∧ ∃ v z, c₀ = scase s.chan v z)

theorem sel_offers {c₀ : CommCase} {back : Nat} {zb : Value} (h : (∃ c v z, c₀ = scase c v z) ∨ ∃ v z, c₀ = scaseNil v z) (g : Goroutine) (s : Spot) :
    (s.isSend = true → offersAt (parked g #[c₀, rcase back zb] .select) s.chan (!s.isSend) = if s.chan = back then [1] else []) ∧
      (s.isSend = false → (offersAt (parked g #[c₀, rcase back zb] .select) s.chan (!s.isSend) = [] ∧ ¬ ∃ v z, c₀ = scase s.chan v z) ∨ (offersAt (parked g #[c₀, rcase back zb] .select) s.chan (!s.isSend) = [0] ∧ ∃ v z, c₀ = scase s.chan v z)) := by
  constructor
  · intro hs
    rw [hs]
    rcases h with ⟨c, v, z, rfl⟩ | ⟨v, z, rfl⟩
    · by_cases e : s.chan = back
      · simp [offersAt, parked, scase, rcase, e]
      · have e' : ¬ back = s.chan := fun x => e x.symm
        simp [offersAt, parked, scase, rcase, e, e']
    · by_cases e : s.chan = back
      · simp [offersAt, parked, scaseNil, rcase, e]
      · have e' : ¬ back = s.chan := fun x => e x.symm
        simp [offersAt, parked, scaseNil, rcase, e, e']
  · intro hs
    rw [hs]
    rcases h with ⟨c, v, z, rfl⟩ | ⟨v, z, rfl⟩
    · by_cases e : c = s.chan
      · subst e
        exact .inr ⟨by simp [offersAt, parked, scase, rcase], v, z, rfl⟩
      · exact .inl ⟨by simp [offersAt, parked, scase, rcase, e], by rintro ⟨v', z', h⟩; simp [scase] at h; exact e h.1⟩
    · exact .inl ⟨by simp [offersAt, parked, scaseNil, rcase], by rintro ⟨v', z', h⟩; simp [scase, scaseNil] at h⟩

theorem sel_again {c₀ : CommCase} {back : Nat} {zb : Value} {g : Goroutine} {w : World} (h : (∃ c v z, c₀ = scase c v z ∧ ∃ k, w.heap[c]? = some (.chan 0 #[] false k k false)) ∨ ∃ v z, c₀ = scaseNil v z) (hb : ∃ k, w.heap[back]? = some (.chan 0 #[] false k k false)) :
    (parked g #[c₀, rcase back zb] .select).again w = parked g #[c₀, rcase back zb] .select := by
  obtain ⟨k, hk⟩ := hb
  rcases h with ⟨c, v, z, rfl, k', hk'⟩ | ⟨v, z, rfl⟩
  · simp [Goroutine.again, parked, scase, rcase, hk, hk']
  · simp [Goroutine.again, parked, scaseNil, rcase, hk]

section
variable (P : Program) (ty : TypeId) (Wg B : Nat) (Shun : Loc → Prop) (Ch : Nat → Prop) (SR : World → World → Prop)
/-- how the select ends -/
def Selected (tag : CTag) (ρ : Roles) (w : World) (N₀ : Nat) (c₀ : CommCase) (back : Nat) (zb : Value) (a₂ : Goroutine) (Nx : Nat → Spot → Spot → Prop) (m : Machine) (t : Trace) : Prop :=
  ∃ (gs' : Array Goroutine) (a' : Goroutine) (w₁ w' : World) (sl' : Option (Nat × Nat)) (q' : Nat → Nat) (i : Nat) (s s' : Spot), m = crowd gs' w' sl' ∧ gs'.size = N₀ ∧ gs'[0]? = some a' ∧ ρ i = some (s, .open) ∧
    ((s.isSend = false ∧ (∃ v z, c₀ = scase s.chan v z) ∧ a' = a₂.finishComm P #[c₀, rcase back zb] .select 0 undef false) ∨ (s.isSend = true ∧ s.chan = back ∧ ∃ u, s.Val u w₁ ∧ a' = a₂.finishComm P #[c₀, rcase back zb] .select 1 u true)) ∧
    Nx i s s' ∧ s.Has w₁ ∧ SR w w₁ ∧ Meets Ch w₁ w' ∧ Hub P ty Wg B Shun Ch SR tag (upd ρ i (some (s', .open))) t gs' w' q' ∧ Deaf t 0 = 0
end

/-- what is asked of a worker that is served -/
def Serves (P : Program) (ty : TypeId) (Wg B : Nat) (Ch : Nat → Prop) (SR : World → World → Prop) (ρ : Roles) (w : World) (c₀ : CommCase) (back : Nat) (Nx : Nat → Spot → Spot → Prop) : Prop :=
  ∀ i s g₂ w₁ w', ρ i = some (s, .open) → s.home g₂ → s.Has w₁ → s.K w₁ → SR w w₁ → Meets Ch w₁ w' →
    ((s.isSend = true ∧ s.chan = back) → ∃ s' nc, Nx i s s' ∧ NewRole ty Wg B Ch SR ρ i w' (some (s', .open)) ∧ GoesTo P B s' nc (Go.Conc.served g₂ undef) w') ∧
    (∀ v z, s.isSend = false → c₀ = scase s.chan v z → ∃ s' nc, Nx i s s' ∧ NewRole ty Wg B Ch SR ρ i w' (some (s', .open)) ∧ GoesTo P B s' nc (Go.Conc.served g₂ (recvd true v true)) w')

theorem nomark_ev {es : Array Event} {i : Nat} {fn : FuncId} {pos : String} {ops : Array MemOp} (hops : ∀ op ∈ ops, op.act.touch? = none ∧ ∀ m, op.act ≠ .mark m) (T : Trace) (g : Nat) : Deaf (T ++ (MemOp.ofEvents i fn pos es ++ ops)) g = Deaf (T ++ MemOp.ofEvents i fn pos es) g := by
  rw [← Array.append_assoc]
  exact Deaf_quiet (fun op hop d => by
    obtain ⟨_, hm⟩ := hops op hop
    unfold deafStep
    split
    · rename_i h; exact absurd h (hm _)
    · rename_i h; exact absurd h (hm _)
    · rfl)

/-- the starter stands at its select, a worker is parked there: they meet; or the starter is parked, and a worker comes: they meet -/
theorem Hub.selected (E : Env ty Wg B Ch SR) (C : Hub P ty Wg B Shun Ch SR tag ρ T gs w q) {w₀ w' : World} {sl' : Option (Nat × Nat)} {c₀ : CommCase} {back : Nat} {zb : Value} {a₂ a' : Goroutine} {Nx : Nat → Spot → Spot → Prop} {gs' : Array Goroutine} {ops : Array MemOp}
    {i : Nat} {s : Spot} {g₂ g' : Goroutine} (hpos : 0 < i) (hil : i < gs.size) (hρ : ρ i = some (s, .open)) (hsz : gs'.size = gs.size) (hother : ∀ x, 0 < x → x ≠ i → gs'[x]? = gs[x]?) (hself : gs'[i]? = some g') (h0 : gs'[0]? = some a')
    (hops : ∀ op ∈ ops, op.g = i ∨ op.g = 0) (hpast : PT Wg Shun (MemOf ρ) (RdOf ρ) (OwOf ρ) w.heap.size (T ++ ops)) (hD : Deaf (T ++ ops) i = 0) (hD0 : Deaf (T ++ ops) 0 = 0) (hSR : SR w₀ w) (hW : Meets Ch w w') (hhome : s.home g₂) (hhas : s.Has w) (hnext : Serves P ty Wg B Ch SR ρ w₀ c₀ back Nx)
    (hcase : (s.isSend = false ∧ (∃ v z, c₀ = scase s.chan v z ∧ g' = Go.Conc.served g₂ (recvd true v true)) ∧ a' = a₂.finishComm P #[c₀, rcase back zb] .select 0 undef false) ∨
      (s.isSend = true ∧ s.chan = back ∧ g' = Go.Conc.served g₂ undef ∧ ∃ u, s.Val u w ∧ a' = a₂.finishComm P #[c₀, rcase back zb] .select 1 u true)) :
    Selected P ty Wg B Shun Ch SR tag ρ w₀ gs.size c₀ back zb a₂ Nx (crowd gs' w' sl') (T ++ ops) := by
  obtain ⟨hn1, hn2⟩ := hnext i s g₂ w w' hρ hhome hhas (C.keep i s _ hρ) hSR hW
  rcases hcase with ⟨hs, ⟨v, z, hc, rfl⟩, ha'⟩ | ⟨hs, hc, rfl, ha'⟩
  · obtain ⟨s', nc, hnx, hnew, hG⟩ := hn2 v z hs hc
    exact ⟨gs', a', w, w', sl', upd q i (nc + 1), i, s, s', rfl, hsz, h0, hρ, .inl ⟨hs, ⟨v, z, hc⟩, ha'⟩, hnx, hhas, hSR, hW, C.meet E hpos hil hρ hsz hother hself hops hpast hD hW hnew hG, hD0⟩
  · obtain ⟨s', nc, hnx, hnew, hG⟩ := hn1 ⟨hs, hc⟩
    exact ⟨gs', a', w, w', sl', upd q i (nc + 1), i, s, s', rfl, hsz, h0, hρ, .inr ⟨hs, hc, ha'⟩, hnx, hhas, hSR, hW, C.meet E hpos hil hρ hsz hother hself hops hpast hD hW hnew hG, hD0⟩

/-- the others run till one of them meets the parked starter -/
theorem Hub.sel_parked (E : Env ty Wg B Ch SR) (hN : gs.size + 1 < 2147483648) (ht : tag ≠ .blk) (hopen : ∀ i s st, ρ i = some (s, st) → st = .open) {w₀ : World} {sl : Option (Nat × Nat)} {c₀ : CommCase} {back : Nat} {zb : Value} {a₂ : Goroutine} {Nx : Nat → Spot → Spot → Prop}
    (ha : gs[0]? = some (parked a₂ #[c₀, rcase back zb] .select)) (C : Hub P ty Wg B Shun Ch SR tag ρ T gs w q) (hd0 : Deaf T 0 = 0) (hSR : SR w₀ w) (S : Sel Ch B ρ w c₀ back) (hnext : Serves P ty Wg B Ch SR ρ w₀ c₀ back Nx)
    (hrdy : ∃ i s, ρ i = some (s, .open) ∧ i < gs.size ∧ Wants c₀ back s) (hno : ∀ i s, ρ i = some (s, .open) → q i = 0 → offersAt (parked a₂ #[c₀, rcase back zb] .select) s.chan (!s.isSend) = []) :
    ∃ N m' T', runNT P N (crowd gs w sl) T = (.next m', T') ∧ Selected P ty Wg B Shun Ch SR tag ρ w₀ gs.size c₀ back zb a₂ Nx m' T' := by
  have hfirst : (∃ c v z, c₀ = scase c v z) ∨ ∃ v z, c₀ = scaseNil v z := S.first.imp (fun ⟨c, v, z, h, _⟩ => ⟨c, v, z, h⟩) id
  refine runs_lex (P := P)
    (Inv := fun μ m t => Selected P ty Wg B Shun Ch SR tag ρ w₀ gs.size c₀ back zb a₂ Nx m t ∨ ∃ gs₁ sl₁ q₁ w₁, m = crowd gs₁ w₁ sl₁ ∧ gs₁.size = gs.size ∧ gs₁[0]? = some (parked a₂ #[c₀, rcase back zb] .select) ∧ Hub P ty Wg B Shun Ch SR tag ρ t gs₁ w₁ q₁ ∧ Deaf t 0 = 0 ∧ SR w₀ w₁ ∧
      (∀ c, Ch c → w₁.heap[c]? = w.heap[c]?) ∧ (∀ i s, ρ i = some (s, .open) → q₁ i = 0 → offersAt (parked a₂ #[c₀, rcase back zb] .select) s.chan (!s.isSend) = []) ∧ μ = meas gs.size ρ q₁)
    (fun μ m t hInv => ?_) _ _ T (.inr ⟨gs, sl, q, w, rfl, rfl, ha, C, hd0, hSR, fun _ _ => rfl, hno, rfl⟩)
  rcases hInv with h | ⟨gs₁, sl₁, q₁, w₁, rfl, hsz, ha₁, C₁, hd₁, hs₁, hc₁, hno₁, hμ⟩
  · exact .inl h
  refine .inr ?_
  have hsome : ∃ (i : Nat) (g : Goroutine), gs₁[i]? = some g ∧ g.status = .running := by
    obtain ⟨i, s, hρ, hil, hw⟩ := hrdy
    have hi : gs₁[i]? = some (gs₁[i]'(by omega)) := Array.getElem?_eq_getElem (by omega)
    have hpos : 0 < i := by
      rcases Nat.eq_zero_or_pos i with rfl | h
      · rw [C₁.zero] at hρ; cases hρ
      · exact h
    have hR := C₁.role i _ hpos hi
    refine ⟨i, _, hi, ?_⟩
    rcases hR.cases (fun s st => C₁.keep i s st) with ⟨z, _⟩ | z | ⟨s', g₂, u', h1, h2, hu', h3⟩
    · exact z
    · rw [hρ] at hR
      rcases hR.1 with ⟨k, _, hG⟩ | ⟨_, _, _, _, _, g₂, h, _⟩
      · exact hG.running (C₁.keep i s _ hρ)
      · rw [h] at z; cases z
    · rw [hρ] at h1
      obtain ⟨rfl, _⟩ := Prod.mk.inj (Option.some.inj h1)
      have := hno₁ i s hρ h2
      rcases hw with ⟨hs, hc⟩ | ⟨hs, v, z, hc⟩
      · rw [(sel_offers hfirst a₂ s).1 hs, if_pos hc] at this; cases this
      · rcases (sel_offers (back := back) (zb := zb) hfirst a₂ s).2 hs with ⟨_, hn⟩ | ⟨ho, _⟩
        · exact absurd ⟨v, z, hc⟩ hn
        · rw [ho] at this; cases this
  obtain ⟨i, g, d, sl', hi, hg, hst⟩ := crowd_pick (P := P) (w := w₁) (sl := sl₁) (C₁.awake ha₁ (.inr rfl)) hsome
  have Cd := Hub.at C₁ d
  have hpos : 0 < i := by
    rcases Nat.eq_zero_or_pos i with rfl | h
    · rw [ha₁] at hi; obtain rfl := Option.some.inj hi; cases hg
    · exact h
  have hil : i < gs₁.size := (Array.getElem?_eq_some_iff.1 hi).1
  have hi0 : (i == 0) = false := by simp; omega
  have hback : ∃ k, (w₁.at d).heap[back]? = some (.chan 0 #[] false k k false) := by
    obtain ⟨k, hk⟩ := S.chan
    exact ⟨k, (hc₁ _ S.ch).trans hk⟩
  have hfc : (∃ c v z, c₀ = scase c v z ∧ Ch c ∧ c ≠ back ∧ c < B ∧ ∃ k, (w₁.at d).heap[c]? = some (.chan 0 #[] false k k false)) ∨ ∃ v z, c₀ = scaseNil v z := S.first.imp (fun ⟨c, v, z, h, h1, h2, h3, k, hk⟩ => ⟨c, v, z, h, h1, h2, h3, k, (hc₁ _ h1).trans hk⟩) id
  have hSRd : SR w₀ (w₁.at d) := E.trans _ _ _ hs₁ (E.draw w₁ d)
  by_cases hseat : ∃ s, ρ i = some (s, .open) ∧ AtSeat P B s g (w₁.at d) ∧ offersAt (parked a₂ #[c₀, rcase back zb] .select) s.chan (!s.isSend) ≠ []
  · -- THEY MEET
    obtain ⟨s, hρ, ⟨hhas, u, hu, g₂, hat⟩, hoff⟩ := hseat
    obtain ⟨_, _, _, _, hhome, es, hes, hstp⟩ := id hat
    have hes' : ∀ x ∈ es, EvP s B x := fun x hx => by obtain ⟨a, rfl, ⟨a', ha', hd⟩, hb⟩ := hes x hx; obtain rfl := Loc.cell.inj ha'; exact ⟨a, false, rfl, hb, .inl ⟨rfl, hd⟩⟩
    obtain ⟨hops, hr, hl, hn, hdf⟩ := evP_work (Wg := Wg) hρ (fn := g.frame.fn) (pos := g.frame.place) (Cd.low hρ) hes'
    have hDi : Deaf t i = 0 := by
      have := Cd.role i g hpos hi
      rw [hρ] at this
      exact this.2
    have p1 := Cd.past.appWork (by unfold MemOf; rw [hρ]; rfl) Cd.lies hops hr hl hn
    have hothers : ∀ (x : Nat) (y : Goroutine), x ≠ 0 → (gs₁.setIfInBounds i ph)[x]? = some y → offersAt y s.chan (!s.isSend) = [] := by
      intro x y hx0 hy
      rcases getElem?_stand gs₁ i x y hy with ⟨_, rfl⟩ | ⟨hx, hy'⟩
      · exact offersAt_ph _ _
      · refine (Cd.role x y (by omega) hy').offers (fun s st => Cd.keep x s st) _ _ (fun s' hs' ⟨h1, h2⟩ => ?_)
        cases hb : s.isSend with
        | false => exact Cd.inj i x s s' _ _ hρ hs' (fun z => hx z.symm) hb h2
        | true =>
          rw [hb] at h1
          exact Cd.inj x i s' s _ _ hs' hρ hx h1 h2.symm
    have hparts : partners (gs₁.setIfInBounds i ph) s.chan (!s.isSend) = (offersAt (parked a₂ #[c₀, rcase back zb] .select) s.chan (!s.isSend)).map fun k => (0, k) :=
      partners_one (stand_get (by omega) ha₁) (fun k x hk hx => hothers k x hk hx)
    obtain ⟨k, hk⟩ := Cd.chans i s hρ
    have hW : Meets Ch (w₁.at d) ((w₁.at d).setChan s.chan 0 #[] false (k + 1) (k + 1) false) := ⟨(w₁.at d).drawn, s.chan, k, (Cd.wf i s _ hρ).chan, hk, rfl⟩
    have harr : ∀ (x y : Goroutine) (j : Nat), 0 < j → j ≠ i → ((gs₁.setIfInBounds 0 x).setIfInBounds i y)[j]? = gs₁[j]? := fun x y j h1 h2 => by
      rw [Array.getElem?_setIfInBounds_ne (fun e => h2 e.symm), Array.getElem?_setIfInBounds_ne (by omega)]
    have harr0 : ∀ (x y : Goroutine), ((gs₁.setIfInBounds 0 x).setIfInBounds i y)[0]? = some x := fun x y => by
      rw [Array.getElem?_setIfInBounds_ne (by omega), Array.getElem?_setIfInBounds_self_of_lt (by omega)]
    have harri : ∀ (x y : Goroutine), ((gs₁.setIfInBounds 0 x).setIfInBounds i y)[i]? = some y := fun x y => Array.getElem?_setIfInBounds_self_of_lt (by simpa using hil)
    have fin : ∀ {gs' : Array Goroutine} {ops : Array MemOp} {g' a' : Goroutine}, (∀ op ∈ ops, (op.g = i ∨ op.g = 0) ∧ op.act.touch? = none ∧ (∀ B, s.chan < B → op.act.low B) ∧ ∀ m, op.act ≠ .mark m) →
        runT P (crowd gs₁ (w₁.at d) sl') i = (.next (crowd gs' ((w₁.at d).setChan s.chan 0 #[] false (k + 1) (k + 1) false) sl'), MemOp.ofEvents i g.frame.fn g.frame.place es ++ ops) →
        gs'.size = gs₁.size → (∀ x, 0 < x → x ≠ i → gs'[x]? = gs₁[x]?) → gs'[i]? = some g' → gs'[0]? = some a' →
        ((s.isSend = false ∧ (∃ v z, c₀ = scase s.chan v z ∧ g' = Go.Conc.served g₂ (recvd true v true)) ∧ a' = a₂.finishComm P #[c₀, rcase back zb] .select 0 undef false) ∨
          (s.isSend = true ∧ s.chan = back ∧ g' = Go.Conc.served g₂ undef ∧ ∃ u, s.Val u (w₁.at d) ∧ a' = a₂.finishComm P #[c₀, rcase back zb] .select 1 u true)) →
        ∃ m' ops μ', stepT P (crowd gs₁ w₁ sl₁) = (.next m', ops) ∧ Lt2 μ' μ ∧ (Selected P ty Wg B Shun Ch SR tag ρ w₀ gs.size c₀ back zb a₂ Nx m' (t ++ ops) ∨ ∃ gs₁ sl₁ q₁ w₁, m' = crowd gs₁ w₁ sl₁ ∧ gs₁.size = gs.size ∧ gs₁[0]? = some (parked a₂ #[c₀, rcase back zb] .select) ∧ Hub P ty Wg B Shun Ch SR tag ρ (t ++ ops) gs₁ w₁ q₁ ∧ Deaf (t ++ ops) 0 = 0 ∧ SR w₀ w₁ ∧
          (∀ c, Ch c → w₁.heap[c]? = w.heap[c]?) ∧ (∀ i s, ρ i = some (s, .open) → q₁ i = 0 → offersAt (parked a₂ #[c₀, rcase back zb] .select) s.chan (!s.isSend) = []) ∧ μ' = meas gs.size ρ q₁) := by
      intro gs' ops g' a' hx hrt hsz' hoth hself h0' hcase
      have p2 := p1.appMute (fun op h => (hx op h).2.1) (fun op h => (hx op h).2.2.1 _ (Array.getElem?_eq_some_iff.1 hk).1) (fun op h => (hx op h).2.2.2 _)
      rw [Array.append_assoc] at p2
      have hdeaf : ∀ x, Deaf (t ++ (MemOp.ofEvents i g.frame.fn g.frame.place es ++ ops)) x = Deaf (t ++ MemOp.ofEvents i g.frame.fn g.frame.place es) x := fun x => nomark_ev (fun op h => ⟨(hx op h).2.1, (hx op h).2.2.2⟩) t x
      have := Cd.selected (w' := (w₁.at d).setChan s.chan 0 #[] false (k + 1) (k + 1) false) (sl' := sl') E hpos hil hρ hsz' hoth hself h0' (fun op h => (Array.mem_append.1 h).elim (fun h => .inl (hops op h)) (fun h => (hx op h).1)) p2 (by rw [hdeaf, hdf t, hDi]) (by rw [hdeaf, Deaf_other t (by omega) _ hops]; exact hd₁) hSRd hW hhome hhas hnext hcase
      rw [hsz] at this
      refine ⟨_, _, ((meas gs.size ρ (upd q₁ i 0)).1, 0), by rw [hst]; exact hrt, ?_, .inl this⟩
      rw [hμ]
      have hqi : 0 < q₁ i := by
        have hR := Cd.role i g hpos hi
        rw [hρ] at hR
        rcases hR.1 with ⟨kk, h, _⟩ | ⟨h, _, _, _, _, g₃, h3, _⟩
        · omega
        · rw [h3] at hg; cases hg
      refine Prod.Lex.right _ ?_
      have := Go.ConcN.le_sumTo (f := q₁) (i := i) (j := gs.size) (by omega)
      omega
    cases hb : s.isSend with
    | true =>
      have ho := (sel_offers (back := back) (zb := zb) hfirst a₂ s).1 hb
      have hcb : s.chan = back := by
        by_cases e : s.chan = back
        · exact e
        · rw [if_neg e] at ho; exact absurd ho hoff
      rw [if_pos hcb] at ho
      rw [ho] at hparts
      rw [hb] at hparts
      have hcs : (s.seat u).cases = #[scase s.chan u s.z] ∧ (s.seat u).shape = .send := by unfold Spot.seat Spot.case Spot.shape; rw [hb]; exact ⟨rfl, rfl⟩
      have hstp' := hstp (w₁.at d) (Cd.keep i s _ hρ)
      rw [hcs.1, hcs.2] at hstp'
      obtain ⟨ops, hx, hrt⟩ := send_meets_sel (sl := sl') (n := 1) (zj := zb) hi (by rw [hi0]; exact hstp') hk (show 0 ≠ i by omega) ha₁ (by rw [hcb]; rfl) hparts
      exact fin (fun op h => ⟨(hx op h).1, (hx op h).2⟩) hrt (by simp) (harr _ _) (harri _ _) (harr0 _ _) (.inr ⟨hb, hcb, rfl, u, hu, rfl⟩)
    | false =>
      rcases (sel_offers (back := back) (zb := zb) hfirst a₂ s).2 hb with ⟨hn, _⟩ | ⟨ho, v, z, hc⟩
      · exact absurd hn hoff
      rw [ho] at hparts
      rw [hb] at hparts
      have hcs : (s.seat u).cases = #[rcase s.chan s.z] ∧ (s.seat u).shape = .recv true := by unfold Spot.seat Spot.case Spot.shape; rw [hb]; exact ⟨rfl, rfl⟩
      have hstp' := hstp (w₁.at d) (Cd.keep i s _ hρ)
      rw [hcs.1, hcs.2] at hstp'
      obtain ⟨ops, hx, hrt⟩ := recv_meets_sel (sl := sl') (n := 0) (v := v) (zj := z) hi (by rw [hi0]; exact hstp') hk (show 0 ≠ i by omega) ha₁ (by rw [hc]; rfl) hparts
      exact fin (fun op h => ⟨(hx op h).1, (hx op h).2⟩) hrt (by simp) (harr _ _) (harri _ _) (harr0 _ _) (.inl ⟨hb, ⟨v, z, hc, rfl⟩, rfl⟩)
  · -- NOBODY MEETS
    have hA : Rests Ch tag (w₁.at d) (parked a₂ #[c₀, rcase back zb] .select) := .inl ⟨ht, fun w' hw' => sel_again (hfc.imp (fun ⟨c, v, z, h, h1, _, _, k, hk⟩ => ⟨c, v, z, h, k, (hw' _ h1).trans hk⟩) id) (let ⟨k, hk⟩ := hback; ⟨k, (hw' _ S.ch).trans hk⟩)⟩
    obtain ⟨gs', ops, ρ', q', w', tag', a', hrt, hsz', h0', hcase, hSR', hch, C', hdf, hev, hlt, hq1, hq2⟩ := Cd.by_step (sl := sl') E (by rw [hsz]; exact hN) ha₁ hA hpos hi hg (fun s st hs hat => by
      obtain rfl := hopen i s st hs
      by_cases hn : offersAt (parked a₂ #[c₀, rcase back zb] .select) s.chan (!s.isSend) = []
      · exact hn
      · exact absurd ⟨s, hs, hat, hn⟩ hseat)
    obtain rfl := hev.eq_of_open hopen
    rw [hsz] at hlt
    rcases hcase with ⟨rfl, rfl⟩ | ⟨h, _⟩
    · refine ⟨_, _, meas gs.size ρ' q', by rw [hst]; exact hrt, by rw [hμ]; exact hlt, .inr ⟨gs', sl', q', w', rfl, hsz'.trans hsz, h0', C', hdf.trans hd₁, E.trans _ _ _ hSRd hSR', fun c hc => (hch c hc).trans (hc₁ c hc), fun j s hj hqj => ?_, rfl⟩⟩
      by_cases e : j = i
      · subst e; exact hq2 hqj s hj
      · exact hno₁ j s hj (by rw [← hq1 j e]; exact hqj)
    · exact absurd h ht
end
end Go.Proofs.Ytngnkdedfcnfkaa
