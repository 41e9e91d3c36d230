/-
  A starter and its workers: where each stands. A worker is seated at a receive or a send of its own (or on its way there), or its channel has been closed and it is on its way to see it, or it goes through the group's Done; others only leave.
-/
import Derived.Test.YtngnkdedfcnfkaaPoT
import Derived.Conc.Token
namespace Go.Proofs.Ytngnkdedfcnfkaa
open Go Go.Conc
open Go.ConcN (sumTo upd sumTo_upd upd_ne upd_same ShN RelBy CTag WD WgLive)
open Go.ConcR (stA smA WgAt mk)

instance pay0 : Go.ConcR.Payload := ⟨0⟩

/-- the cells of A stand -/
def Same (A : Addr → Prop) (w w' : World) : Prop := ∀ a, A a → w'.cell? a = w.cell? a ∧ w'.frozen? a = w.frozen? a
theorem Same.refl (A : Addr → Prop) (w : World) : Same A w w := fun _ _ => ⟨rfl, rfl⟩
theorem Same.trans {A : Addr → Prop} {w w₁ w₂ : World} (h : Same A w w₁) (k : Same A w₁ w₂) : Same A w w₂ := fun a ha => ⟨(k a ha).1.trans (h a ha).1, (k a ha).2.trans (h a ha).2⟩
theorem same_block {w w' : World} {a : Addr} (h : w'.heap[a.block]? = w.heap[a.block]?) : w'.cell? a = w.cell? a ∧ w'.frozen? a = w.frozen? a := by
  simp [World.cell?, World.frozen?, h]

/-- rows of texts are written by nobody -/
structure Kept (w w' : World) : Prop where
  rows : ∀ (b : Nat) (arr : Array Value), w.heap[b]? = some (.cells arr 9) → w'.heap[b]? = some (.cells arr 9)
  size : w.heap.size ≤ w'.heap.size
theorem Kept.refl (w : World) : Kept w w := ⟨fun _ _ h => h, Nat.le_refl _⟩
theorem Kept.at (w : World) (d : Nat) : Kept w (w.at d) := ⟨fun _ _ h => h, Nat.le_refl _⟩
theorem Kept.trans {w w₁ w₂ : World} (h : Kept w w₁) (k : Kept w₁ w₂) : Kept w w₂ := ⟨fun b arr e => k.rows b arr (h.rows b arr e), Nat.le_trans h.size k.size⟩

/-- the cells of A stand, and the rows of texts -/
def SameO (A : Addr → Prop) (w w' : World) : Prop := Same A w w' ∧ Kept w w'
theorem SameO.refl (A : Addr → Prop) (w : World) : SameO A w w := ⟨Same.refl A w, Kept.refl w⟩
theorem SameO.trans {A : Addr → Prop} {w w₁ w₂ : World} (h : SameO A w w₁) (k : SameO A w₁ w₂) : SameO A w w₂ := ⟨h.1.trans k.1, h.2.trans k.2⟩
theorem kept_off {w w' : World} {S : Nat → Prop} (h : ∀ b, ¬ S b → w'.heap[b]? = w.heap[b]?) (hS : ∀ b, S b → ∀ arr, w.heap[b]? ≠ some (.cells arr 9)) (hsz : w.heap.size ≤ w'.heap.size) : Kept w w' := ⟨fun b arr e => by
  by_cases hb : S b
  · exact absurd e (hS b hb arr)
  · rw [h b hb]; exact e, hsz⟩

/-- a worker's seat: its communication; what is known of its record there ('home'); of the world: 'K' always, 'Has' of its own cells while it is at the seat; the cells it leans on, the blocks it leans on, its own cells; what its steps may do to the world; 'C': a block that nobody touches (the library's walk wants one) -/
structure Spot where
  isSend : Bool
  chan : Nat
  Val : Value → World → Prop
  z : Value
  home : Goroutine → Prop
  K : World → Prop
  Has : World → Prop
  Dep : Addr → Prop
  DepB : Nat → Prop
  Own : Addr → Prop
  Move : World → World → Prop
  C : Nat
def Spot.case (s : Spot) (u : Value) : CommCase := if s.isSend then scase s.chan u s.z else rcase s.chan s.z
def Spot.shape (s : Spot) : CommShape := if s.isSend then .send else .recv true
def Spot.seat (s : Spot) (u : Value) : Seat := { cases := #[s.case u], shape := s.shape, home := s.home }
def Spot.Still (s : Spot) (l : Loc) : Prop := ∃ a, l = .cell a ∧ s.Dep a

inductive Stage where
  | open
  | shut
  | wk (n d : Nat)
def Stage.rank : Stage → Nat
  | .open => 9
  | .shut => 8
  | .wk n _ => n

abbrev Roles := Nat → Option (Spot × Stage)
def RdOf (ρ : Roles) (g : Nat) (l : Loc) : Prop := ∃ s st a, ρ g = some (s, st) ∧ l = .cell a ∧ s.Dep a
def OwOf (ρ : Roles) (g : Nat) (l : Loc) : Prop := ∃ s st a, ρ g = some (s, st) ∧ l = .cell a ∧ s.Own a
def MemOf (ρ : Roles) (g : Nat) : Prop := (ρ g).isSome = true

/-! ### behind the closed channel: the library's Done -/
abbrev RQ (ty : TypeId) (Wg C : Nat) : World → World → Prop := Go.ConcN.RW ty Wg C 1 0 0
theorem rq_of {ty : TypeId} {Wg C : Nat} {w w₁ : World} (h : w₁.heap[C]? = w.heap[C]?) (hl : WgLive ty Wg w → WgLive ty Wg w₁) : RQ ty Wg C w w₁ :=
  ⟨fun _ hb => absurd hb (by omega), hl, fun ⟨cs, hc, hn⟩ => ⟨cs, h.trans hc, hn⟩, by simp [World.cell?, h]⟩

def AtR (P : Program) (ty : TypeId) (Wg C : Nat) (g : Goroutine) (w : World) : Prop :=
  g.status = .running ∧ ∃ g', stepG P false g w = .go g' w #[mk (.releaseMerge (stA Wg))] ∧ ∃ m, Goes P false (RQ ty Wg C) Go.ConcR.DC0 (Go.ConcN.AtK1 P ty Wg C 1 0 1) m g' w

inductive WS (P : Program) (ty : TypeId) (Wg C : Nat) : Nat → Nat → Nat → Goroutine → World → Prop
  | r0 {m : Nat} {g : Goroutine} {w : World} : Goes P false (RQ ty Wg C) Go.ConcR.DC0 (AtR P ty Wg C) m g w → WS P ty Wg C 7 m 0 g w
  | k1 {m : Nat} {g : Goroutine} {w : World} : Goes P false (RQ ty Wg C) Go.ConcR.DC0 (Go.ConcN.AtK1 P ty Wg C 1 0 1) m g w → WS P ty Wg C 6 m 0 g w
  | d1 {m : Nat} {g : Goroutine} {w : World} : Goes P false (RQ ty Wg C) Go.ConcR.DC0 (Go.ConcN.AtD1 P ty Wg C 1 0 1) m g w → WS P ty Wg C 5 m 1 g w
  | d2 {m : Nat} {g : Goroutine} {w : World} : Goes P false (RQ ty Wg C) Go.ConcR.DC0 (Go.ConcN.AtD2 P ty Wg C 1 0 1) m g w → WS P ty Wg C 4 m 1 g w
  | d3 {m : Nat} {g : Goroutine} {w : World} : Goes P false (RQ ty Wg C) Go.ConcR.DC0 (Go.ConcN.AtD3 P ty Wg C 1 0 1) m g w → WS P ty Wg C 3 m 1 g w
  | d4 {m : Nat} {g : Goroutine} {w : World} : Goes P false (RQ ty Wg C) Go.ConcR.DC0 (Go.ConcN.AtD4 P ty Wg) m g w → WS P ty Wg C 2 m 1 g w
  | quit {m d : Nat} {g : Goroutine} {w : World} : QuitsD P m d g → WS P ty Wg C 1 m d g w

section
variable {P : Program} {ty : TypeId} {Wg C : Nat} {n m d : Nat} {g : Goroutine} {w w₁ : World}
theorem WS.rely (h : WS P ty Wg C n m d g w) (hr : RQ ty Wg C w w₁) : WS P ty Wg C n m d g w₁ := by
  have tr : ∀ a b c, RQ ty Wg C a b → RQ ty Wg C b c → RQ ty Wg C a c := fun _ _ _ h1 h2 => h1.trans h2
  cases h with
  | r0 h => exact .r0 (Goes.rely tr h hr)
  | k1 h => exact .k1 (Goes.rely tr h hr)
  | d1 h => exact .d1 (Goes.rely tr h hr)
  | d2 h => exact .d2 (Goes.rely tr h hr)
  | d3 h => exact .d3 (Goes.rely tr h hr)
  | d4 h => exact .d4 (Goes.rely tr h hr)
  | quit h => exact .quit h
theorem WS.running_of (h : WS P ty Wg C n m d g w) (hn : n ≠ 1) : g.status = .running := by
  have rf := Go.ConcN.RW.refl (ty := ty) (Wg := Wg) (C := C) (n := 1) (Low := 0) (i := 0) w
  cases h with
  | r0 h => exact Goes.running (fun _ _ x => x.1) w rf h
  | k1 h => exact Goes.running (fun _ _ x => x.1) w rf h
  | d1 h => exact Goes.running (fun _ _ x => x.1) w rf h
  | d2 h => exact Goes.running (fun _ _ x => x.1) w rf h
  | d3 h => exact Goes.running (fun _ _ x => x.1) w rf h
  | d4 h => exact Goes.running (fun _ _ x => x.1) w rf h
  | quit _ => exact absurd rfl hn
theorem WS.status (h : WS P ty Wg C n m d g w) : g.status = .running ∨ g.status = .finished := by
  by_cases hn : n = 1
  · subst hn
    cases h with
    | quit h => exact h.status
  · exact .inl (h.running_of hn)
end

/-! ### on the way to the seat -/
/-- what a worker may list on its way -/
def EvP (s : Spot) (B : Nat) (e : Event) : Prop := ∃ a wr, e = ⟨.cell a, wr, false⟩ ∧ a.block < B ∧ ((wr = false ∧ s.Dep a) ∨ s.Own a)
def DP (s : Spot) (B : Nat) (w w' : World) (es : Array Event) : Prop := s.Move w w' ∧ ∀ e ∈ es, EvP s B e
def RP (s : Spot) (w w₁ : World) : Prop := s.K w₁ ∧ SameO s.Own w w₁
def AtSeat (P : Program) (B : Nat) (s : Spot) (g : Goroutine) (w : World) : Prop := s.Has w ∧ ∃ u, s.Val u w ∧ ∃ g₂, AtIn P false s.K s.Still B (s.seat u) g g₂
def GoesTo (P : Program) (B : Nat) (s : Spot) (k : Nat) (g : Goroutine) (w : World) : Prop := Goes P false (RP s) (DP s B) (AtSeat P B s) k g w
/-- when it sees that its channel is closed it goes to Done -/
def Bye (P : Program) (ty : TypeId) (Wg : Nat) (s : Spot) : Prop := ∀ g₂ w, s.home g₂ → s.Has w → s.K w → WgLive ty Wg w → ∃ m, WS P ty Wg s.C 7 m 0 (Go.Conc.served g₂ (recvd true s.z false)) w

def RoleAt (P : Program) (ty : TypeId) (Wg B : Nat) (T : Trace) (w : World) (i n : Nat) (g : Goroutine) : Option (Spot × Stage) → Prop
  | none => QuitsD P n (Deaf T i) g
  | some (s, .open) => ((∃ k, n = k + 1 ∧ GoesTo P B s k g w) ∨ (n = 0 ∧ s.Has w ∧ ∃ u, s.Val u w ∧ ∃ g₀ g₂, g = parked g₂ (s.seat u).cases (s.seat u).shape ∧ AtIn P false s.K s.Still B (s.seat u) g₀ g₂)) ∧ Deaf T i = 0
  | some (s, .shut) => (∃ k, n = k + 1 ∧ GoesTo P B s k g w) ∧ Bye P ty Wg s ∧ Deaf T i = 0
  | some (s, .wk m d) => WS P ty Wg s.C m n d g w ∧ Deaf T i = d ∧ (m ≤ 6 → ∃ r, RelBy (stA Wg) T i r)

theorem GoesTo.running {P : Program} {B : Nat} {s : Spot} {k : Nat} {g : Goroutine} {w : World} (hK : s.K w) (h : GoesTo P B s k g w) : g.status = .running :=
  Goes.running (fun _ _ x => x.2.choose_spec.2.choose_spec.1) w ⟨hK, SameO.refl _ w⟩ h
theorem GoesTo.rely {P : Program} {B : Nat} {s : Spot} {k : Nat} {g : Goroutine} {w w' : World} (hK : s.K w') (ho : SameO s.Own w w') (h : GoesTo P B s k g w) : GoesTo P B s k g w' :=
  Goes.rely (fun _ _ _ h1 h2 => ⟨h2.1, h1.2.trans h2.2⟩) h ⟨hK, ho⟩

/-- where a spot's places lie -/
structure Spot.Wf (ty : TypeId) (Wg B : Nat) (Ch : Nat → Prop) (SR : World → World → Prop) (s : Spot) : Prop where
  chan : Ch s.chan
  low : s.chan < B
  depCh : ∀ a, s.Dep a → ¬ Ch a.block ∧ a.block ≠ Wg
  depBCh : ∀ b, s.DepB b → ¬ Ch b ∧ b ≠ Wg
  ownCh : ∀ a, s.Own a → ¬ Ch a.block ∧ a.block ≠ Wg ∧ ¬ s.DepB a.block
  stabK : ∀ w w', s.K w → Same s.Dep w w' → (∀ b, s.DepB b → w'.heap[b]? = w.heap[b]?) → s.K w'
  stabHas : ∀ w w', s.Has w → Same s.Own w w' → s.Has w'
  moveK : ∀ w w', s.K w → s.Move w w' → s.K w'
  moveB : ∀ w w', s.Move w w' → ∀ b, (b < w.heap.size ∨ Ch b ∨ b = Wg) → (∀ a, s.Own a → a.block ≠ b) → w'.heap[b]? = w.heap[b]?
  moveC : ∀ w w', s.Move w w' → Same (fun a => a.block < w.heap.size ∧ ¬ s.Own a) w w'
  moveSR : ∀ w w', s.Move w w' → SR w w'
  seeC : s.DepB s.C
  lowK : ∀ w, s.K w → (∀ a, s.Dep a ∨ s.Own a → a.block < w.heap.size) ∧ ∀ b, s.DepB b → b < w.heap.size
  moveKept : ∀ w w', s.Move w w' → Kept w w'
  stabVal : ∀ u w w', s.Val u w → Kept w w' → s.Val u w'

/-- what the starter suffers -/
structure Env (ty : TypeId) (Wg B : Nat) (Ch : Nat → Prop) (SR : World → World → Prop) : Prop where
  refl : ∀ w, SR w w
  draw : ∀ (w : World) d, SR w (w.at d)
  trans : ∀ a b c, SR a b → SR b c → SR a c
  chWg : ¬ Ch Wg
  lowW : Wg < B
  ty9 : ty ≠ 9

def stg (ρ : Roles) (i : Nat) : WD := match ρ i with
  | some (_, .wk n _) => ⟨n, 0, 0⟩
  | some _ => ⟨7, 0, 0⟩
  | none => ⟨1, 0, 0⟩
def rank (o : Option (Spot × Stage)) : Nat := match o with
  | some (_, st) => st.rank
  | none => 0
def meas (N : Nat) (ρ : Roles) (q : Nat → Nat) : Nat × Nat := (sumTo N (fun i => rank (ρ i)), sumTo N q)

structure Hub (P : Program) (ty : TypeId) (Wg B : Nat) (Shun : Loc → Prop) (Ch : Nat → Prop) (SR : World → World → Prop) (tag : CTag) (ρ : Roles) (T : Trace) (gs : Array Goroutine) (w : World) (q : Nat → Nat) : Prop where
  role : ∀ i g, 0 < i → gs[i]? = some g → RoleAt P ty Wg B T w i (q i) g (ρ i)
  keep : ∀ i s st, ρ i = some (s, st) → s.K w
  chans : ∀ i s, ρ i = some (s, .open) → ∃ k, w.heap[s.chan]? = some (.chan 0 #[] false k k false)
  shut : ∀ i s, ρ i = some (s, .shut) → s.isSend = false ∧ ∃ k, w.heap[s.chan]? = some (.chan 0 #[] true k k false)
  inj : ∀ i j s s' st st', ρ i = some (s, st) → ρ j = some (s', st') → i ≠ j → s.isSend = false → s'.chan ≠ s.chan
  wf : ∀ i s st, ρ i = some (s, st) → s.Wf ty Wg B Ch SR
  cross : ∀ i j s s' st st', ρ i = some (s, st) → ρ j = some (s', st') → i ≠ j → ∀ a, s.Own a → ¬ s'.DepB a.block
  zero : ρ 0 = none
  above : ∀ j, gs.size ≤ j → Deaf T j = 0 ∧ ρ j = none
  past : PT Wg Shun (MemOf ρ) (RdOf ρ) (OwOf ρ) w.heap.size T
  lies : Lies Wg Shun (RdOf ρ) (OwOf ρ)
  mode : ∃ st sm, WgAt ty Wg w st sm ∧ Go.ConcN.Mode gs.size (stg ρ) tag st sm
  calm : (∀ i s st, ρ i = some (s, st) → st = .open) ∨ (∀ w w', Aside Wg w w' → WgLive ty Wg w' → SR w w')

section
variable {P : Program} {ty : TypeId} {Wg B : Nat} {Shun : Loc → Prop} {Ch : Nat → Prop} {SR : World → World → Prop} {tag : CTag} {ρ : Roles} {T : Trace} {gs : Array Goroutine} {w : World} {q : Nat → Nat}

theorem offers_send (g : Goroutine) (s : Spot) (u : Value) (r : Nat) : offersAt (parked g (s.seat u).cases (s.seat u).shape) r true = if s.isSend = true ∧ s.chan = r then [0] else [] := by
  unfold Spot.seat Spot.case Spot.shape
  cases s.isSend with
  | false => simp only [Bool.false_eq_true, if_false, false_and]; exact offersAt_parked_recv' g _ _ _ r
  | true => simp only [if_true, true_and]; exact offersAt_parked_send g _ _ _ _ r
theorem offers_recv (g : Goroutine) (s : Spot) (u : Value) (r : Nat) : offersAt (parked g (s.seat u).cases (s.seat u).shape) r false = if s.isSend = false ∧ s.chan = r then [0] else [] := by
  unfold Spot.seat Spot.case Spot.shape
  cases s.isSend with
  | false => simp only [Bool.false_eq_true, if_false, true_and]; exact offersAt_parked_recv g _ _ _ r
  | true => simp only [if_true, Bool.true_eq_false, false_and, if_false]; exact offersAt_parked_send' g _ _ _ _ r
theorem again_spot {g : Goroutine} {s : Spot} {u : Value} {w : World} (h : ∃ k, w.heap[s.chan]? = some (.chan 0 #[] false k k false)) : (parked g (s.seat u).cases (s.seat u).shape).again w = parked g (s.seat u).cases (s.seat u).shape := by
  obtain ⟨k, hk⟩ := h
  unfold Spot.seat Spot.case Spot.shape
  cases s.isSend with
  | false => exact again_recv_open hk
  | true => exact again_send_open hk

/-- whoever is blocked is a parked seat -/
theorem RoleAt.cases {i n : Nat} {g : Goroutine} {o : Option (Spot × Stage)} (hK : ∀ s st, o = some (s, st) → s.K w) (h : RoleAt P ty Wg B T w i n g o) :
    (g.status = .running ∧ (n = 0 → ∃ s m d, o = some (s, .wk m d))) ∨ g.status = .finished ∨ (∃ s g₂ u, o = some (s, .open) ∧ n = 0 ∧ s.Val u w ∧ g = parked g₂ (s.seat u).cases (s.seat u).shape) := by
  match o, h, hK with
  | none, h, _ =>
    cases n with
    | zero => exact .inr (.inl h.1)
    | succ k => rcases QuitsD.status h with z | z
                · exact .inl ⟨z, by simp⟩
                · exact .inr (.inl z)
  | some (s, .open), h, hK =>
    rcases h.1 with ⟨k, rfl, hg⟩ | ⟨hn, _, u, hu, _, g₂, hg, _⟩
    · exact .inl ⟨hg.running (hK s _ rfl), by simp⟩
    · exact .inr (.inr ⟨s, g₂, u, rfl, hn, hu, hg⟩)
  | some (s, .shut), h, hK =>
    obtain ⟨⟨k, rfl, hg⟩, _⟩ := h
    exact .inl ⟨hg.running (hK s _ rfl), by simp⟩
  | some (s, .wk m d), h, _ =>
    rcases h.1.status with z | z
    · exact .inl ⟨z, fun _ => ⟨s, m, d, rfl⟩⟩
    · exact .inr (.inl z)

theorem RoleAt.offers {i n : Nat} {g : Goroutine} {o : Option (Spot × Stage)} (hK : ∀ s st, o = some (s, st) → s.K w) (h : RoleAt P ty Wg B T w i n g o) (c : Nat) (b : Bool) (hc : ∀ s, o = some (s, .open) → ¬ (s.isSend = b ∧ s.chan = c)) : offersAt g c b = [] := by
  rcases h.cases hK with ⟨z, _⟩ | z | ⟨s, g₂, u, rfl, _, _, rfl⟩
  · exact offersAt_of_not_blocked (by rw [z]; simp) c b
  · exact offersAt_of_not_blocked (by rw [z]; simp) c b
  · have hn := hc s rfl
    cases b with
    | true => rw [offers_send, if_neg hn]
    | false => rw [offers_recv, if_neg hn]

theorem RoleAt.again {i n : Nat} {g : Goroutine} {o : Option (Spot × Stage)} {w' : World} (hK : ∀ s st, o = some (s, st) → s.K w) (h : RoleAt P ty Wg B T w i n g o) (hc : ∀ s, o = some (s, .open) → ∃ k, w'.heap[s.chan]? = some (.chan 0 #[] false k k false)) : g.again w' = g := by
  rcases h.cases hK with ⟨z, _⟩ | z | ⟨s, g₂, u, rfl, _, _, rfl⟩
  · exact again_of_running (.inl z) w'
  · exact again_of_running (.inr z) w'
  · exact again_spot (hc s rfl)

theorem RoleAt.awake {i n : Nat} {g : Goroutine} {o : Option (Spot × Stage)} (hK : ∀ s st, o = some (s, st) → s.K w) (h : RoleAt P ty Wg B T w i n g o) : awake g := by
  rcases h.cases hK with ⟨z, _⟩ | z | ⟨s, g₂, u, rfl, _, _, rfl⟩
  · exact awake_of (.inl z)
  · exact awake_of (.inr (.inr z))
  · exact awake_of (.inr (.inl rfl))

/-- what another does leaves it where it is -/
theorem RoleAt.rely {i n : Nat} {g : Goroutine} {o : Option (Spot × Stage)} {w' : World} {u : Trace} (h : RoleAt P ty Wg B T w i n g o) (hu : ∀ op ∈ u, op.g ≠ i)
    (hw : ∀ s st, o = some (s, st) → s.Wf ty Wg B Ch SR ∧ s.K w' ∧ SameO s.Own w w' ∧ w'.heap[s.C]? = w.heap[s.C]?) (hl : WgLive ty Wg w → WgLive ty Wg w') : RoleAt P ty Wg B (T ++ u) w' i n g o := by
  have hd : Deaf (T ++ u) i = Deaf T i := by
    obtain ⟨l⟩ := u
    rw [Deaf_append]
    have hl : ∀ op ∈ l, op.g ≠ i := fun op hop => hu op (by simpa using hop)
    clear hu
    generalize Deaf T i = d
    induction l generalizing d with
    | nil => rfl
    | cons y l ih =>
      rw [List.foldl_cons, show deafStep i d y = d by
        have := hl y (by simp)
        unfold deafStep
        split <;> simp [this]]
      exact ih (fun op hop => hl op (by simp [hop])) d
  match o, h, hw with
  | none, h, _ => show QuitsD P n (Deaf _ i) g; rw [hd]; exact h
  | some (s, .open), h, hw =>
    obtain ⟨hwf, hK, ho, _⟩ := hw s _ rfl
    exact ⟨h.1.imp (fun ⟨k, e, hg⟩ => ⟨k, e, hg.rely hK ho⟩) (fun ⟨e, hh, u, hu, x⟩ => ⟨e, hwf.stabHas _ _ hh ho.1, u, hwf.stabVal _ _ _ hu ho.2, x⟩), hd.trans h.2⟩
  | some (s, .shut), h, hw =>
    obtain ⟨hwf, hK, ho, _⟩ := hw s _ rfl
    obtain ⟨⟨k, e, hg⟩, hb, h0⟩ := h
    exact ⟨⟨k, e, hg.rely hK ho⟩, hb, hd.trans h0⟩
  | some (s, .wk m d), h, hw =>
    obtain ⟨_, _, _, hC⟩ := hw s _ rfl
    exact ⟨h.1.rely (rq_of hC hl), hd.trans h.2.1, fun hm => (h.2.2 hm).imp fun r hr => Go.ConcN.RelBy.appNot hr hu⟩

theorem Hub.fixed (C : Hub P ty Wg B Shun Ch SR tag ρ T gs w q) {x : Nat} {y : Goroutine} {w' : World} (hx : 0 < x) (hy : gs[x]? = some y) (hc : ∀ i s, ρ i = some (s, .open) → w'.heap[s.chan]? = w.heap[s.chan]?) : y.again w' = y :=
  RoleAt.again (fun s st => C.keep x s st) (C.role x y hx hy) (fun s hs => by rw [hc x s hs]; exact C.chans x s hs)

theorem Hub.awake (C : Hub P ty Wg B Shun Ch SR tag ρ T gs w q) {a : Goroutine} (ha : gs[0]? = some a) (hs : a.status = .running ∨ a.status = .blocked) : ∀ g ∈ gs, awake g := by
  intro g hg
  obtain ⟨i, hi, rfl⟩ := Array.mem_iff_getElem.1 hg
  rcases Nat.eq_zero_or_pos i with rfl | hpos
  · have : gs[0] = a := by simpa [Array.getElem?_eq_getElem hi] using ha
    rw [this]; exact awake_of (hs.elim .inl fun x => .inr (.inl x))
  · exact RoleAt.awake (fun s st => C.keep i s st) (C.role i _ hpos (Array.getElem?_eq_getElem hi))

theorem Hub.live (C : Hub P ty Wg B Shun Ch SR tag ρ T gs w q) : WgLive ty Wg w := let ⟨st, sm, h, _⟩ := C.mode; ⟨st, sm, h⟩

theorem live_lt {b : Nat} (h : WgLive ty b w) : b < w.heap.size := by
  obtain ⟨st, sm, h1⟩ := h
  have h2 : w.heap[b]? = some (.cells #[_, _] ty) := h1
  exact (Array.getElem?_eq_some_iff.1 h2).1
theorem Hub.wgl (C : Hub P ty Wg B Shun Ch SR tag ρ T gs w q) : Wg < w.heap.size := live_lt C.live
theorem Hub.low (C : Hub P ty Wg B Shun Ch SR tag ρ T gs w q) {i : Nat} {s : Spot} {st : Stage} (h : ρ i = some (s, st)) : ∀ a, s.Dep a ∨ s.Own a → a.block < w.heap.size := ((C.wf i s st h).lowK w (C.keep i s st h)).1

/-- another rely -/
theorem Hub.retune (C : Hub P ty Wg B Shun Ch SR tag ρ T gs w q) {SR' : World → World → Prop} (hwf : ∀ i s st, ρ i = some (s, st) → s.Wf ty Wg B Ch SR') (hcalm : (∀ i s st, ρ i = some (s, st) → st = .open) ∨ (∀ w w', Aside Wg w w' → WgLive ty Wg w' → SR' w w')) : Hub P ty Wg B Shun Ch SR' tag ρ T gs w q :=
  ⟨C.role, C.keep, C.chans, C.shut, C.inj, hwf, C.cross, C.zero, C.above, C.past, C.lies, C.mode, hcalm⟩

/-- the scheduler's draw -/
theorem Hub.at (C : Hub P ty Wg B Shun Ch SR tag ρ T gs w q) (d : Nat) : Hub P ty Wg B Shun Ch SR tag ρ T gs (w.at d) q := by
  have hK : ∀ i s st, ρ i = some (s, st) → s.K (w.at d) := fun i s st h => (C.wf i s st h).stabK _ _ (C.keep i s st h) (fun _ _ => ⟨rfl, rfl⟩) (fun _ _ => rfl)
  refine ⟨fun i g h0 hi => ?_, hK, C.chans, C.shut, C.inj, C.wf, C.cross, C.zero, C.above, C.past, C.lies, C.mode, C.calm⟩
  have := (C.role i g h0 hi).rely (u := #[]) (w' := w.at d) (Ch := Ch) (SR := SR) (by simp) (fun s st h => ⟨C.wf i s st h, hK i s st h, ⟨fun _ _ => ⟨rfl, rfl⟩, Kept.at w d⟩, rfl⟩) (fun _ => C.live)
  simpa using this
end

end Go.Proofs.Ytngnkdedfcnfkaa
