/-
  pool.Run: what a call of it knows; what its workers lean on, and what each may do.
-/
import Derived.Test.YtngnkdedfcnfkaaPoR
import Derived.Test.YtngnkdedfcnfkaaPoH
import Derived.Conc.TokenWalk
set_option linter.unusedSimpArgs false
namespace Go.Proofs.Ytngnkdedfcnfkaa
open Go Go.Conc Go.RowKit Go.Conc.Lib Go.ConcR.Gen Go.ConcN.Gen
open Go.ConcN (WgLive Has RW)
open Go.ConcR (KK WgAt stA smA)

/-- all blocks but those of S stand -/
structure Off (S : Nat → Prop) (w w' : World) : Prop where
  os : w'.os = w.os
  tape : w'.tape = w.tape
  output : w'.output = w.output
  size : w'.heap.size = w.heap.size
  block : ∀ b, ¬ S b → w'.heap[b]? = w.heap[b]?
theorem Off.refl (S : Nat → Prop) (w : World) : Off S w w := ⟨rfl, rfl, rfl, rfl, fun _ _ => rfl⟩
theorem Off.trans {S : Nat → Prop} {a b c : World} (h : Off S a b) (k : Off S b c) : Off S a c :=
  ⟨k.os.trans h.os, k.tape.trans h.tape, k.output.trans h.output, k.size.trans h.size, fun x hx => (k.block x hx).trans (h.block x hx)⟩
theorem Off.at (S : Nat → Prop) (w : World) (d : Nat) : Off S w (w.at d) := ⟨rfl, rfl, rfl, rfl, fun _ _ => rfl⟩
theorem Off.weaken {S S' : Nat → Prop} {w w' : World} (h : Off S w w') (hs : ∀ b, S b → S' b) : Off S' w w' := ⟨h.os, h.tape, h.output, h.size, fun b hb => h.block b (fun x => hb (hs b x))⟩
theorem Off.of_at {S : Nat → Prop} {w w' : World} (h : AtRel w w') : Off S w w' := by
  obtain ⟨d, rfl⟩ := h
  exact Off.at S w d
theorem Off.of_aside {S : Nat → Prop} {c : Nat} {w w' : World} (h : Aside c w w') (hc : S c) : Off S w w' := ⟨h.os, h.tape, h.output, h.size, fun b hb => h.block b (fun e => hb (e ▸ hc))⟩
theorem Off.setCell {S : Nat → Prop} (w : World) (a : Addr) (v : Value) (h : S a.block) : Off S w (w.setCell a v) := Off.of_aside (aside_setCell w a v) h

/-- all blocks stand but those of S; new ones may have been made; what lies below E stands whatever -/
structure OffG (S : Nat → Prop) (E : Nat) (w w' : World) : Prop where
  os : w'.os = w.os
  tape : w'.tape = w.tape
  output : w'.output = w.output
  kept : Kept w w'
  block : ∀ b, (b < w.heap.size ∨ b < E) → ¬ S b → w'.heap[b]? = w.heap[b]?
theorem OffG.refl (S : Nat → Prop) (E : Nat) (w : World) : OffG S E w w := ⟨rfl, rfl, rfl, Kept.refl w, fun _ _ _ => rfl⟩
theorem OffG.trans {S : Nat → Prop} {E : Nat} {a b c : World} (h : OffG S E a b) (k : OffG S E b c) : OffG S E a c :=
  ⟨k.os.trans h.os, k.tape.trans h.tape, k.output.trans h.output, h.kept.trans k.kept, fun x hx hn => (k.block x (hx.imp (fun h1 => Nat.lt_of_lt_of_le h1 h.kept.size) id) hn).trans (h.block x hx hn)⟩
theorem OffG.at (S : Nat → Prop) (E : Nat) (w : World) (d : Nat) : OffG S E w (w.at d) := ⟨rfl, rfl, rfl, Kept.at w d, fun _ _ _ => rfl⟩
theorem Off.kept {S : Nat → Prop} {w w' : World} (h : Off S w w') (hS : ∀ b, S b → ∀ arr, w.heap[b]? ≠ some (.cells arr 9)) : Kept w w' := kept_off h.block hS (Nat.le_of_eq h.size.symm)
theorem Off.grow {S : Nat → Prop} {E : Nat} {w w' : World} (h : Off S w w') (hk : Kept w w') : OffG S E w w' := ⟨h.os, h.tape, h.output, hk, fun b _ hb => h.block b hb⟩

/-- a call of Run: H: the first block that it makes; n workers, J jobs; the jobs' slice; the jobs, the answers, what makes them; an answer's zero; the blocks that the jobs' doing writes, and what is known of them behind d jobs -/
structure Ctx where
  H : Nat
  n : Nat
  J : Nat
  cap : Nat
  jb : Nat
  ja : Option Addr
  vals : Nat → Value
  Ans : Nat → Value → World → Prop
  fn : Value
  zR : Value
/-- behind all that a call makes before it hands out the first job -/
def Ctx.E (c : Ctx) : Nat := c.H + 8 + 2 * c.n

/-- what is asked of it -/
structure OkC (c : Ctx) (Shun : Loc → Prop) : Prop where
  npos : 1 ≤ c.n
  nmax : c.n ≤ 64
  Jmax : c.J ≤ 8192
  ja : 0 < c.J → c.ja = some ⟨c.jb, 0, none⟩
  jbH : 0 < c.J → c.jb < c.H
  ansK : ∀ i v w w', c.Ans i v w → Kept w w' → c.Ans i v w'
  f1 : ∀ i v w, c.Ans i v w → Value.cells v = #[v]
  fn1 : Value.cells c.fn = #[c.fn]
  f2 : ∀ i v w, c.Ans i v w → v.oneCell' = true
  sh : ∀ a : Addr, c.H ≤ a.block → a.block ≠ c.H + 6 → ¬ Shun (.cell a)
  shj : ∀ a : Addr, 0 < c.J → a.block = c.jb → ¬ Shun (.cell a)

/-- what worker k leans on -/
structure KW (c : Ctx) (k : Nat) (w : World) : Prop where
  jobsv : w.cell? ⟨c.H, 0, none⟩ = some (.slice c.ja c.J c.cap)
  dov : w.cell? ⟨c.H + 1, 0, none⟩ = some c.fn
  desksv : w.cell? ⟨c.H + 3, 0, none⟩ = some (.slice (some ⟨c.H + 2, 0, none⟩) c.n c.n)
  backv : w.cell? ⟨c.H + 5, 0, none⟩ = some (.chan (some (c.H + 4)))
  kv : w.heap[c.H + 7 + 2 * k]? = some (.cells #[.int .i64 k] 3)
  desk : w.cell? ⟨c.H + 2, k, none⟩ = some (.chan (some (c.H + 8 + 2 * k)))
  jobs : ∀ i, i < c.J → w.cell? ⟨c.jb, i, none⟩ = some (c.vals i)
theorem KW.kcell {c : Ctx} {k : Nat} {w : World} (h : KW c k w) : w.cell? ⟨c.H + 7 + 2 * k, 0, none⟩ = some (.int .i64 k) := by
  simp [World.cell?, h.kv]

inductive DepW (c : Ctx) (k : Nat) : Addr → Prop
  | jobsv : DepW c k ⟨c.H, 0, none⟩
  | dov : DepW c k ⟨c.H + 1, 0, none⟩
  | desksv : DepW c k ⟨c.H + 3, 0, none⟩
  | backv : DepW c k ⟨c.H + 5, 0, none⟩
  | kv : DepW c k ⟨c.H + 7 + 2 * k, 0, none⟩
  | desk : DepW c k ⟨c.H + 2, k, none⟩
  | jobs (i : Nat) : i < c.J → DepW c k ⟨c.jb, i, none⟩
theorem DepW.where_ {c : Ctx} {k : Nat} {a : Addr} (h : DepW c k a) : a.block = c.H ∨ a.block = c.H + 1 ∨ a.block = c.H + 3 ∨ a.block = c.H + 5 ∨ a.block = c.H + 7 + 2 * k ∨ (a = ⟨c.H + 2, k, none⟩) ∨ (a.block = c.jb ∧ 0 < c.J) := by
  cases h with
  | jobs i hi => exact .inr (.inr (.inr (.inr (.inr (.inr ⟨rfl, by omega⟩)))))
  | _ => simp

/-- a spot of worker k -/
def spotW (c : Ctx) (k : Nat) (isSend : Bool) (chan : Nat) (Val : Value → World → Prop) (z : Value) (home : Goroutine → Prop) (mv : World → World → Prop) : Spot :=
  { isSend, chan, Val, z, home, K := KW c k, Has := fun _ => True, Dep := DepW c k, DepB := (· = c.H + 7 + 2 * k), Own := fun _ => False, Move := mv, C := c.H + 7 + 2 * k }
/-- at its desk -/
def deskW (c : Ctx) (k : Nat) (home : Goroutine → Prop) : Spot := spotW c k false (c.H + 8 + 2 * k) (fun _ _ => True) (.int .i64 0) home (Off fun _ => False)
/-- at the common channel with job j's answer -/
def backW (c : Ctx) (k j : Nat) (home : Goroutine → Prop) : Spot := spotW c k true (c.H + 4) (fun u w => ∃ v, u = .agg #[.int .i64 j, v] ∧ c.Ans j v w) undef home (OffG (fun _ => False) c.E)

/-- the channels -/
def ChW (c : Ctx) (b : Nat) : Prop := b = c.H + 4 ∨ ∃ j, j < c.n ∧ b = c.H + 8 + 2 * j
/-- what the starter suffers: while it spawns; while it hands out; while it waits -/
abbrev SR1 (c : Ctx) : World → World → Prop := OffG (fun _ => False) c.E
def SR2 (c : Ctx) (w w' : World) : Prop := Off (· = c.H + 6) w w' ∧ (WgLive 51 (c.H + 6) w → WgLive 51 (c.H + 6) w')

section
variable {c : Ctx} {Shun : Loc → Prop} {k B : Nat} {w w' : World}
theorem KW.stab (h : KW c k w) (hd : Same (DepW c k) w w') (hb : ∀ b, b = c.H + 7 + 2 * k → w'.heap[b]? = w.heap[b]?) : KW c k w' :=
  ⟨(hd _ .jobsv).1.trans h.jobsv, (hd _ .dov).1.trans h.dov, (hd _ .desksv).1.trans h.desksv, (hd _ .backv).1.trans h.backv, (hb _ rfl).trans h.kv, (hd _ .desk).1.trans h.desk, fun i hi => (hd _ (.jobs i hi)).1.trans (h.jobs i hi)⟩
theorem KW.low (h : KW c k w) : (∀ a, DepW c k a → a.block < w.heap.size) ∧ c.H + 7 + 2 * k < w.heap.size := by
  refine ⟨fun a ha => ?_, (Array.getElem?_eq_some_iff.1 h.kv).1⟩
  cases ha with
  | jobsv => exact World.block_lt_of_cell? w _ h.jobsv
  | dov => exact World.block_lt_of_cell? w _ h.dov
  | desksv => exact World.block_lt_of_cell? w _ h.desksv
  | backv => exact World.block_lt_of_cell? w _ h.backv
  | kv => exact World.block_lt_of_cell? w _ h.kcell
  | desk => exact World.block_lt_of_cell? w _ h.desk
  | jobs i hi => exact World.block_lt_of_cell? w _ (h.jobs i hi)
theorem KW.grow {E : Nat} (h : KW c k w) (r : OffG (fun _ => False) E w w') : KW c k w' :=
  h.stab (fun a ha => same_block (r.block _ (.inl (h.low.1 a ha)) (fun x => x))) (fun b hb => r.block _ (.inl (by rw [hb]; exact h.low.2)) (fun x => x))
/-- what is asked of a worker's move -/
def MoveOk (c : Ctx) (mv : World → World → Prop) : Prop := ∀ w w', mv w w' → OffG (fun _ => False) c.E w w'
theorem move0 (c : Ctx) : MoveOk c (Off fun _ => False) := fun _ _ h => h.grow (h.kept (fun _ x => x.elim))
theorem moveG (c : Ctx) : MoveOk c (OffG (fun _ => False) c.E) := fun _ _ h => h
theorem wfW (hc : OkC c Shun) (hk : k < c.n) {isSend : Bool} {chan : Nat} {Val : Value → World → Prop} {z : Value} {home : Goroutine → Prop} {mv SR : World → World → Prop} (hch : ChW c chan) (hB : c.H + 8 + 2 * c.n ≤ B) (hmv : MoveOk c mv) (hSR : ∀ w w', mv w w' → SR w w') (hV : ∀ u w w', Val u w → Kept w w' → Val u w') :
    (spotW c k isSend chan Val z home mv).Wf 51 (c.H + 6) B (ChW c) SR := by
  refine ⟨hch, ?_, fun a ha => ?_, fun b hb => ?_, fun a ha => ha.elim, fun w w' h h1 h2 => KW.stab h h1 h2, fun w w' _ _ => trivial, fun w w' h m => KW.grow h (hmv _ _ m), fun w w' m b hb _ => (hmv _ _ m).block b (hb.imp id fun h => ?_) (fun x => x), fun w w' m a ha => same_block ((hmv _ _ m).block _ (.inl ha.1) (fun x => x)), hSR, rfl, fun w h => ⟨fun a ha => h.low.1 a (ha.elim id fun x => x.elim), fun b hb => by rw [show b = c.H + 7 + 2 * k from hb]; exact h.low.2⟩, fun w w' m => (hmv _ _ m).kept, hV⟩
  · show chan < B
    rcases hch with rfl | ⟨j, hj, rfl⟩ <;> omega
  · have ha' : DepW c k a := ha
    constructor
    · rintro (e | ⟨j, hj, e⟩) <;> rcases ha'.where_ with h | h | h | h | h | h | ⟨h, hJ⟩ <;> first | (have := hc.jbH hJ; omega) | (subst h; simp only at e; omega) | omega
    · rcases ha'.where_ with h | h | h | h | h | h | ⟨h, hJ⟩ <;> first | (have := hc.jbH hJ; omega) | (subst h; simp only [ne_eq]; omega) | omega
  · have hb' : b = c.H + 7 + 2 * k := hb
    constructor
    · rintro (e | ⟨j, hj, e⟩) <;> omega
    · omega
  · show b < c.H + 8 + 2 * c.n
    rcases h with (rfl | ⟨j, hj, rfl⟩) | rfl <;> omega
theorem env1 (c : Ctx) (hB : c.H + 8 + 2 * c.n ≤ B) : Env 51 (c.H + 6) B (ChW c) (SR1 c) :=
  ⟨OffG.refl _ _, OffG.at _ _, fun _ _ _ => OffG.trans, by rintro (e | ⟨j, hj, e⟩) <;> omega, by omega, by decide⟩
theorem env2 (c : Ctx) (hB : c.H + 8 + 2 * c.n ≤ B) : Env 51 (c.H + 6) B (ChW c) (SR2 c) :=
  ⟨fun w => ⟨Off.refl _ w, id⟩, fun w d => ⟨Off.at _ w d, id⟩, fun _ _ _ h k => ⟨h.1.trans k.1, fun x => k.2 (h.2 x)⟩, by rintro (e | ⟨j, hj, e⟩) <;> omega, by omega, by decide⟩
theorem calm2 (c : Ctx) : ∀ w w', Aside (c.H + 6) w w' → WgLive 51 (c.H + 6) w' → SR2 c w w' := fun _ _ h hl => ⟨Off.of_aside h rfl, fun _ => hl⟩
end

/-! ### a worker's walk -/
/-- what is known on the way: its leanings; once jobs are handed out, that all that came before is made -/
def FW (c : Ctx) (k : Nat) (b : Bool) (w : World) : Prop := KW c k w ∧ (b = true → c.E ≤ w.heap.size)
theorem FW.rely {c : Ctx} {k : Nat} {b₀ b : Bool} {ch : Nat} {V : Value → World → Prop} {z : Value} {h : Goroutine → Prop} {mv : World → World → Prop} {w w₁ : World} (hF : FW c k b₀ w) (r : RP (spotW c k b ch V z h mv) w w₁) : FW c k b₀ w₁ :=
  ⟨r.1, fun e => Nat.le_trans (hF.2 e) r.2.2.size⟩
theorem dps_none {c : Ctx} {k B : Nat} {b : Bool} {ch : Nat} {V : Value → World → Prop} {z : Value} {h : Goroutine → Prop} {S : Nat → Prop} {w : World} {es : Array Event} (he : ∀ e ∈ es, False) : DP (spotW c k b ch V z h (Off S)) B w w es := ⟨Off.refl S w, fun e h => (he e h).elim⟩
theorem dpg_none {c : Ctx} {k B : Nat} {b : Bool} {ch : Nat} {V : Value → World → Prop} {z : Value} {h : Goroutine → Prop} {S : Nat → Prop} {E : Nat} {w : World} {es : Array Event} (he : ∀ e ∈ es, False) : DP (spotW c k b ch V z h (OffG S E)) B w w es := ⟨OffG.refl S E w, fun e h => (he e h).elim⟩
theorem evp_read {c : Ctx} {k B : Nat} {b : Bool} {ch : Nat} {V : Value → World → Prop} {z : Value} {h : Goroutine → Prop} {mv : World → World → Prop} (a : Addr) (hd : DepW c k a) (hB : a.block < B) : EvP (spotW c k b ch V z h mv) B ⟨.cell a, false, false⟩ := ⟨a, false, rfl, hB, .inl ⟨rfl, hd⟩⟩
theorem depB {c : Ctx} {Shun : Loc → Prop} (hc : OkC c Shun) {k B : Nat} (hk : k < c.n) (hB : c.H + 8 + 2 * c.n ≤ B) : ∀ a, DepW c k a → a.block < B := by
  intro a ha
  rcases ha.where_ with h | h | h | h | h | h | ⟨h, hJ⟩ <;> first | (have := hc.jbH hJ; omega) | (subst h; simp only; omega) | omega
theorem served_at {b : Frame} {a : Act} {ops : Array Oper} {i : Nat} {rest : List Nat} {k : List Item} {cs : List Frame} {v : Value} :
    Go.Conc.served (G (b.at a (.inRegion ops (i :: rest) :: k)) cs) v = G (b.at (a.put ((ops[i]?).bind (·.dst)) v) (.inRegion ops rest :: k)) cs := by
  unfold Go.Conc.served G
  rw [Frame.finish_at]

noncomputable def bot : Frame := { (default : Frame) with fn := Try.prog.funcs.size, defers := [], mode := .panicking [goexitEntry] }
def pt (b : Nat) : Value := .pointer (some ⟨b, 0, none⟩)
theorem mixed : Try.prog.follows .mixedOrders = true := by kernel_rfl
/-- the deferred Done -/
def dd (c : Ctx) : List Deferred := [dcall 17 #[pt (c.H + 6)]]

/-- worker k's slots: who it is; the job at hand (t6); its desk (t10); whatever -/
def TW (c : Ctx) (k : Nat) (t6 t7 t8 t9 t11 t12 t13 t14 t15 t16 t17 t18 t19 t20 t21 t22 : Value) : Array Value :=
  #[pt (c.H + 6), pt (c.H + 3), pt (c.H + 7 + 2 * k), pt (c.H + 5), pt (c.H + 1), pt c.H, t6, t7, t8, t9, .chan (some (c.H + 8 + 2 * k)), t11, t12, t13, t14, t15, t16, t17, t18, t19, t20, t21, t22]

/-- WHAT THE DOING OF A JOB IS, as the worker calls it: from the call to behind it, on the way to the common channel: e steps -/
def Does (c : Ctx) (B e : Nat) : Prop :=
  ∀ (k j : Nat) (home : Goroutine → Prop) (b : Frame) (a : Act) (ops : Array Oper) (i : Nat) (rest : List Nat) (o : Oper) (x y : Operand) (ats : Array TypeId) (k₀ : List Item) (cs : List Frame) (m' : Nat), k < c.n → j < c.J →
    ops[i]? = some o → Region.wanted o (yielded ops a.tmps) = true → b.kind ≠ .early → o.op = .call { callee := .value x, args := #[y], argTypes := ats } → a.eval x = c.fn → a.eval y = c.vals j →
    ∀ w, FW c k true w → (∀ v w', FW c k true w' → c.Ans j v w' → GoesTo Try.prog B (backW c k j home) m' (G (b.at (a.put o.dst v) (.inRegion ops rest :: k₀)) cs) w') → GoesTo Try.prog B (backW c k j home) (m' + e) (G (b.at a (.inRegion ops (i :: rest) :: k₀)) cs) w

theorem okl_len {md : Region.Mode} {ops : Array Oper} : ∀ (l : List Nat) (L : Array Bool), L.size = ops.size → Okl md ops L l → l.length ≤ L.toList.count false
  | [], _, _, _ => by simp
  | i :: l, L, hs, ⟨hm, hl⟩ => by
    obtain ⟨h1, o, ho, _⟩ := mem_ready.1 hm
    have hlt : i < L.size := by rw [hs]; exact (Array.getElem?_eq_some_iff.1 ho).1
    have h2 : L[i]? = some false := by
      rw [Array.getD_eq_getD_getElem?, Array.getElem?_eq_getElem hlt, Option.getD_some] at h1
      rw [Array.getElem?_eq_getElem hlt, h1]
    have := count_set h2
    have ih := okl_len l (L.setIfInBounds i true) (by simpa using hs) hl
    simp only [List.length_cons]
    omega
theorem okl_len0 {md : Region.Mode} {ops : Array Oper} {l : List Nat} (h : Okl md ops (Array.replicate ops.size false) l) : l.length ≤ ops.size := by
  have := okl_len l _ (by simp) h
  simpa using this
theorem len_one (e : Nat) (i : Nat) (l : List Nat) : l.length * (e + 1) + 1 ≤ (i :: l).length * (e + 1) := by
  simp only [List.length_cons, Nat.succ_mul]; omega
theorem len_call (e : Nat) (i : Nat) (l : List Nat) : l.length * (e + 1) + e ≤ (i :: l).length * (e + 1) := by
  simp only [List.length_cons, Nat.succ_mul]; omega
end Go.Proofs.Ytngnkdedfcnfkaa
