/-
  pool.Run: what a call of it knows; what its workers lean on, and what each may do.
-/
import Derived.Test.YtngnkdedfcnfkaaPoR
import Derived.Test.YtngnkdedfcnfkaaPoH
import Derived.Conc.TokenWalk
set_option linter.unusedSimpArgs false
namespace Go.Proofs.Ytngnkdedfcnfkaa
open Go Go.Conc Go.RowKit Go.Conc.Lib Go.ConcR.Gen Go.ConcN.Gen
open Go.ConcN (WgLive Has RW)
open Go.ConcR (KK WgAt stA smA)

/-- all blocks but those of S stand -/
structure Off (S : Nat → Prop) (w w' : World) : Prop where
  os : w'.os = w.os
  tape : w'.tape = w.tape
  output : w'.output = w.output
  size : w'.heap.size = w.heap.size
  block : ∀ b, ¬ S b → w'.heap[b]? = w.heap[b]?
theorem Off.refl (S : Nat → Prop) (w : World) : Off S w w := ⟨rfl, rfl, rfl, rfl, fun _ _ => rfl⟩
theorem Off.trans {S : Nat → Prop} {a b c : World} (h : Off S a b) (k : Off S b c) : Off S a c :=
  ⟨k.os.trans h.os, k.tape.trans h.tape, k.output.trans h.output, k.size.trans h.size, fun x hx => (k.block x hx).trans (h.block x hx)⟩
theorem Off.at (S : Nat → Prop) (w : World) (d : Nat) : Off S w (w.at d) := ⟨rfl, rfl, rfl, rfl, fun _ _ => rfl⟩
theorem Off.weaken {S S' : Nat → Prop} {w w' : World} (h : Off S w w') (hs : ∀ b, S b → S' b) : Off S' w w' := ⟨h.os, h.tape, h.output, h.size, fun b hb => h.block b (fun x => hb (hs b x))⟩
theorem Off.of_at {S : Nat → Prop} {w w' : World} (h : AtRel w w') : Off S w w' := by
  obtain ⟨d, rfl⟩ := h
  exact Off.at S w d
theorem Off.of_aside {S : Nat → Prop} {c : Nat} {w w' : World} (h : Aside c w w') (hc : S c) : Off S w w' := ⟨h.os, h.tape, h.output, h.size, fun b hb => h.block b (fun e => hb (e ▸ hc))⟩
theorem Off.setCell {S : Nat → Prop} (w : World) (a : Addr) (v : Value) (h : S a.block) : Off S w (w.setCell a v) := Off.of_aside (aside_setCell w a v) h

/-- a call of Run: H: the first block that it makes; n workers, J jobs; the jobs' slice; the jobs, the answers, what makes them; an answer's zero; the blocks that the jobs' doing writes, and what is known of them behind d jobs -/
structure Ctx where
  H : Nat
  n : Nat
  J : Nat
  cap : Nat
  jb : Nat
  ja : Option Addr
  vals : Nat → Value
  f : Nat → Value
  fn : Value
  zR : Value
  ob : Nat → Prop
  has : Nat → World → Prop

/-- what is asked of it -/
structure OkC (c : Ctx) (Shun : Loc → Prop) : Prop where
  npos : 1 ≤ c.n
  nmax : c.n ≤ 64
  Jmax : c.J ≤ 8192
  ja : 0 < c.J → c.ja = some ⟨c.jb, 0, none⟩
  jbH : 0 < c.J → c.jb < c.H
  obH : ∀ b, c.ob b → b < c.H ∧ (0 < c.J → b ≠ c.jb)
  one : ∀ b, c.ob b → c.n = 1
  hasS : ∀ d w w', c.has d w → Same (fun a => c.ob a.block) w w' → c.has d w'
  hasQ : c.n = 1 ∨ ∀ d w, c.has d w
  f1 : ∀ i, Value.cells (c.f i) = #[c.f i]
  fn1 : Value.cells c.fn = #[c.fn]
  f2 : ∀ i, (c.f i).oneCell' = true
  sh : ∀ a : Addr, c.H ≤ a.block → a.block ≠ c.H + 6 → ¬ Shun (.cell a)
  shj : ∀ a : Addr, 0 < c.J → a.block = c.jb → ¬ Shun (.cell a)
  sho : ∀ a : Addr, c.ob a.block → ¬ Shun (.cell a)

/-- what worker k leans on -/
structure KW (c : Ctx) (k : Nat) (w : World) : Prop where
  jobsv : w.cell? ⟨c.H, 0, none⟩ = some (.slice c.ja c.J c.cap)
  dov : w.cell? ⟨c.H + 1, 0, none⟩ = some c.fn
  desksv : w.cell? ⟨c.H + 3, 0, none⟩ = some (.slice (some ⟨c.H + 2, 0, none⟩) c.n c.n)
  backv : w.cell? ⟨c.H + 5, 0, none⟩ = some (.chan (some (c.H + 4)))
  kv : w.heap[c.H + 7 + 2 * k]? = some (.cells #[.int .i64 k] 3)
  desk : w.cell? ⟨c.H + 2, k, none⟩ = some (.chan (some (c.H + 8 + 2 * k)))
  jobs : ∀ i, i < c.J → w.cell? ⟨c.jb, i, none⟩ = some (c.vals i)
theorem KW.kcell {c : Ctx} {k : Nat} {w : World} (h : KW c k w) : w.cell? ⟨c.H + 7 + 2 * k, 0, none⟩ = some (.int .i64 k) := by
  simp [World.cell?, h.kv]

inductive DepW (c : Ctx) (k : Nat) : Addr → Prop
  | jobsv : DepW c k ⟨c.H, 0, none⟩
  | dov : DepW c k ⟨c.H + 1, 0, none⟩
  | desksv : DepW c k ⟨c.H + 3, 0, none⟩
  | backv : DepW c k ⟨c.H + 5, 0, none⟩
  | kv : DepW c k ⟨c.H + 7 + 2 * k, 0, none⟩
  | desk : DepW c k ⟨c.H + 2, k, none⟩
  | jobs (i : Nat) : i < c.J → DepW c k ⟨c.jb, i, none⟩
theorem DepW.where_ {c : Ctx} {k : Nat} {a : Addr} (h : DepW c k a) : a.block = c.H ∨ a.block = c.H + 1 ∨ a.block = c.H + 3 ∨ a.block = c.H + 5 ∨ a.block = c.H + 7 + 2 * k ∨ (a = ⟨c.H + 2, k, none⟩) ∨ (a.block = c.jb ∧ 0 < c.J) := by
  cases h with
  | jobs i hi => exact .inr (.inr (.inr (.inr (.inr (.inr ⟨rfl, by omega⟩)))))
  | _ => simp

/-- a spot of worker k -/
def spotW (c : Ctx) (k : Nat) (isSend : Bool) (chan : Nat) (v z : Value) (home : Goroutine → Prop) (d : Nat) (mv : World → World → Prop) : Spot :=
  { isSend, chan, v, z, home, K := KW c k, Has := c.has d, Dep := DepW c k, DepB := (· = c.H + 7 + 2 * k), Own := fun a => c.ob a.block, Move := mv, C := c.H + 7 + 2 * k }
/-- at its desk, d jobs done -/
def deskW (c : Ctx) (k d : Nat) (home : Goroutine → Prop) : Spot := spotW c k false (c.H + 8 + 2 * k) undef (.int .i64 0) home d (Off fun _ => False)
/-- at the common channel with job j's answer -/
def backW (c : Ctx) (k j : Nat) (home : Goroutine → Prop) : Spot := spotW c k true (c.H + 4) (.agg #[.int .i64 j, c.f j]) undef home (j + 1) (Off c.ob)

/-- the channels -/
def ChW (c : Ctx) (b : Nat) : Prop := b = c.H + 4 ∨ ∃ j, j < c.n ∧ b = c.H + 8 + 2 * j
/-- what the starter suffers: while it spawns and hands out; while it waits -/
abbrev SR1 (c : Ctx) : World → World → Prop := Off c.ob
def SR2 (c : Ctx) (w w' : World) : Prop := Off (· = c.H + 6) w w' ∧ (WgLive 51 (c.H + 6) w → WgLive 51 (c.H + 6) w')

section
variable {c : Ctx} {Shun : Loc → Prop} {k B : Nat} {w w' : World}
theorem KW.stab (h : KW c k w) (hd : Same (DepW c k) w w') (hb : ∀ b, b = c.H + 7 + 2 * k → w'.heap[b]? = w.heap[b]?) : KW c k w' :=
  ⟨(hd _ .jobsv).1.trans h.jobsv, (hd _ .dov).1.trans h.dov, (hd _ .desksv).1.trans h.desksv, (hd _ .backv).1.trans h.backv, (hb _ rfl).trans h.kv, (hd _ .desk).1.trans h.desk, fun i hi => (hd _ (.jobs i hi)).1.trans (h.jobs i hi)⟩
theorem OkC.ob_dep (hc : OkC c Shun) {a : Addr} (h : DepW c k a) : ¬ c.ob a.block := by
  intro ho
  have := hc.obH _ ho
  rcases h.where_ with e | e | e | e | e | e | ⟨e, hJ⟩
  · omega
  · omega
  · omega
  · omega
  · omega
  · subst e; simp only at this; omega
  · exact this.2 hJ e
theorem KW.off (hc : OkC c Shun) (h : KW c k w) (r : Off c.ob w w') : KW c k w' :=
  h.stab (fun a ha => same_block (r.block _ (hc.ob_dep ha))) (fun b hb => r.block _ (fun ho => by have := (hc.obH _ ho).1; omega))

theorem wfW (hc : OkC c Shun) (hk : k < c.n) {isSend : Bool} {chan : Nat} {v z : Value} {home : Goroutine → Prop} {d : Nat} {mv SR : World → World → Prop} (hch : ChW c chan) (hB : c.H + 8 + 2 * c.n ≤ B) (hmv : ∀ w w', mv w w' → Off c.ob w w') (hSR : ∀ w w', mv w w' → SR w w') :
    (spotW c k isSend chan v z home d mv).Wf 51 (c.H + 6) B (ChW c) SR := by
  refine ⟨hch, ?_, fun a ha => ?_, fun b hb => ?_, fun a ha => ?_, fun w w' h h1 h2 => KW.stab h h1 h2, fun w w' h h1 => hc.hasS d w w' h h1, fun w w' h m => KW.off hc h (hmv _ _ m), fun w w' m b hb => (hmv _ _ m).block b (fun ho => hb ⟨b, 0, none⟩ ho rfl), fun w w' m a ha => same_block ((hmv _ _ m).block _ ha), hSR, rfl⟩
  · show chan < B
    rcases hch with rfl | ⟨j, hj, rfl⟩ <;> omega
  · have ha' : DepW c k a := ha
    constructor
    · rintro (e | ⟨j, hj, e⟩) <;> rcases ha'.where_ with h | h | h | h | h | h | ⟨h, hJ⟩ <;> first | (have := hc.jbH hJ; omega) | (subst h; simp only at e; omega) | omega
    · rcases ha'.where_ with h | h | h | h | h | h | ⟨h, hJ⟩ <;> first | (have := hc.jbH hJ; omega) | (subst h; simp only [ne_eq]; omega) | omega
  · have hb' : b = c.H + 7 + 2 * k := hb
    constructor
    · rintro (e | ⟨j, hj, e⟩) <;> omega
    · omega
  · have ha' : c.ob a.block := ha
    have hH := (hc.obH _ ha').1
    refine ⟨?_, by omega, ?_⟩
    · rintro (e | ⟨j, hj, e⟩) <;> omega
    · show ¬ (a.block = c.H + 7 + 2 * k)
      omega
theorem env1 (c : Ctx) (hB : c.H + 8 + 2 * c.n ≤ B) : Env 51 (c.H + 6) B (ChW c) (SR1 c) :=
  ⟨Off.refl _, Off.at _, fun _ _ _ => Off.trans, by rintro (e | ⟨j, hj, e⟩) <;> omega, by omega⟩
theorem env2 (c : Ctx) (hB : c.H + 8 + 2 * c.n ≤ B) : Env 51 (c.H + 6) B (ChW c) (SR2 c) :=
  ⟨fun w => ⟨Off.refl _ w, id⟩, fun w d => ⟨Off.at _ w d, id⟩, fun _ _ _ h k => ⟨h.1.trans k.1, fun x => k.2 (h.2 x)⟩, by rintro (e | ⟨j, hj, e⟩) <;> omega, by omega⟩
theorem calm2 (c : Ctx) : ∀ w w', Aside (c.H + 6) w w' → WgLive 51 (c.H + 6) w' → SR2 c w w' := fun _ _ h hl => ⟨Off.of_aside h rfl, fun _ => hl⟩
end

/-! ### a worker's walk -/
/-- what is known on the way: its leanings; d jobs are done -/
def FW (c : Ctx) (k d : Nat) (w : World) : Prop := KW c k w ∧ c.has d w
theorem FW.rely {c : Ctx} {Shun : Loc → Prop} (hc : OkC c Shun) {k d : Nat} {b : Bool} {ch dd : Nat} {v z : Value} {h : Goroutine → Prop} {mv : World → World → Prop} {w w₁ : World} (hF : FW c k d w) (r : RP (spotW c k b ch v z h dd mv) w w₁) : FW c k d w₁ :=
  ⟨r.1, hc.hasS d w w₁ hF.2 r.2⟩
theorem dps_none {c : Ctx} {k B : Nat} {b : Bool} {ch d : Nat} {v z : Value} {h : Goroutine → Prop} {S : Nat → Prop} {w : World} {es : Array Event} (he : ∀ e ∈ es, False) : DP (spotW c k b ch v z h d (Off S)) B w w es := ⟨Off.refl S w, fun e h => (he e h).elim⟩
theorem evp_read {c : Ctx} {k B : Nat} {b : Bool} {ch d : Nat} {v z : Value} {h : Goroutine → Prop} {mv : World → World → Prop} (a : Addr) (hd : DepW c k a) (hB : a.block < B) : EvP (spotW c k b ch v z h d mv) B ⟨.cell a, false, false⟩ := ⟨a, false, rfl, hB, .inl ⟨rfl, hd⟩⟩
theorem evp_own {c : Ctx} {k B : Nat} {b : Bool} {ch d : Nat} {v z : Value} {h : Goroutine → Prop} {mv : World → World → Prop} (a : Addr) (wr : Bool) (ho : c.ob a.block) (hB : a.block < B) : EvP (spotW c k b ch v z h d mv) B ⟨.cell a, wr, false⟩ := ⟨a, wr, rfl, hB, .inr ho⟩
theorem depB {c : Ctx} {Shun : Loc → Prop} (hc : OkC c Shun) {k B : Nat} (hk : k < c.n) (hB : c.H + 8 + 2 * c.n ≤ B) : ∀ a, DepW c k a → a.block < B := by
  intro a ha
  rcases ha.where_ with h | h | h | h | h | h | ⟨h, hJ⟩ <;> first | (have := hc.jbH hJ; omega) | (subst h; simp only; omega) | omega
theorem obB {c : Ctx} {Shun : Loc → Prop} (hc : OkC c Shun) {B : Nat} (hB : c.H + 8 + 2 * c.n ≤ B) : ∀ a : Addr, c.ob a.block → a.block < B := fun a ha => by have := (hc.obH _ ha).1; omega

theorem served_at {b : Frame} {a : Act} {ops : Array Oper} {i : Nat} {rest : List Nat} {k : List Item} {cs : List Frame} {v : Value} :
    Go.Conc.served (G (b.at a (.inRegion ops (i :: rest) :: k)) cs) v = G (b.at (a.put ((ops[i]?).bind (·.dst)) v) (.inRegion ops rest :: k)) cs := by
  unfold Go.Conc.served G
  rw [Frame.finish_at]

noncomputable def bot : Frame := { (default : Frame) with fn := Try.prog.funcs.size, defers := [], mode := .panicking [goexitEntry] }
def pt (b : Nat) : Value := .pointer (some ⟨b, 0, none⟩)
theorem mixed : Try.prog.follows .mixedOrders = true := by kernel_rfl
/-- the deferred Done -/
def dd (c : Ctx) : List Deferred := [dcall 17 #[pt (c.H + 6)]]

/-- worker k's slots: who it is; the job at hand (t6); its desk (t10); whatever -/
def TW (c : Ctx) (k : Nat) (t6 t7 t8 t9 t11 t12 t13 t14 t15 t16 t17 t18 t19 t20 t21 t22 : Value) : Array Value :=
  #[pt (c.H + 6), pt (c.H + 3), pt (c.H + 7 + 2 * k), pt (c.H + 5), pt (c.H + 1), pt c.H, t6, t7, t8, t9, .chan (some (c.H + 8 + 2 * k)), t11, t12, t13, t14, t15, t16, t17, t18, t19, t20, t21, t22]

/-- WHAT THE DOING OF A JOB IS, as the worker calls it: from the call to behind it, on the way to the common channel: e steps -/
def Does (c : Ctx) (B e : Nat) : Prop :=
  ∀ (k j : Nat) (home : Goroutine → Prop) (b : Frame) (a : Act) (ops : Array Oper) (i : Nat) (rest : List Nat) (o : Oper) (x y : Operand) (ats : Array TypeId) (k₀ : List Item) (cs : List Frame) (m' : Nat), k < c.n → j < c.J →
    ops[i]? = some o → Region.wanted o (yielded ops a.tmps) = true → b.kind ≠ .early → o.op = .call { callee := .value x, args := #[y], argTypes := ats } → a.eval x = c.fn → a.eval y = c.vals j →
    ∀ w, FW c k j w → (∀ w', FW c k (j + 1) w' → GoesTo Try.prog B (backW c k j home) m' (G (b.at (a.put o.dst (c.f j)) (.inRegion ops rest :: k₀)) cs) w') → GoesTo Try.prog B (backW c k j home) (m' + e) (G (b.at a (.inRegion ops (i :: rest) :: k₀)) cs) w

theorem okl_len {md : Region.Mode} {ops : Array Oper} : ∀ (l : List Nat) (L : Array Bool), L.size = ops.size → Okl md ops L l → l.length ≤ L.toList.count false
  | [], _, _, _ => by simp
  | i :: l, L, hs, ⟨hm, hl⟩ => by
    obtain ⟨h1, o, ho, _⟩ := mem_ready.1 hm
    have hlt : i < L.size := by rw [hs]; exact (Array.getElem?_eq_some_iff.1 ho).1
    have h2 : L[i]? = some false := by
      rw [Array.getD_eq_getD_getElem?, Array.getElem?_eq_getElem hlt, Option.getD_some] at h1
      rw [Array.getElem?_eq_getElem hlt, h1]
    have := count_set h2
    have ih := okl_len l (L.setIfInBounds i true) (by simpa using hs) hl
    simp only [List.length_cons]
    omega
theorem okl_len0 {md : Region.Mode} {ops : Array Oper} {l : List Nat} (h : Okl md ops (Array.replicate ops.size false) l) : l.length ≤ ops.size := by
  have := okl_len l _ (by simp) h
  simpa using this
theorem len_one (e : Nat) (i : Nat) (l : List Nat) : l.length * (e + 1) + 1 ≤ (i :: l).length * (e + 1) := by
  simp only [List.length_cons, Nat.succ_mul]; omega
theorem len_call (e : Nat) (i : Nat) (l : List Nat) : l.length * (e + 1) + e ≤ (i :: l).length * (e + 1) := by
  simp only [List.length_cons, Nat.succ_mul]; omega
end Go.Proofs.Ytngnkdedfcnfkaa
