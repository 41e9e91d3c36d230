/-
  A drawn region in company, as a list that is a linear extension of its edges ('Okl'); the call of a function's value.
-/
import Derived.Test.YtngnkdedfcnfkaaPoW
import Derived.Conc.WgWords
import Derived.Conc.CompanyDraw
namespace Go.Proofs.Ytngnkdedfcnfkaa
open Go Go.Conc

/-- l is an order in which the operations that are still to come may come up -/
def Okl (md : Region.Mode) (ops : Array Oper) : Array Bool → List Nat → Prop
  | L, [] => Region.ready md ops L = []
  | L, i :: l => i ∈ Region.ready md ops L ∧ Okl md ops (L.setIfInBounds i true) l

theorem count_set {L : Array Bool} {i : Nat} (h : L[i]? = some false) : (L.setIfInBounds i true).toList.count false + 1 = L.toList.count false := by
  obtain ⟨l⟩ := L
  simp only [List.getElem?_toArray] at h
  rw [List.setIfInBounds_toArray]
  simp only
  induction l generalizing i with
  | nil => simp at h
  | cons x l ih =>
    cases i with
    | zero =>
      simp only [List.getElem?_cons_zero, Option.some.injEq] at h
      subst h
      simp
    | succ i =>
      simp only [List.getElem?_cons_succ] at h
      simp only [List.set_cons_succ, List.count_cons]
      have := ih h
      omega

theorem ready_nil_of {md : Region.Mode} {ops : Array Oper} {L : Array Bool} (h : L.toList.count false = 0) (hs : L.size = ops.size) : Region.ready md ops L = [] := by
  rw [List.eq_nil_iff_forall_not_mem]
  intro i hi
  obtain ⟨h1, o, ho, _⟩ := mem_ready.1 hi
  have hlt : i < L.size := by rw [hs]; exact (Array.getElem?_eq_some_iff.1 ho).1
  rw [Array.getD_eq_getD_getElem?, Array.getElem?_eq_getElem hlt, Option.getD_some] at h1
  have : false ∈ L.toList := by rw [← h1]; exact Array.getElem_mem_toList hlt
  exact absurd (List.count_eq_zero.1 h) (by simpa using this)

theorem okl_go (md : Region.Mode) (ops : Array Oper) : ∀ (fuel t : Nat) (L : Array Bool), L.size = ops.size → L.toList.count false ≤ fuel → Okl md ops L (Region.linearise.go md ops fuel t L [])
  | 0, t, L, hs, hc => by
    simp only [Region.linearise.go, List.reverse_nil]
    exact ready_nil_of (by omega) hs
  | fuel + 1, t, L, hs, hc => by
    simp only [Region.linearise.go]
    change Okl md ops L (match (Region.ready md ops L)[t % (Region.ready md ops L).length]? with
      | some i => Region.linearise.go md ops fuel (t / (Region.ready md ops L).length) (L.setIfInBounds i true) [i]
      | none => [].reverse)
    cases hi : (Region.ready md ops L)[t % (Region.ready md ops L).length]? with
    | none =>
      have hnil : Region.ready md ops L = [] := by
        cases hr : Region.ready md ops L with
        | nil => rfl
        | cons x xs =>
          rw [hr] at hi
          have hlt : t % (x :: xs).length < (x :: xs).length := Nat.mod_lt _ (by simp)
          rw [List.getElem?_eq_getElem hlt] at hi
          cases hi
      exact hnil
    | some i =>
      simp only []
      rw [linearise_go_acc, List.reverse_singleton, List.singleton_append]
      have hm := List.mem_of_getElem? hi
      obtain ⟨h1, o, ho, _⟩ := mem_ready.1 hm
      have hlt : i < L.size := by rw [hs]; exact (Array.getElem?_eq_some_iff.1 ho).1
      have h2 : L[i]? = some false := by
        rw [Array.getD_eq_getD_getElem?, Array.getElem?_eq_getElem hlt, Option.getD_some] at h1
        rw [Array.getElem?_eq_getElem hlt, h1]
      have := count_set h2
      exact ⟨hm, okl_go md ops fuel _ _ (by simpa using hs) (by omega)⟩

theorem okl_schedule {P : Program} (hm : P.follows .mixedOrders = true) (ops : Array Oper) (t : Nat) : Okl .any ops (Array.replicate ops.size false) (Region.schedule (P.follows .mixedOrders) ops t) := by
  simp only [Region.schedule, hm, Bool.true_or, if_true]
  refine okl_go .any ops ops.size t _ (by simp) ?_
  simp

section
variable {P : Program} {main : Bool} {b : Frame} {a : Act} {k : List Item} {cs : List Frame} {w : World}
/-- the call of a function's value that captures nothing -/
theorem goes_callv {ops : Array Oper} {i : Nat} {rest : List Nat} {o : Oper} {K : Goroutine → World → Array Event → Prop} {x : Operand} {f : FuncId} {fn : Func} {c : Code} {args : Array Operand} {ats : Array TypeId}
    (ho : ops[i]? = some o) (hw : Region.wanted o (yielded ops a.tmps) = true) (hk : b.kind ≠ .early) (hop : o.op = .call { callee := .value x, args, argTypes := ats }) (hx : a.eval x = .func (.func f) #[] #[])
    (hf : P.funcs[f]? = some fn) (hname : (fn.name == "runtime.NumGoroutine") = false) (hb : fn.body = some c)
    (h : K (G ((base f).at { tmps := args.map a.eval ++ Array.replicate (fn.ntmps - (args.map a.eval).size) undef, defers := [] } [.code c]) (b.at a (.inRegion ops (i :: rest) :: k) :: cs)) w #[]) :
    (stepG P main (G (b.at a (.inRegion ops (i :: rest) :: k)) cs) w).goes K := by
  have h1 : ¬ fn.name = "runtime.NumGoroutine" := by simpa using hname
  have h2 : ¬ fn.body = none := by rw [hb]; simp
  have hr : (execOp a.eval o).run P w = .ok (.enter f (args.map a.eval)) w := by
    unfold execOp
    simp [hop, resolve, Deferred.ofValue, invoke, callFunc, hf, h1, h2, hx]
  have he : (execOp a.eval o).events P w #[] = #[] := by
    unfold execOp
    simp [hop, resolve, Deferred.ofValue, invoke, callFunc, hf, h1, h2, hx]
  rw [stepG_enter ho hw hk hr, enter_at _ hf hb]
  have : listed P b.fn a o w = #[] := by unfold listed; rw [he]; exact seen_none P _
  rw [this]
  exact h
end
end Go.Proofs.Ytngnkdedfcnfkaa
