/-
  Lists that came in; appends of whatever source; what a list holds as a function of its place.
-/
import Derived.Test.YtblckohcjfoalaaDisD
import Derived.Laws.AppendOwnNone
namespace Go.Proofs.Ytblckohcjfoalaa
open Go.RowKit

/-- what the walk is told of a list of whole numbers that came in -/
def IsRow (k : IntKind) (w : World) (a : Option Addr) (len cap : Nat) (zs : List Int) : Prop :=
  (a = none ∧ len = 0 ∧ cap = 0 ∧ zs = []) ∨
  ∃ x, a = some x ∧ len ≤ cap ∧ cap ≤ maxLen ∧ zs.length = cap ∧ (∀ i, i < zs.length → w.cell? (x.add i) = some (.int k (zs.getD i 0))) ∧ ∀ n ∈ zs, (Lit.int k n).wf = true

/-- what the walk is told of a list of texts that came in -/
def IsStrs (w : World) (a : Option Addr) (len cap : Nat) (ss : List ByteArray) : Prop :=
  (a = none ∧ len = 0 ∧ cap = 0 ∧ ss = []) ∨
  ∃ x, a = some x ∧ len ≤ cap ∧ cap ≤ maxLen ∧ ss.length = cap ∧ (∀ i, i < ss.length → w.cell? (x.add i) = some (.string (ss.getD i ByteArray.empty))) ∧ ∀ s ∈ ss, s.size ≤ maxLen

/-- a source of an append: nil, or cells that lie there -/
def Src (w : World) (a : Option Addr) (n cap : Nat) (cs : List Value) : Prop :=
  cs.length = n ∧ (a = none → n = 0 ∧ cap = 0) ∧ (∀ ad, a = some ad → ∀ j u, cs[j]? = some u → w.cell? (ad.add j) = some u) ∧ ∀ u ∈ cs, u.oneCell' = true

theorem IsStrs.src {w : World} {a : Option Addr} {len cap : Nat} {ss : List ByteArray} (h : IsStrs w a len cap ss) : Src w a len cap ((ss.take len).map .string) := by
  rcases h with ⟨rfl, rfl, rfl, rfl⟩ | ⟨x, rfl, h1, h2, h3, h4, h5⟩
  · exact ⟨rfl, fun _ => ⟨rfl, rfl⟩, (fun _ h => by cases h), (fun _ h => by simp at h)⟩
  · refine ⟨by simp; omega, (fun h => by cases h), ?_, ?_⟩
    · intro ad had j u hu
      obtain rfl := Option.some.inj had
      rw [List.getElem?_map, List.getElem?_take] at hu
      split at hu
      · rename_i hj
        have hj2 : j < ss.length := by omega
        rw [h4 j hj2]
        rw [List.getElem?_eq_getElem hj2] at hu
        simp at hu
        subst hu
        simp [List.getD, hj2]
      · simp at hu
    · intro u hu
      obtain ⟨s, _, rfl⟩ := List.mem_map.1 hu
      rfl

theorem Src.below {B : Nat} {w w' : World} {a : Option Addr} {n cap : Nat} {cs : List Value} (h : Src w a n cap cs) (hB : w.heap.size ≤ B) (hb : Below B w w') : Src w' a n cap cs :=
  ⟨h.1, h.2.1, fun ad had j u hu => cell_later (hb.mono hB) (h.2.2.1 ad had j u hu), h.2.2.2⟩

/-- append of whatever source onto a row of the call's own that is not nil -/
theorem wpList_append_src {P : Program} (w : World) {ops : Array Oper} {rest : List Oper} {o : Oper} {a : Act} {Q : Exit → Act → World → Prop} (hgd : o.guard = none) (s x : Operand) (t : TypeId)
    (ho : o.op = .call { callee := .builtin .append, args := #[s, x], argTypes := #[t, t] })
    (base : Nat) (e : TypeId) (i : TypeInfo) (z : Value) (bytes : Nat) (ht : P.underlying t = some (.slice e)) (hi : P.info? e = some i) (hz : i.zero = some z)
    (hsize : i.size = 1) (hby : i.bytes = bytes) (hzs : z.cells.size = 1)
    (g : Nat) (n c : Nat) (xs : List Value) (hs : a.eval s = .slice (some ⟨g, 0, none⟩) n c) (hown : w.ownsRow base e 1 (.slice (some ⟨g, 0, none⟩) n c) n xs)
    (ao : Option Addr) (m mc : Nat) (news : List Value) (hx : a.eval x = .slice ao m mc) (hsrc : Src w ao m mc news)
    (h63 : n + m ≤ maxLen) (hbytes : (n + m) * bytes ≤ 140737488355328) (hbase : base ≤ w.heap.size)
    (h : ∀ g' c' w', w'.ownsRow base e 1 (.slice (some ⟨g', 0, none⟩) (n + m) c') (n + m) (xs ++ news) → Below base w w' → wpList P ops Q rest (a.put o.dst (.slice (some ⟨g', 0, none⟩) (n + m) c')) w') : wpList P ops Q (o :: rest) a w := by
  cases ao with
  | none =>
    obtain ⟨rfl, rfl⟩ := hsrc.2.1 rfl
    obtain rfl : news = [] := List.eq_nil_of_length_eq_zero hsrc.1
    refine wpList_append_own_none hgd s x t ho base e i 1 ht hi _ n xs hs hown hx ?_
    exact h g c w (by simpa using hown) (Below.refl _ _)
  | some ad =>
    refine wpList_append_own w hgd s x t ho base e i z 1 bytes ht hi hz hsize hby hzs (by decide) _ n xs hs hown ad m mc news hx (by rw [hsrc.1, Nat.mul_one]) (hsrc.2.2.1 ad rfl) hsrc.2.2.2 h63 hbytes hbase ?_
    intro v' w' hown' hgrow hnil
    have hb : Below base w w' := (Below.refl base w).grown hgrow hbase (fun q hq => (hown.lt q hq).1)
    rcases hown'.2 with ⟨h0, _⟩ | ⟨g', c', cur, rfl, _⟩
    · have := (hnil.1 h0).1; simp at this
    · exact h g' c' w' hown' hb


/-- the values of a function, in a list -/
def vals (n : Nat) (f : Nat → Value) : List Value := (List.range n).map f

theorem vals_len (n : Nat) (f : Nat → Value) : (vals n f).length = n := by simp [vals]
theorem vals_at {n : Nat} {f : Nat → Value} {j : Nat} (h : j < n) : (vals n f)[j]? = some (f j) := by simp [vals, h]
theorem vals_succ (n : Nat) (f : Nat → Value) : vals (n + 1) f = vals n f ++ [f n] := by simp [vals, List.range_succ]
theorem vals_int_one (n : Nat) (f : Nat → Int) : ∀ u ∈ vals n (fun j => .int .i64 (f j)), u.oneCell' = true := by
  intro u hu
  obtain ⟨j, _, rfl⟩ := List.mem_map.1 hu
  rfl

theorem IsRow.rd {w : World} {a : Option Addr} {len cap : Nat} {zs : List Int} (h : IsRow .i64 w a len cap zs) : Rd w a len (fun j => zs.getD j 0) := by
  rcases h with ⟨rfl, rfl, rfl, rfl⟩ | ⟨x, rfl, h1, h2, h3, h4, h5⟩
  · exact ⟨fun _ => rfl, (fun x hx => by cases hx)⟩
  · refine ⟨(fun h => by cases h), fun y hy j hj => ?_⟩
    obtain rfl := Option.some.inj hy
    exact h4 j (by omega)

theorem IsRow.src {w : World} {a : Option Addr} {len cap : Nat} {zs : List Int} (h : IsRow .i64 w a len cap zs) : Src w a len cap (vals len (fun j => .int .i64 (zs.getD j 0))) := by
  have hr := h.rd
  refine ⟨vals_len _ _, fun ha => ?_, fun ad had j u hu => ?_, vals_int_one _ _⟩
  · rcases h with ⟨_, h1, h2, _⟩ | ⟨x, h0, _⟩
    · exact ⟨h1, h2⟩
    · rw [ha] at h0; cases h0
  · have hj : j < len := by
      rcases Nat.lt_or_ge j len with h1 | h1
      · exact h1
      · rw [List.getElem?_eq_none (by rw [vals_len]; exact h1)] at hu; cases hu
    rw [vals_at hj] at hu
    rw [← hu]
    exact hr.2 ad had j hj

/-- a row of one's own, as a function -/
theorem own_fun {w : World} {base : Nat} {E : TypeId} {g c n : Nat} {f : Nat → Value} (h : w.ownsRow base E 1 (.slice (some ⟨g, 0, none⟩) n c) n (vals n f)) : base ≤ g ∧ g < w.heap.size ∧ Fun w g E n f := by
  rcases h.2 with ⟨h0, _⟩ | ⟨g', c', cur, h0, h1, h2, h3, h4, h5, h6⟩
  · simp at h0
  · simp at h0
    obtain ⟨rfl, rfl⟩ := h0
    refine ⟨h1, (Array.getElem?_eq_some_iff.1 h2).1, cur, h2, by omega, fun j hj => ?_⟩
    have h7 : (cur.toList.take (n * 1))[j]? = some (f j) := by rw [h6]; exact vals_at hj
    rw [Nat.mul_one, List.getElem?_take_of_lt hj] at h7
    simpa using h7

end Go.Proofs.Ytblckohcjfoalaa
