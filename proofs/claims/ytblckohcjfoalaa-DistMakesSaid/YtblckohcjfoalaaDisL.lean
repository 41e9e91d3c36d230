/-
  The contract of made: a table of numbers with weights.
-/
import Derived.Test.YtblckohcjfoalaaDisNI
namespace Go.Proofs.Ytblckohcjfoalaa
open Go.RowKit

theorem addr_add0 (g j : Nat) : (⟨g, 0, none⟩ : Addr).add j = ⟨g, j, none⟩ := by simp [Addr.add]; intro h; omega

theorem Fun.src {w : World} {g n : Nat} {f : Nat → Int} (c : Nat) (h : Fun w g 3 n (fun j => .int .i64 (f j))) : Src w (some ⟨g, 0, none⟩) n c (vals n (fun j => .int .i64 (f j))) := by
  refine ⟨vals_len _ _, (fun h => by cases h), fun ad had j u hu => ?_, vals_int_one _ _⟩
  obtain rfl := Option.some.inj had
  have hj : j < n := by
    rcases Nat.lt_or_ge j n with h1 | h1
    · exact h1
    · rw [List.getElem?_eq_none (by rw [vals_len]; exact h1)] at hu; cases hu
  rw [vals_at hj] at hu
  rw [← hu, addr_add0]
  exact h.cell j hj

theorem Fun.rd {w : World} {g n : Nat} {f : Nat → Int} (h : Fun w g 3 n (fun j => .int .i64 (f j))) : Rd w (some ⟨g, 0, none⟩) n f := by
  refine ⟨(fun h => by cases h), fun x hx j hj => ?_⟩
  obtain rfl := Option.some.inj hx
  rw [addr_add0]
  exact h.cell j hj

theorem Rd.below {w w' : World} {a : Option Addr} {n : Nat} {f : Nat → Int} (h : Rd w a n f) (hb : Below w.heap.size w w') : Rd w' a n f :=
  ⟨h.1, fun x hx j hj => cell_later hb (h.2 x hx j hj)⟩

/-- what made answers -/
def MadeAns (w w' : World) (e : Ending) (n : Nat) (f : Nat → Int) : Prop :=
  ∃ b bi be bs ci ce r sl, e = .returned (.pointer (some ⟨b, 0, none⟩)) ∧ Tab 53 3 w w' (.pointer (some ⟨b, 0, none⟩)) n (fun j => .int .i64 (3 * (j : Int))) f b bi be bs ci ce r sl ∧ Below w.heap.size w w'

theorem Tab.earlier {T E : TypeId} {w w1 w' : World} {p : Value} {n : Nat} {it : Nat → Value} {f r sl : Nat → Int} {b bi be bs ci ce : Nat} (h : Tab T E w1 w' p n it f b bi be bs ci ce r sl) (hs : w.heap.size ≤ w1.heap.size) :
    Tab T E w w' p n it f b bi be bs ci ce r sl :=
  ⟨h.ptr, h.tab, h.acc, ⟨Nat.le_trans hs h.lb.1, h.lb.2⟩, ⟨Nat.le_trans hs h.li.1, h.li.2⟩, ⟨Nat.le_trans hs h.le.1, h.le.2⟩, ⟨Nat.le_trans hs h.ls.1, h.ls.2⟩⟩

set_option maxHeartbeats 1000000 in
theorem made_good (a : Option Addr) (n cap : Nat) (f : Nat → Int) (w : World) (h : Src w a n cap (vals n (fun j => .int .i64 (f j)))) (g : Good n f) :
    Calls Try.prog 11 #[.slice a n cap] w fun e w' => MadeAns w w' e n f := by
  have HS := Lib.hid h
  have HG := Lib.hid g
  have g1 := g.pos
  have g2 := g.few
  clear h g
  have hmk := run_makeFull (P := Try.prog) Try.underlying22 Try.info3 rfl (n : Int) (by omega) (by omega) (by omega)
  obtain ⟨i0, hi, hz0, hz1, hz2⟩ := info_parts Try.info3
  go_enter Try.func11, Try.ntmps11
  go_wp2
  have HF0 : Hid (Fun (w.alloc (.cells (madeCells #[.int .i64 0] n) 3)) w.heap.size 3 n (fun j => .int .i64 (if j < 0 then 3 * (j : Int) else 0)) ∧ Below w.heap.size w (w.alloc (.cells (madeCells #[.int .i64 0] n) 3))) := by
    refine Lib.hid ⟨⟨madeCells #[.int .i64 0] n, heap_alloc_new w _, by simp [size_madeCells], fun j hj => ?_⟩, (Below.refl _ w).alloc (Nat.le_refl _) _⟩
    rw [← Array.getElem?_toList, toList_madeCells_one, List.getElem?_replicate, if_pos hj]
    rfl
  go_loopw [12] (fun i wr => ∃ k : Nat, k ≤ n ∧ i = .int .i64 k ∧ Hid (Fun wr w.heap.size 3 n (fun j => .int .i64 (if j < k then 3 * (j : Int) else 0)) ∧ Below w.heap.size w wr)) (fun i _ => n - (intOf i).toNat)
  case atStart => exact ⟨0, Nat.zero_le _, rfl, HF0⟩
  case round =>
    obtain ⟨k, hk, rfl, HK⟩ := hrel
    by_cases hkn : k < n
    · have ck := HK.out.1.cell k hkn
      have fk := HK.out.1.free k
      have HK2 : Hid (Fun (wr.setCell ⟨w.heap.size, k, none⟩ (.int .i64 (3 * (k : Int)))) w.heap.size 3 n (fun j => .int .i64 (if j < k + 1 then 3 * (j : Int) else 0)) ∧ Below w.heap.size w (wr.setCell ⟨w.heap.size, k, none⟩ (.int .i64 (3 * (k : Int))))) := by
        refine Lib.hid ⟨HK.out.1.stored hkn ?_ (fun j _ hj => ?_), HK.out.2.setCell (Nat.le_refl _) _⟩
        · simp
        · by_cases h1 : j < k
          · rw [if_pos h1, if_pos (by omega)]
          · rw [if_neg h1, if_neg (by omega)]
      go_wp2
      go_roundw
      case rel => exact ⟨k + 1, by omega, by go_num, HK2⟩
      case measure => simp [intOf]; omega
    · have hkn2 : k = n := by omega
      subst hkn2
      have HF : Hid (Fun wr w.heap.size 3 k (fun j => .int .i64 (3 * (j : Int)))) := by
        obtain ⟨cs, h1, h2, h3⟩ := HK.out.1
        exact Lib.hid ⟨cs, h1, h2, fun j hj => by rw [h3 j hj]; simp [hj]⟩
      have hsz : w.heap.size < wr.heap.size := by
        obtain ⟨cs, h1, _, _⟩ := HF.out
        exact (Array.getElem?_eq_some_iff.1 h1).1
      have HS2 : Hid (Src wr a k cap (vals k (fun j => .int .i64 (f j)))) := Lib.hid (HS.out.below (Nat.le_refl _) HK.out.2)
      go_wp2_with (first
       | (at_builtin; go_loud (refine wpList_append_src _ rfl _ _ 22 rfl wr.heap.size 3 i0 (.int .i64 0) _ Try.underlying22 hi hz0 hz1 hz2 rfl wr.heap.size 0 0 [] rfl (World.ownsRow_made wr #[] 0 (Nat.le_refl _) (Nat.zero_le _) rfl) a k cap _ rfl (HS2.out.below (Nat.le_refl _) ((Below.refl _ _).alloc (Nat.le_refl _) _)) (by unfold maxLen; omega) (by omega) (by simp) ?_; intro g1 c1 w1 hown' hb1; have HB := Lib.hid (((Below.refl wr.heap.size wr).alloc (Nat.le_refl _) _).trans hb1); have HO : Hid (w1.ownsRow wr.heap.size 3 1 (.slice (some ⟨g1, 0, none⟩) k c1) k (vals k (fun j => .int .i64 (f j)))) := Lib.hid (by simpa using hown'); clear hown' hb1))
       | (go_at_call 16; go_loud (refine (new_I _ _ k k k _ (fun j => .int .i64 (3 * (j : Int))) f _ (by omega) (by omega) (Fun.src _ (HF.out.below HB.out hsz)) (own_fun HO.out).2.2.rd).mono ?_; rintro e w2 ⟨hans, hb1⟩; obtain ⟨b, bi, be, bs, ci, ce, r, sl, rfl, ht⟩ := hans.2 (good_verdict HG.out); have HT := Lib.hid ht; have HB2 := Lib.hid hb1; clear hans ht hb1)))
      go_ret
      have hsz2 := HB.out.size
      refine ⟨b, bi, be, bs, ci, ce, r, sl, rfl, HT.out.earlier (by omega), ?_⟩
      exact (HK.out.2.trans (HB.out.mono (by omega))).trans (HB2.out.mono (by omega))

end Go.Proofs.Ytblckohcjfoalaa
