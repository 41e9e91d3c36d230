/-
  The contract of Levels at integer samples.
-/
import Derived.Test.YtellbcgibeglbaaImgL
namespace Go.Proofs.Ytellbcgibeglbaa
open Go.RowKit

/-- sides and samples of the next level -/
def nextD (d : Nat × Nat × List Int) : Nat × Nat × List Int :=
  ((d.1 + 1) / 2, (d.2.1 + 1) / 2, foldL d.1 d.2.1 ((d.1 + 1) / 2) ((d.2.1 + 1) / 2) d.2.2)
/-- the k-th level -/
def levD (d : Nat × Nat × List Int) : Nat → Nat × Nat × List Int
  | 0 => d
  | k + 1 => nextD (levD d k)

structure GoodD (d : Nat × Nat × List Int) : Prop where
  w1 : 1 ≤ d.1
  w2 : d.1 ≤ 12
  h1 : 1 ≤ d.2.1
  h2 : d.2.1 ≤ 12
  len : d.2.2.length = d.1 * d.2.1
  bd : ∀ j, -1009 < d.2.2.getD j 0 ∧ d.2.2.getD j 0 < 1009

theorem foldL_bd (W H V U : Nat) (ps : List Int) (j : Nat) : -1009 < (foldL W H V U ps).getD j 0 ∧ (foldL W H V U ps).getD j 0 < 1009 := by
  by_cases h : j < V * U
  · have e : (foldL W H V U ps).getD j 0 = foldPx W H ps (j % V) (j / V) := by simp [foldL, List.getD, h]
    rw [e]
    exact joinZ_bd _ _ _ _
  · have e : (foldL W H V U ps).getD j 0 = 0 := by
      unfold List.getD
      rw [List.getElem?_eq_none (by rw [foldL_len]; omega)]
      rfl
    rw [e]; omega

theorem GoodD.next {d : Nat × Nat × List Int} (h : GoodD d) : GoodD (nextD d) := by
  have a := h.w1
  have b := h.w2
  have c := h.h1
  have e := h.h2
  refine ⟨?_, ?_, ?_, ?_, ?_, ?_⟩ <;> simp only [nextD]
  · omega
  · omega
  · omega
  · omega
  · exact foldL_len _ _ _ _ _
  · exact foldL_bd _ _ _ _ _

theorem GoodD.lev {d : Nat × Nat × List Int} (h : GoodD d) : ∀ k, GoodD (levD d k)
  | 0 => h
  | k + 1 => (h.lev k).next

/-- one sample -/
def OneD (d : Nat × Nat × List Int) : Prop := d.1 = 1 ∧ d.2.1 = 1

/-- an image of these sides and samples -/
def ImgAt (w : World) (p : Nat × Nat) (d : Nat × Nat × List Int) : Prop := IsImg w 3 66 p.1 p.2 d.1 d.2.1 (d.1 * d.2.1) (d.2.2.map (Value.int .i64))

def ptrV (p : Nat × Nat) : Value := .pointer (some ⟨p.1, 0, none⟩)

theorem ImgAt.below {w w' : World} {p : Nat × Nat} {d : Nat × Nat × List Int} (h : ImgAt w p d) (hb : Below w.heap.size w w') : ImgAt w' p d :=
  IsImg.below h hb (lt_of_block h.head) (lt_of_block h.row)

theorem below_grown {w w' : World} (h : Below w.heap.size w w') : w.grownBy w' none :=
  ⟨h.os, h.tape, h.output, h.size, fun k hk _ => h.block k hk⟩

theorem ImgAt.grown {w w' : World} {p : Nat × Nat} {d : Nat × Nat × List Int} {base n : Nat} {v : Value} {xs : List Value} (h : ImgAt w p d) (hown : w.ownsRow base 25 1 v n xs) (hg : w.grownBy w' v.ownBlock) : ImgAt w' p d := by
  have key : ∀ k cs t, t ≠ 25 → w.heap[k]? = some (.cells cs t (0, 0)) → some k ≠ v.ownBlock := by
    intro k cs t ht hk e
    rcases hown.2 with ⟨rfl, _⟩ | ⟨q, c, cur, rfl, _, hq, _⟩
    · simp [Value.ownBlock] at e
    · simp [Value.ownBlock] at e
      subst e
      rw [hq] at hk
      simp at hk
      exact ht hk.2.symm
  exact ⟨by rw [hg.block _ (lt_of_block h.head) (key _ _ _ (by decide) h.head)]; exact h.head, by rw [hg.block _ (lt_of_block h.row) (key _ _ _ (by decide) h.row)]; exact h.row, h.len⟩

structure LevAt (w0 wr : World) (d : Nat × Nat × List Int) (k : Nat) (bs : List (Nat × Nat)) (v : Value) : Prop where
  len : bs.length = k + 1
  own : wr.ownsRow w0.heap.size 25 1 v (k + 1) (bs.map ptrV)
  imgs : ∀ i, i ≤ k → ImgAt wr (bs.getD i (0, 0)) (levD d i)
  more : ∀ i, i < k → ¬ OneD (levD d i)
  below : Below w0.heap.size w0 wr

theorem LevAt.step {w0 wr w1 w2 : World} {d : Nat × Nat × List Int} {k : Nat} {bs : List (Nat × Nat)} {v v' : Value} {p : Nat × Nat} {o : Obj} (h : LevAt w0 wr d k bs v) (hno : ¬ OneD (levD d k))
    (hb1 : Below wr.heap.size wr w1) (himg : ImgAt w1 p (levD d (k + 1)))
    (hown' : w2.ownsRow w0.heap.size 25 1 v' (k + 1 + 1) (bs.map ptrV ++ [ptrV p])) (hg : (w1.alloc o).grownBy w2 v.ownBlock) : LevAt w0 w2 d (k + 1) (bs ++ [p]) v' := by
  have hown1 : (w1.alloc o).ownsRow w0.heap.size 25 1 v (k + 1) (bs.map ptrV) := (h.own.kept (below_grown hb1) (by cases hv : v.ownBlock <;> simp)).alloc o
  have hal : Below w1.heap.size w1 (w1.alloc o) := (Below.refl _ _).alloc (Nat.le_refl _) _
  have hlt := h.own.lt
  refine ⟨by rw [List.length_append, h.len]; rfl, by rw [List.map_append]; exact hown', fun i hi => ?_, fun i hi => ?_, ?_⟩
  · by_cases e : i = k + 1
    · subst e
      have e2 : (bs ++ [p]).getD (k + 1) (0, 0) = p := by simp [List.getD, h.len]
      rw [e2]
      exact (himg.below hal).grown hown1 hg
    · have e2 : (bs ++ [p]).getD i (0, 0) = bs.getD i (0, 0) := by simp [List.getD, List.getElem?_append_left (show i < bs.length by rw [h.len]; omega)]
      rw [e2]
      exact (((h.imgs i (by omega)).below hb1).below hal).grown hown1 hg
  · by_cases e : i = k
    · subst e; exact hno
    · exact h.more i (by omega)
  · have b1 : Below w0.heap.size w0 (w1.alloc o) := (h.below.trans (hb1.mono h.below.size)).alloc (h.below.trans (hb1.mono h.below.size)).size o
    exact b1.grown hg b1.size (fun q hq => (hlt q hq).1)

theorem Try.info25 : (Try.prog.info? 25).map (fun i => (i.zero, i.size, i.bytes)) = some (some (.pointer none), 1, 8) := by kernel_rfl

theorem lev_four {d : Nat × Nat × List Int} (hd : GoodD d) : OneD (levD d 4) := by
  have a := hd.w1
  have b := hd.w2
  have c := hd.h1
  have e := hd.h2
  constructor <;> simp only [levD, nextD] <;> omega

theorem lev_lt {d : Nat × Nat × List Int} (hd : GoodD d) {k : Nat} (hm : ∀ i, i < k → ¬ OneD (levD d i)) (h : ¬ OneD (levD d k)) : k < 4 := by
  rcases Nat.lt_trichotomy k 4 with h4 | h4 | h4
  · exact h4
  · subst h4; exact absurd (lev_four hd) h
  · exact absurd (lev_four hd) (hm 4 h4)

/-- a list's length, off its value -/
def lenOf : Value → Nat | .slice _ n _ => n | _ => 0

theorem LevAt.lenOf {w0 wr : World} {d : Nat × Nat × List Int} {k : Nat} {bs : List (Nat × Nat)} {v : Value} (h : LevAt w0 wr d k bs v) : ∃ g c, v = .slice (some ⟨g, 0, none⟩) (k + 1) c := by
  rcases h.own.2 with ⟨_, h0⟩ | ⟨g, c, cur, hv, _⟩
  · omega
  · exact ⟨g, c, hv⟩

theorem fold_lev (d : Nat × Nat × List Int) (hd : GoodD d) (p : Nat × Nat) (w : World) (himg : ImgAt w p d) :
    Calls Try.prog 36 #[.pointer (some ⟨p.1, 0, none⟩), .func (.func 22) #[] #[]] w fun e w' =>
      e = .returned (.pointer (some ⟨w.heap.size + 1, 0, none⟩)) ∧ Hid (ImgAt w' (w.heap.size + 1, w.heap.size) (nextD d)) ∧ Hid (Below w.heap.size w w') := by
  have hl := himg.len
  refine (fold_any d.1 d.2.1 ((d.1 + 1) / 2) ((d.2.1 + 1) / 2) p.1 p.2 (d.1 * d.2.1) d.2.2 w hd.w1 hd.w2 hd.h1 hd.h2 rfl rfl himg rfl hd.bd).mono ?_
  rintro e w' ⟨he, h1, h2, _⟩
  exact ⟨he, h1, h2⟩

set_option maxHeartbeats 1600000 in
set_option maxRecDepth 100000 in
theorem levels_any (d : Nat × Nat × List Int) (hd : GoodD d) (p : Nat × Nat) (w : World) (himg : ImgAt w p d) :
    Calls Try.prog 23 #[.pointer (some ⟨p.1, 0, none⟩), .func (.func 22) #[] #[]] w fun e w' =>
      ∃ k bs v, e = .returned v ∧ LevAt w w' d k bs v ∧ OneD (levD d k) := by
  obtain ⟨i0, hi, hz0, hz1, hz2⟩ := info_parts Try.info25
  have HD := Lib.hid hd
  have HI := Lib.hid himg
  clear hd himg
  go_enter Try.func23, Try.ntmps23
  go_wp2
  go_loopw [0, 5] (fun m v wr => ∃ k bs q c g, m = .pointer (some ⟨q, 0, none⟩) ∧ v = .slice (some ⟨g, 0, none⟩) (k + 1) c ∧ Hid (q = (bs.getD k (0, 0)).1 ∧ LevAt w wr d k bs v)) (fun _ v _ => 10 - lenOf v)
  case atStart =>
    refine ⟨0, [p], p.1, 1, w.heap.size, rfl, rfl, Lib.hid ⟨rfl, rfl, ?_, fun i hi => ?_, fun i hi => by omega, (Below.refl _ _).alloc (Nat.le_refl _) _⟩⟩
    · exact ⟨rfl, .inr ⟨w.heap.size, 1, #[ptrV p], rfl, Nat.le_refl _, heap_alloc_new w _, Nat.le_refl _, by decide, rfl, rfl⟩⟩
    · obtain rfl : i = 0 := by omega
      exact HI.out.below ((Below.refl _ _).alloc (Nat.le_refl _) _)
  case round =>
    obtain ⟨k, bs, q, c, g, rfl, rfl, HL⟩ := hrel
    obtain ⟨W, hW⟩ : ∃ W, (levD d k).1 = W := ⟨_, rfl⟩
    obtain ⟨H, hH⟩ : ∃ H, (levD d k).2.1 = H := ⟨_, rfl⟩
    have himg := HL.out.2.imgs k (Nat.le_refl _)
    obtain ⟨c0, c1, c2⟩ := IsImg.cells himg
    rw [hW] at c0
    rw [hH] at c1
    rw [← HL.out.1] at c0 c1
    have HW := Lib.hid hW
    have HH := Lib.hid hH
    have gd := HD.out.lev k
    have w1 := gd.w1
    have w2 := gd.w2
    have h1 := gd.h1
    have h2 := gd.h2
    rw [hW] at w1 w2
    rw [hH] at h1 h2
    clear hW hH c2 gd himg
    by_cases hone : 1 < W ∨ 1 < H
    · have hno : Hid (¬ OneD (levD d k)) := Lib.hid (fun h => by have a := h.1; have b := h.2; rw [HW.out] at a; rw [HH.out] at b; omega)
      have hk : k < 4 := lev_lt HD.out HL.out.2.more hno.out
      by_cases hw : 1 < W
      all_goals
        go_wp2_with (first
          | (go_at_call 36; rw [HL.out.1]; refine (fold_lev (levD d k) (HD.out.lev k) (bs.getD k (0, 0)) _ (HL.out.2.imgs k (Nat.le_refl _))).mono ?_; rintro e wf ⟨rfl, HF, HB⟩)
          | (at_builtin; refine wpList_append_own _ rfl _ _ 54 rfl w.heap.size 25 i0 (.pointer none) 1 8 Try.underlying54 hi hz0 hz1 hz2 rfl (by decide) (.slice (some ⟨g, 0, none⟩) (k + 1) c) (k + 1) (bs.map ptrV) rfl ((HL.out.2.own.kept (below_grown HB.out) (by simp [Value.ownBlock])).alloc _) ⟨wf.heap.size, 0, none⟩ 1 1 [ptrV (wr.heap.size + 1, wr.heap.size)] rfl rfl (cell_one_new _ _ _) (by intro u hu; simp at hu; subst hu; rfl) (by unfold maxLen; omega) (by omega) (by have := HL.out.2.below.size; have := HB.out.size; simp; omega) ?_
             intro v' w2 hown' hgrow _
             have HL2 : Hid (LevAt w w2 d (k + 1) (bs ++ [(wr.heap.size + 1, wr.heap.size)]) v') := HL.out.2.step hno.out HB.out HF.out hown' hgrow
             clear hown' hgrow))
        obtain ⟨g2, cc, rfl⟩ := HL2.out.lenOf
        go_wp2
        go_roundw
        case rel => exact ⟨k + 1, bs ++ [(wr.heap.size + 1, wr.heap.size)], wr.heap.size + 1, cc, g2, rfl, rfl, Lib.hid ⟨by simp [List.getD, HL.out.2.len], HL2.out⟩⟩
        case measure => simp [lenOf]; omega
    · have hw : ¬ 1 < W := by omega
      have hh : ¬ 1 < H := by omega
      clear hone
      go_wp2
      go_ret
      exact ⟨k, bs, _, rfl, HL.out.2, by rw [HW.out]; omega, by rw [HH.out]; omega⟩

end Go.Proofs.Ytellbcgibeglbaa
