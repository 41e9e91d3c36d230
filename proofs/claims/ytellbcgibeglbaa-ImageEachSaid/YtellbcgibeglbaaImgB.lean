/-
  The contract of image.Of at integer samples, and of Wrapped.
-/
import Derived.Test.YtellbcgibeglbaaImgA
import Derived.Laws.CopyOwn
import Derived.Lib.Hide
namespace Go.Proofs.Ytellbcgibeglbaa
open Go.RowKit

/-- an image in memory: its struct in block b, its samples in block g -/
structure IsImg (w : World) (E S b g : Nat) (W H : Int) (n : Nat) (cs : List Value) : Prop where
  head : w.heap[b]? = some (.cells #[.int .i64 W, .int .i64 H, .slice (some ⟨g, 0, none⟩) n n] S (0, 0))
  row : w.heap[g]? = some (.cells cs.toArray E (0, 0))
  len : cs.length = n

theorem heap_alloc_old' (w : World) (o : Obj) (k : Nat) (h : k < w.heap.size) : (w.alloc o).heap[k]? = w.heap[k]? := Below.heap_alloc w o k h

theorem newW_img (z : Value) (E S : Nat) (W H : Int) (n : Nat) (w : World) : IsImg (newW z E S W H n w) E S (w.heap.size + 1) w.heap.size W H n (madeCells #[z] n).toList := by
  have hl : (madeCells #[z] n).toList.length = n := by simp [size_madeCells]
  refine ⟨?_, ?_, hl⟩
  · have := heap_alloc_new (w.alloc (.cells (madeCells #[z] n) E)) (.cells #[.int .i64 W, .int .i64 H, .slice (some ⟨w.heap.size, 0, none⟩) n n] S)
    simpa [newW] using this
  · unfold newW
    rw [heap_alloc_old' _ _ _ (by simp)]
    simpa using heap_alloc_new w (.cells (madeCells #[z] n) E)

theorem newW_below (z : Value) (E S : Nat) (W H : Int) (n : Nat) (w : World) : Below w.heap.size w (newW z E S W H n w) :=
  ((Below.refl _ _).alloc (Nat.le_refl _) _).alloc (by simp) _

theorem newW_size (z : Value) (E S : Nat) (W H : Int) (n : Nat) (w : World) : (newW z E S W H n w).heap.size = w.heap.size + 2 := by simp [newW]

section
variable {w : World} {E S b g n : Nat} {W H : Int} {cs : List Value}
theorem IsImg.cells (h : IsImg w E S b g W H n cs) :
    w.cell? ⟨b, 0, none⟩ = some (.int .i64 W) ∧ w.cell? ⟨b, 1, none⟩ = some (.int .i64 H) ∧ w.cell? ⟨b, 2, none⟩ = some (.slice (some ⟨g, 0, none⟩) n n) := by
  have := h.head
  simp [World.cell?, this]

theorem IsImg.cell (h : IsImg w E S b g W H n cs) (j : Nat) (v : Value) (hj : cs[j]? = some v) :
    w.cell? ⟨g, j, none⟩ = some v := by
  have := h.row
  simp [World.cell?, this, hj]

theorem IsImg.free (h : IsImg w E S b g W H n cs) (j : Nat) : w.frozen? ⟨g, j, none⟩ = false := by
  have := h.row
  simp [World.frozen?, this]

theorem IsImg.below {B : Nat} {w' : World} (h : IsImg w E S b g W H n cs) (hb : Below B w w') (h1 : b < B) (h2 : g < B) : IsImg w' E S b g W H n cs :=
  ⟨by rw [hb.block b h1]; exact h.head, by rw [hb.block g h2]; exact h.row, h.len⟩
end

theorem new_any (W H : Int) (w : World) (h1 : 1 ≤ W) (h2 : 1 ≤ H) (h3 : W ≤ 1024) (h4 : H ≤ 1024) (h5 : W * H ≤ 65536) (n : Nat) (hn : W * H = n) :
    Calls Try.prog 17 #[.int .i64 W, .int .i64 H] w fun e w' =>
      e = .returned (.tuple #[.pointer (some ⟨w.heap.size + 1, 0, none⟩), .int .i64 0]) ∧ IsImg w' 3 66 (w.heap.size + 1) w.heap.size W H n (madeCells #[.int .i64 0] n).toList ∧ Below w.heap.size w w' ∧ w'.heap.size = w.heap.size + 2 :=
  (new_ok W H w h1 h2 h3 h4 h5 (Int.mul_pos (by omega) (by omega))).mono fun _ _ ⟨he, hw⟩ => by
    subst hw
    rw [hn, Int.toNat_natCast]
    exact ⟨he, newW_img _ _ _ _ _ _ _, newW_below _ _ _ _ _ _ _, newW_size _ _ _ _ _ _ _⟩

theorem IsImg.setRow {w : World} {E S b g n : Nat} {W H : Int} {cs : List Value} (h : IsImg w E S b g W H n cs) (hbg : b ≠ g) (ds : List Value) (hd : ds.length = n) : IsImg (w.setRow g ds.toArray) E S b g W H n ds :=
  ⟨by rw [setRow_other w g b _ hbg]; exact h.head, setRow_heap w g _ _ E _ h.row, hd⟩

theorem wpList_copy_img {P : Program} {w : World} {ops : Array Oper} {rest : List Oper} {o : Oper} {a : Act} {Q : Exit → Act → World → Prop} (hgd : o.guard = none) (d s : Operand) (dT sT : TypeId)
    (ho : o.op = .call { callee := .builtin .copy, args := #[d, s], argTypes := #[dT, sT] }) (elem : TypeId) (hu : P.underlying dT = some (.slice elem)) (hsz : (P.info? elem).map (·.size) = some 1)
    {S b g n : Nat} {W H : Int} {zs : List Value} (himg : IsImg w elem S b g W H n zs) (hbg : b ≠ g) (ad : Addr) (cap : Nat) (hd : a.eval d = .slice (some ⟨g, 0, none⟩) n n) (hs : a.eval s = .slice (some ad) n cap)
    (cs : List Value) (hn : cs.length = n) (hsrc : ∀ j v, cs[j]? = some v → w.cell? (ad.add j) = some v) (h1 : ∀ v ∈ cs, v.oneCell' = true)
    (w0 : World) (hb : Below g w0 w)
    (h : ∀ w', IsImg w' elem S b g W H n cs → Below g w0 w' → w'.heap.size = w.heap.size → wpList P ops Q rest (a.put o.dst (goInt n)) w') : wpList P ops Q (o :: rest) a w := by
  have hz := himg.len
  refine wpList_copy_own hgd d s dT sT ho elem hu hsz g 0 n n ad n cap hd hs zs.toArray elem himg.row cs (by rw [hn]; exact (Nat.min_self n).symm) hsrc (by simp [hn, hz]) h1 ?_
  have e : zs.toArray.toList.take 0 ++ (cs ++ zs.toArray.toList.drop (0 + cs.length)) = cs := by
    rw [List.take_zero, List.nil_append, Nat.zero_add, hn, ← hz]; simp
  rw [e, hn]
  exact h _ (himg.setRow hbg cs hn) (below_setRow hb (Nat.le_refl _) _) (by simp [World.setRow])

set_option maxHeartbeats 400000 in
theorem of_ok (W H : Int) (g cap base n : Nat) (ps : List Int) (w : World) (h1 : 1 ≤ W) (h2 : 1 ≤ H) (h3 : W ≤ 1024) (h4 : H ≤ 1024) (h5 : W * H ≤ 65536) (hn : W * H = n) (hl : ps.length = n)
    (hown : w.ownsRow base 3 1 (.slice (some ⟨g, 0, none⟩) n cap) n (ps.map (Value.int .i64))) :
    Calls Try.prog 10 #[.int .i64 W, .int .i64 H, .slice (some ⟨g, 0, none⟩) n cap] w fun e w' =>
      e = .returned (.tuple #[.pointer (some ⟨w.heap.size + 1, 0, none⟩), .int .i64 0]) ∧ IsImg w' 3 66 (w.heap.size + 1) w.heap.size W H n (ps.map (Value.int .i64)) ∧ Below w.heap.size w w' ∧ w'.heap.size = w.heap.size + 2 := by
  have hcells := fun j u => hown.cells (g := g) rfl j u
  have hpos := Int.mul_pos (show 0 < W by omega) (show 0 < H by omega)
  have HC : Hid (∀ j u, (ps.map (Value.int .i64))[j]? = some u → w.cell? ((⟨g, 0, none⟩ : Addr).add j) = some u) := hcells
  have HN := Lib.hid hn
  have HL := Lib.hid hl
  clear hcells hown hn hl
  have hnn : ((n : Int) != W * H) = false := by rw [HN.out]; simp
  go_enter Try.func10, Try.ntmps10
  go_wp2_with (first
    | (go_at_call 17; refine (new_any _ _ _ (by omega) (by omega) (by omega) (by omega) (by omega) n HN.out).mono ?_; rintro e w1 ⟨rfl, himg, hb, hsz⟩; obtain ⟨c0, c1, c2⟩ := himg.cells)
    | (refine wpList_copy_img (o := ⟨some 32, _, _, _, _, _⟩) rfl (.tmp 30) (.tmp 31) 24 24 rfl 3 Try.underlying24 (by kernel_rfl) himg (by omega) ⟨g, 0, none⟩ cap rfl rfl (ps.map (Value.int .i64)) (by simp [HL.out]) (fun j v hj => cell_later hb (HC.out j v hj)) (ints_oneCell _ _) w hb ?_; intro w2 himg2 hb2 hsz2))
  go_ret2
  exact ⟨rfl, himg2, hb2, by omega⟩

end Go.Proofs.Ytellbcgibeglbaa
