/-
  proto.low.
-/
import Derived.Test.YtoicahfpnnhgpaaPof
import Derived.Test.YtoicahfpnnhgpaaReg
set_option linter.unusedVariables false
set_option linter.unusedSimpArgs false
namespace Go
open Go.RowKit
/-- A block of cells of a type, known whole, that may be written. -/
def BlkT (w : World) (b : Nat) (T : TypeId) (vs : List Value) : Prop := w.heap[b]? = some (.cells vs.toArray T (0, 0))
section
variable {w w' : World} {b : Nat} {T : TypeId} {vs : List Value}
theorem BlkT.blk (h : BlkT w b T vs) : Blk w b vs := ⟨T, h⟩
theorem BlkT.set (h : BlkT w b T vs) (i : Nat) (u : Value) : BlkT (w.setCell ⟨b, i, none⟩ u) b T (vs.set i u) := by
  have h' : w.heap[b]? = _ := h
  show (w.setCell ⟨b, i, none⟩ u).heap[b]? = _
  simp [World.setCell, Array.getElem?_modify, h']
theorem BlkT.of_owns {base : Nat} {n : Nat} (h : w.ownsRow base T 1 (.slice (some ⟨b, 0, none⟩) n n) n vs) : BlkT w b T vs := h.block
theorem BlkT.owns {base : Nat} {n : Nat} (h : BlkT w b T vs) (hb : base ≤ b) (hn : vs.length = n) (hm : n ≤ maxLen) : w.ownsRow base T 1 (.slice (some ⟨b, 0, none⟩) n n) n vs := by
  subst hn
  exact ⟨by simp, .inr ⟨b, vs.length, vs.toArray, rfl, hb, h, Nat.le_refl _, hm, by simp, by simp⟩⟩
theorem BlkT.lt (h : BlkT w b T vs) : b < w.heap.size := (Array.getElem?_eq_some_iff.1 (show w.heap[b]? = _ from h)).1
theorem BlkT.cell (h : BlkT w b T vs) (i : Nat) {v : Value} (hi : vs[i]? = some v) : w.cell? ⟨b, i, none⟩ = some v := h.blk.cell i hi
theorem BlkT.of_block (h : BlkT w b T vs) (hb : w'.heap[b]? = w.heap[b]?) : BlkT w' b T vs := hb.trans h
theorem BlkT.grown {r : Option Nat} (h : BlkT w b T vs) (hg : w.grownBy w' r) (hne : some b ≠ r) : BlkT w' b T vs := h.of_block (hg.block b h.lt hne)
theorem BlkT.keep (h : BlkT w b T vs) (hb : Below w.heap.size w w') : BlkT w' b T vs := h.of_block (hb.block b h.lt)
theorem BlkT.below {B : Nat} (h : BlkT w b T vs) (hb : Below B w w') (hB : b < B) : BlkT w' b T vs := h.of_block (hb.block b hB)
theorem BlkT.new (w : World) (vs : List Value) (T : TypeId) : BlkT (w.alloc (.cells vs.toArray T)) w.heap.size T vs := heap_alloc_new w _
theorem BlkT.not_row (h : BlkT w b T vs) {e : TypeId} (hte : T ≠ e) {base size k : Nat} {v : Value} {xs : List Value} (hr : w.ownsRow base e size v k xs) : some b ≠ v.ownBlock := by
  rcases hr.2 with ⟨rfl, _⟩ | ⟨g, cap, cur, rfl, _, hgb, _⟩
  · simp [Value.ownBlock]
  · intro e'
    obtain rfl : b = g := by simpa [Value.ownBlock] using e'
    have := (show w.heap[b]? = _ from h).symm.trans hgb
    simp at this
    exact hte this.2
end
theorem take_set_snoc {α : Type} (l : List α) (k : Nat) (u : α) (h : k < l.length) : (l.set k u).take (k + 1) = l.take k ++ [u] := by
  rw [List.take_succ_eq_append_getElem (by simpa using h)]
  simp [List.take_set]
  exact List.set_eq_of_length_le (by simp; omega)
end Go
namespace Go.Proto
theorem low_snoc (n : Int) (k : Nat) : low n (k + 1) = low n k ++ [n / 256 ^ k % 256] := by
  induction k generalizing n with
  | zero => simp [low]
  | succ k ih =>
    rw [low, ih, low, List.cons_append]
    rw [Int.ediv_ediv_of_nonneg (by omega), Int.pow_succ', ← Int.pow_succ']
end Go.Proto
namespace Go.Proofs.Ytoicahfpnnhgpaa
open Go.RowKit Go.Vint Go.Proto

set_option maxHeartbeats 2000000 in
theorem plow_any (n : Int) (s : Nat) (hs : s ≤ 8) (hn : 0 ≤ n ∧ n ≤ 18446744073709551615) (w : World) :
    Calls Try.prog 27 #[.int .u64 n, .int .i64 s] w fun e w' => ∃ v, e = .returned v ∧ w'.ownsRow w.heap.size 5 1 v s ((low n s).map (Value.int .u8)) ∧ Below w.heap.size w w' := by
  go_enter Try.func27, Try.ntmps27
  obtain ⟨iu, hi, hz0, hz1, hz2⟩ := info_parts Try.infoU8
  go_wp2_with (at_make; go_must (refine wpList_make_full _ rfl (.tmp 7) (.tmp 7) 22 rfl w.heap.size 5 iu (.int .u8 0) 1 Try.underlying22 hi hz0 hz1 .i64 .i64 (s : Int) (s : Int) s rfl rfl rfl rfl (by rw [hz2]; omega) (by unfold maxLen; omega) (Nat.le_refl _) ?_); intro w2 hown2 hgrow2; have hB2 : Below w.heap.size w w2 := (Below.refl _ _).grown hgrow2 (Nat.le_refl _) (fun k e => by cases e); have hblk := BlkT.of_owns hown2; have hZl : (madeCells (Value.int IntKind.u8 0).cells (s * 1)).toList.length = s := by simpa using hown2.1)
  clear hgrow2 hown2 hi hz0 hz1 hz2
  generalize (madeCells (Value.int IntKind.u8 0).cells (s * 1)).toList = Z0 at *
  go_loopw [11] (fun i wr => ∃ (k : Nat) (Z : List Value), k ≤ s ∧ i = .int .i64 k ∧ Z.length = s ∧ BlkT wr w.heap.size 5 Z ∧ Z.take k = (low n k).map (Value.int .u8) ∧ Below w.heap.size w wr) (fun i _ => s - (intOf i).toNat)
  case atStart => exact ⟨0, Z0, Nat.zero_le _, rfl, hZl, hblk, rfl, hB2⟩
  case round =>
    obtain ⟨k, Z, hk, rfl, hZ, hB, hT, hbl⟩ := hrel
    have HT := Lib.hid hT
    clear hT hblk hZl hB2
    by_cases hlt : k < s
    · obtain ⟨z, hz⟩ : ∃ z, Z[k]? = some z := ⟨Z[k]'(by omega), List.getElem?_eq_getElem (by omega)⟩
      have hc := hB.blk.cell k hz
      have hf := hB.blk.free k
      go_wp2
      go_roundw
      case rel =>
        refine ⟨k + 1, Z.set k (.int .u8 (n / 2 ^ (8 * k) % 256)), by omega, by go_num, by simp [hZ], hB.set _ _, ?_, hbl.set_at (Nat.le_refl _) _⟩
        rw [low_snoc, List.map_append, ← HT.out, take_set_snoc _ _ _ (by omega), show (256 : Int) ^ k = 2 ^ (8 * k) by rw [Int.pow_mul]; rfl]
        rfl
      case measure => simp [intOf]; omega
    · obtain rfl : k = s := by omega
      rw [List.take_of_length_le (by omega)] at HT
      go_wp2
      go_ret
      refine ⟨_, rfl, ?_, hbl⟩
      rw [← HT.out]
      exact hB.owns (Nat.le_refl _) hZ (by unfold maxLen; omega)
end Go.Proofs.Ytoicahfpnnhgpaa
