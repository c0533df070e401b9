/-
  graticulelaw08.Of, proto.check.
-/
import Derived.Test.YtoicahfpnnhgpaaFlds
namespace Go.Proofs.Ytoicahfpnnhgpaa
open Go.RowKit Go.Vint Go.Proto

set_option maxHeartbeats 1000000 in
theorem of_any (x : FC) (w : World) (hx : x.Ok w) :
    Calls Try.prog 10 #[x.val] w fun e w' => e = .returned (.agg (rcells x.f).toArray) ∧ Below w.heap.size w w' := by
  obtain ⟨fl, p, c⟩ := x
  dsimp only [FC.val]
  have hcv := fun W h => run_convert_rd (P := Try.prog) W 22 5 9 Try.underlying22 Try.underlying5 Try.underlying9 p c fl.bs h
  have hx1 := hx.1
  dsimp only at hx1
  go_enter Try.func10, Try.ntmps10
  have hcv1 := hcv _ ((hx1.alloc (.cells #[.int .i64 fl.num, .int .i64 fl.kind, .int .u64 fl.n, .slice p fl.bs.length c] 25)).alloc (.cells #[.int .i64 0, .int .i64 0, .int .u64 0, .string ⟨#[]⟩] 30))
  go_wp2
  refine bodyPost_ret (v := .agg (rcells fl).toArray) (by simp [results, Try.results10, go_sem, rcells]) rfl ⟨rfl, ((Below.new _ _).alloc (by simp) _)⟩

set_option maxHeartbeats 4000000 in
theorem pcheck_any (x : FC) (w : World) (hn : 0 ≤ x.f.n ∧ x.f.n ≤ 18446744073709551615) :
    Calls Try.prog 25 #[x.val] w fun e w' => e = .returned (.int .i64 (chk x.f)) ∧ Below w.heap.size w w' := by
  obtain ⟨⟨num, kind, n, bs⟩, p, c⟩ := x
  dsimp only [FC.val] at *
  obtain ⟨l, hl⟩ : ∃ l, bs.length = l := ⟨_, rfl⟩
  obtain ⟨ck, hck⟩ : ∃ ck, chk ⟨num, kind, n, bs⟩ = ck := ⟨_, rfl⟩
  have hC : Hid (ck = if num < 1 ∨ 536870911 < num then 5 else if kind ≠ 0 ∧ kind ≠ 1 ∧ kind ≠ 2 ∧ kind ≠ 5 then 14 else if kind = 2 ∧ 0 < n ∨ kind ≠ 2 ∧ 0 < l then 3 else if kind = 5 ∧ 4294967295 < n then 5 else 0) := by
    refine Lib.hid ?_
    rw [← hl, ← hck]
    unfold chk
    have e : bs ≠ [] ↔ 0 < bs.length := List.length_pos_iff.symm
    simp only [e]
  rw [hl, hck]
  clear hl hck
  go_enter Try.func25, Try.ntmps25
  go_wp2
  all_goals (go_ret; refine ⟨ret_int ?_, Below.new _ _⟩; rw [hC.out]; clear hC; (repeat' split) <;> first | rfl | omega | (exfalso; simp only [bne_iff_ne, bne_eq_false_iff_eq, ne_eq] at *; omega))
end Go.Proofs.Ytoicahfpnnhgpaa
