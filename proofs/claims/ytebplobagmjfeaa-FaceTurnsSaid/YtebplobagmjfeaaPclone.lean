/-
  slices.Clone of points.
-/
import Derived.Test.YtebplobagmjfeaaPts
import Derived.Test.YtebplobagmjfeaaProg
import Derived.Lib.SliceRun
set_option linter.unusedVariables false
set_option linter.unusedSimpArgs false
set_option maxRecDepth 100000
namespace Go.Proofs.Ytebplobagmjfeaa
open Go.RowKit
theorem Try.infoZP : (Try.prog.info? 37).map (fun i => (i.zero, i.size, i.bytes)) = some (some (.agg #[.int .i64 0, .int .i64 0]), 2, 16) := by kernel_rfl

set_option maxHeartbeats 1600000 in
theorem cloneP_any (a : Option Addr) (c : Nat) (L : List Pt) (hlen : L.length ≤ 1000000) (w : World) (hr : Rd w a (pts L)) (hc : a = none → c = 0) :
    Calls Try.prog 45 #[.slice a L.length c] w fun e w' => ∃ v, e = .returned v ∧ w'.ownsRow w.heap.size 37 2 v L.length (pts L) ∧ Below w.heap.size w w' := by
  have hnil := fun a n c => Lib.run_eql_slice_nil (P := Try.prog) w 65 37 a n c 0 0 Try.underlying65
  cases a with
  | none =>
    have h0 : L = [] := by
      rcases hr with h | ⟨_, _, h, _⟩
      · have h2 := congrArg List.length h
        rw [pts_len] at h2
        exact List.length_eq_zero_iff.1 (by simp only [List.length_nil] at h2; omega)
      · cases h
    subst h0
    go_enter Try.func45, Try.ntmps45
    go_wp2
    go_ret
    exact ⟨_, rfl, World.ownsRow_nil _ _ _ _, Below.refl _ _⟩
  | some ad =>
    obtain ⟨n, hn⟩ : ∃ n, L.length = n := ⟨_, rfl⟩
    have HN := Lib.hid hn
    rw [hn] at hlen ⊢
    clear hn
    go_enter Try.func45, Try.ntmps45
    go_wp2_with (at_builtin; go_must (refine wpList_app' w (Below.new w (.cells #[] 37)) rfl (.tmp 5) (.tmp 6) 65 rfl 37 (.agg #[.int .i64 0, .int .i64 0]) 2 16 Try.underlying65 Try.infoZP rfl (by decide) (.slice (some ⟨w.heap.size, 0, none⟩) 0 0) 0 [] rfl (ownsRow_empty w _ _) (some ad) n c (pts L) rfl hc (hr.alloc _) (by rw [pts_len, HN.out]; try omega) (pts_one L) (by omega) (by decide) ?_); intro v1 w1 hown1 _ hbl1)
    go_ret
    refine ⟨_, rfl, ?_, hbl1⟩
    simpa using hown1

end Go.Proofs.Ytebplobagmjfeaa
