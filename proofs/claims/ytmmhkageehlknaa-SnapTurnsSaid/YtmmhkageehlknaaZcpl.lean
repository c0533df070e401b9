/-
  clear of a slice of points (any two-cell element of zeros); slices.Clone, slices.Clip of points.
-/
import Derived.Test.YtmmhkageehlknaaZuniq
import Derived.Test.YtmmhkageehlknaaZpt
import Derived.Lib.SliceRun
set_option linter.unusedVariables false
set_option linter.unusedSimpArgs false
set_option maxRecDepth 100000
namespace Go
open Go.RowKit
theorem run_clear_two {P : Program} (w : World) (t e ty : TypeId) (ht : P.underlying t = some (.slice e)) (hv : ∀ w, (zeroValue e).run P w = .ok (.agg #[.int .i64 0, .int .i64 0]) w) (b o n c : Nat) (hn : 0 < n)
    (hc : ∀ j, j < n * 2 → (w.cell? ⟨b, o + j, none⟩).isSome = true) (hf : ∀ j, j < n * 2 → w.frozen? ⟨b, o + j, none⟩ = false) :
    (Builtin.clear_ #[t] ty #[.slice (some ⟨b, o, none⟩) n c]).run P w = .ok (.tuple #[]) (w.setCells b o (List.replicate (n * 2) (.int .i64 0))) := by
  have hzc : (Builtin.zeroCells (Value.agg #[.int .i64 0, .int .i64 0]).cells n).toList = List.replicate (n * 2) (.int .i64 0) := by
    have e0 : (Value.agg #[.int .i64 0, .int .i64 0]).cells = #[.int .i64 0, .int .i64 0] := rfl
    rw [e0]
    simp [Builtin.zeroCells]
    apply List.ext_getElem
    · simp
    · intro i h1 h2
      simp
      rcases Nat.mod_two_eq_zero_or_one i with h | h <;> simp [h]
  have hst := run_storeCells_cells (P := P) b o (List.replicate (n * 2) (.int .i64 0)) 0 w (by simpa using hc) (by simpa using hf) (by intro v hv'; rw [List.eq_of_mem_replicate hv']; rfl)
  simp only [Nat.add_zero] at hst
  obtain ⟨m, rfl⟩ : ∃ m, n = m + 1 := ⟨n - 1, by omega⟩
  simp [Builtin.clear_, run_underlying ht, hv, hzc, hst]
end Go
namespace Go.Proofs.Ytmmhkageehlknaa
open Go.RowKit
theorem Try.infoZP : (Try.prog.info? 23).map (fun i => (i.zero, i.size, i.bytes)) = some (some (.agg #[.int .i64 0, .int .i64 0]), 2, 16) := by kernel_rfl

set_option maxHeartbeats 1600000 in
theorem cloneP_any (a : Option Addr) (c : Nat) (L : List Pt) (hlen : L.length ≤ 1000000) (w : World) (hr : Rd w a (pts L)) (hc : a = none → c = 0) :
    Calls Try.prog 33 #[.slice a L.length c] w fun e w' => ∃ v, e = .returned v ∧ w'.ownsRow w.heap.size 23 2 v L.length (pts L) ∧ Below w.heap.size w w' := by
  have hnil := fun a n c => Lib.run_eql_slice_nil (P := Try.prog) w 40 23 a n c 0 0 Try.underlying40
  cases a with
  | none =>
    have h0 : L = [] := by
      rcases hr with h | ⟨_, _, h, _⟩
      · have h2 := congrArg List.length h
        rw [pts_len] at h2
        exact List.length_eq_zero_iff.1 (by simp only [List.length_nil] at h2; omega)
      · cases h
    subst h0
    go_enter Try.func33, Try.ntmps33
    go_wp2
    go_ret
    exact ⟨_, rfl, World.ownsRow_nil _ _ _ _, Below.refl _ _⟩
  | some ad =>
    obtain ⟨n, hn⟩ : ∃ n, L.length = n := ⟨_, rfl⟩
    have HN := Lib.hid hn
    rw [hn] at hlen ⊢
    clear hn
    go_enter Try.func33, Try.ntmps33
    go_wp2_with (at_builtin; go_must (refine wpList_app' w (Below.new w (.cells #[] 23)) rfl (.tmp 5) (.tmp 6) 40 rfl 23 (.agg #[.int .i64 0, .int .i64 0]) 2 16 Try.underlying40 Try.infoZP rfl (by decide) (.slice (some ⟨w.heap.size, 0, none⟩) 0 0) 0 [] rfl (ownsRow_empty w _ _) (some ad) n c (pts L) rfl hc (hr.alloc _) (by rw [pts_len, HN.out]; try omega) (pts_one L) (by omega) (by decide) ?_); intro v1 w1 hown1 _ hbl1)
    go_ret
    refine ⟨_, rfl, ?_, hbl1⟩
    simpa using hown1

theorem clipP_any (a : Option Addr) (m c : Nat) (hmc : m ≤ c) (hc : c ≤ 9223372036854775807) (hn : a = none → c = 0) (w : World) :
    Calls Try.prog 46 #[.slice a m c] w fun e w' => e = .returned (.slice a m m) ∧ w' = w := by
  cases a with
  | none =>
    have h0 := hn rfl
    subst h0
    have h1 : m = 0 := by omega
    subst h1
    go_enter Try.func46, Try.ntmps46
    go_wp2
    go_ret
    exact ⟨rfl, rfl⟩
  | some ad =>
    clear hn
    go_enter Try.func46, Try.ntmps46
    go_wp2
    go_ret
    exact ⟨rfl, rfl⟩
end Go.Proofs.Ytmmhkageehlknaa
