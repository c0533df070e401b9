/-
  The chapter's examples hold: graticulelaw16.known answers true.
-/
import Derived.Test.YtmmhkageehlknaaZring
import Derived.Test.YtmmhkageehlknaaZcmp
set_option linter.unusedVariables false
set_option linter.unusedSimpArgs false
set_option maxRecDepth 100000
namespace Go.Proofs.Ytmmhkageehlknaa
open Go.RowKit Go.Srt
theorem kn_lines : linesF 1 100 = [3996, 4196] := by kernel_rfl
theorem kn_ring : ringF 1 0 [⟨0, 0⟩, ⟨65536, 0⟩, ⟨0, 65536⟩] = [⟨0, 0⟩, ⟨4096, 0⟩, ⟨8192, 0⟩, ⟨4096, 4096⟩, ⟨0, 8192⟩, ⟨0, 4096⟩] := by kernel_rfl
theorem kn_ok : ringOk 1 0 [⟨0, 0⟩, ⟨65536, 0⟩, ⟨0, 65536⟩] = true := by kernel_rfl
theorem kn_lok : linesB 1 100 = true := by kernel_rfl
theorem kn_pt : (if (levelB 0 && worldB ⟨24, 8⟩) = true then snapP ⟨24, 8⟩ 0 else ⟨0, 0⟩) = ⟨2, 1⟩ := by kernel_rfl
theorem kn_pok : (levelB 0 && worldB ⟨24, 8⟩) = true := by kernel_rfl

set_option maxHeartbeats 1600000 in
theorem zknown_any (w : World) :
    Calls Try.prog 15 #[] w fun e w' => e = .returned (.bool true) ∧ Below w.heap.size w w' := by
  have c1 := fun w => lines_any 1 100 w
  rw [kn_lines, kn_lok] at c1
  have c2 := fun w => point_any ⟨24, 8⟩ 0 (by decide) w
  rw [kn_pt, kn_pok] at c2
  have c3 := fun a w h => ring_any a 3 [⟨0, 0⟩, ⟨65536, 0⟩, ⟨0, 65536⟩] 1 0 (by decide) (by decide) w h
  rw [kn_ring, kn_ok] at c3
  simp only [if_true] at c3
  dsimp only [Pt.val] at c2
  have C1 := Lib.hid c1
  have C2 := Lib.hid c2
  have C3 := Lib.hid c3
  clear c1 c2 c3
  go_enter Try.func15, Try.ntmps15
  go_wp2_with fail
  refine (C1.out _).mono ?_
  rintro e w1 ⟨v1, rfl, ho1, hb1⟩
  have hs1 := hb1.size
  obtain ⟨a1, c1, rfl, -, -, -, hr1, -⟩ := ho1.form
  go_wp2_with fail
  refine (C2.out _).mono ?_
  rintro e w2 ⟨rfl, hb2⟩
  have hs2 := hb2.size
  have hr2 := hr1.keep hb2
  have hb3 := hb1.trans (hb2.mono hs1)
  clear hb1 hb2 ho1 hr1 C1 C2
  have hp1 := (Blk.lit w2 w2.heap.size [.int .i64 2, .int .i64 1] 23 rfl).alloc (.cells #[.int .i64 0, .int .i64 0, .int .i64 65536, .int .i64 0, .int .i64 0, .int .i64 65536] 23)
  have hb4 := (hb3.alloc (by omega) (.cells #[.int .i64 2, .int .i64 1] 23)).alloc (by simp; omega) (.cells #[.int .i64 0, .int .i64 0, .int .i64 65536, .int .i64 0, .int .i64 0, .int .i64 65536] 23)
  have hr4 := (hr2.alloc (.cells #[.int .i64 2, .int .i64 1] 23)).alloc (.cells #[.int .i64 0, .int .i64 0, .int .i64 65536, .int .i64 0, .int .i64 0, .int .i64 65536] 23)
  go_wp2_with fail
  refine (C3.out _ _ (Rd.lit _ _ [.int .i64 0, .int .i64 0, .int .i64 65536, .int .i64 0, .int .i64 0, .int .i64 65536] 23 (by simp))).mono ?_
  rintro e w5 ⟨v5, rfl, ho5, hb5⟩
  have hr5 := hr4.keep hb5
  have hp5 := hp1.keep hb5
  have hb6 := hb4.trans (hb5.mono hb4.size)
  clear hb4 hb5 hr4 hp1 hr2 hb3 C3 hs2
  obtain ⟨a5, c5, rfl, -, -, -, hrd5, -⟩ := ho5.form
  obtain ⟨b, off, rfl, q0, hbb⟩ := hrd5.at (i := 6) (v := .int .i64 4096) rfl
  obtain ⟨_, _, e1, q1, -⟩ := hrd5.at (i := 7) (v := .int .i64 4096) rfl
  cases e1
  have p0 := hp5.cell 0 rfl
  have p1 := hp5.cell 1 rfl
  have hs6 := hb6.size
  have hlt := hp5.lt
  clear hrd5 ho5
  simp only [List.length_cons, List.length_nil, Nat.reduceAdd]
  have hin := ints_same a1 (some ⟨w5.heap.size, 0, none⟩) c1 2 [3996, 4196] (by decide) (w5.alloc (.cells #[.int .i64 3996, .int .i64 4196] 3)) (hr5.alloc _) (Rd.new w5 [.int .i64 3996, .int .i64 4196] 3)
  have HIN := Lib.hid hin
  clear hin hr5
  go_wp2_with fail
  refine HIN.out.mono ?_
  rintro e w7 ⟨rfl, n, rfl⟩
  go_wp2
  go_ret
  exact ⟨rfl, below_drewN (hb6.alloc hs6 _) n⟩
end Go.Proofs.Ytmmhkageehlknaa
