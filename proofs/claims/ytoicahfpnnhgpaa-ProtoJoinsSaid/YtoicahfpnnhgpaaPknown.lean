/-
  The chapter's examples hold: graticulelaw08.known answers true.
-/
import Derived.Test.YtoicahfpnnhgpaaPwrite
import Derived.Test.YtoicahfpnnhgpaaVsame
import Derived.WalkSmall
import Derived.Lib.SlBytesConst
namespace Go.Proofs.Ytoicahfpnnhgpaa
open Go.RowKit Go.Vint Go.Proto

set_option maxHeartbeats 1000000 in
theorem pknown_any (w : World) :
    Calls Try.prog 14 #[] w fun e w' => e = .returned (.bool true) ∧ Below w.heap.size w w' := by
  have hp0 : prd [0] = (Fld.zero, 0, 5) := by decide
  have hp1 : prd [11] = (Fld.zero, 0, 14) := by decide
  have hpw : pwr [⟨3, 2, 0, [97, 98]⟩, ⟨15, 0, 2, []⟩] = ([26, 2, 97, 98, 120, 2], 0) := by
    rw [pwr_ok _ (by decide)]
    simp only [List.flatMap_cons, List.flatMap_nil, fby, tail]
    simp [vb_lo]
  have HP0 := Lib.hid hp0
  have HP1 := Lib.hid hp1
  have HPW := Lib.hid hpw
  clear hp0 hp1 hpw
  go_enter Try.func14, Try.ntmps14
  have hcb := Lib.run_convert_bytes_const (P := Try.prog) w 22 5 #[.int .u8 97, .int .u8 98] 2 2 Try.underlying22 Try.underlying5
  go_wp2_with fail
  clear hcb
  have hrb : Rd (w.alloc (.cells #[.int .u8 97, .int .u8 98] 5 (2, 3))) (some ⟨w.heap.size, 0, none⟩) ([97, 98].map (Value.int .u8)) := by
    refine .inr ⟨_, _, rfl, fun i v hv => ?_⟩
    rw [cell_of_row _ w.heap.size (0 + i) #[.int .u8 97, .int .u8 98] 5 (2, 3) (heap_alloc_new w _)]
    simpa using hv
  have hrw := Rd.lit (w.alloc (.cells #[.int .u8 97, .int .u8 98] 5 (2, 3))) (w.heap.size + 1) (flat [⟨⟨3, 2, 0, [97, 98]⟩, some ⟨w.heap.size, 0, none⟩, 2⟩, ⟨⟨15, 0, 2, []⟩, none, 0⟩]) 25 (by simp)
  have hcl := pwrite_any (some ⟨w.heap.size + 1, 0, none⟩) 2 [⟨⟨3, 2, 0, [97, 98]⟩, some ⟨w.heap.size, 0, none⟩, 2⟩, ⟨⟨15, 0, 2, []⟩, none, 0⟩]
    (by
      intro x hx
      rcases List.mem_cons.1 hx with rfl | hx
      · exact ⟨fun x hx => by simp at hx; omega, by simp, by simp, by simp⟩
      · obtain rfl := List.mem_singleton.1 hx
        exact ⟨fun x hx => by simp at hx, by simp, by simp, by simp⟩) (by simp) _ hrw
    (by
      intro x hx
      rcases List.mem_cons.1 hx with rfl | hx
      · exact ⟨hrb.keep (Below.new _ _), by simp, by simp [maxLen], fun h => by cases h⟩
      · obtain rfl := List.mem_singleton.1 hx
        exact ⟨Rd.nil _ _, by simp, by simp [maxLen], fun _ => rfl⟩)
  simp only [List.map_cons, List.map_nil, HPW.out] at hcl
  refine hcl.mono ?_
  rintro e w1 ⟨v, rfl, hown, hb⟩
  obtain ⟨a, c, rfl, -, -, -, hr1, -⟩ := hown.form
  have hb1 : Below w.heap.size w w1 := (((Below.refl _ _).alloc (Nat.le_refl _) _).alloc (by simp) _).trans (hb.mono (by simp; omega))
  have hs := hb1.size
  clear hcl hown hb hrw hrb
  go_wp2_with fail
  refine (pread_any _ 1 [0] (by decide) (by decide) (by decide) (by decide) _ (Rd.new w1 [.int .u8 0] _)).mono ?_
  rintro e w2 ⟨⟨a2, c2, rfl, -, -, -, -, -⟩, hb2⟩
  rw [HP0.out]
  have hb3 : Below w1.heap.size w1 w2 := (Below.new _ _).trans (hb2.mono (by simp))
  have hs3 := hb3.size
  clear hb2
  go_wp2_with fail
  refine (pread_any _ 1 [11] (by decide) (by decide) (by decide) (by decide) _ (Rd.lit (w2.alloc (.cells #[.int .i64 Fld.zero.num, .int .i64 Fld.zero.kind, .int .u64 Fld.zero.n, .slice a2 Fld.zero.bs.length c2] 25)) (w2.heap.size + 1) [.int .u8 11] 5 (by simp))).mono ?_
  rintro e w3 ⟨⟨a3, c3, rfl, -, -, -, -, -⟩, hb4⟩
  rw [HP1.out]
  have hb5 : Below w1.heap.size w1 w3 := (hb3.trans (((Below.new w2 _).alloc (by simp) _).mono hs3)).trans (hb4.mono (by simp; omega))
  have hs5 := hb5.size
  clear hb4 hb3
  go_wp2_with fail
  have hr6 := hr1.keep (hb5.trans (((Below.new w3 (.cells #[.int .i64 Fld.zero.num, .int .i64 Fld.zero.kind, .int .u64 Fld.zero.n, .slice a3 Fld.zero.bs.length c3] 25)).alloc (by simp) (.cells #[.int .u8 26, .int .u8 2, .int .u8 97, .int .u8 98, .int .u8 120, .int .u8 2] 5)).mono hs5))
  refine (rsame_any _ _ _ _ [26, 2, 97, 98, 120, 2] [26, 2, 97, 98, 120, 2] (by decide) (by decide) _ hr6 (Rd.lit (w3.alloc (.cells #[.int .i64 Fld.zero.num, .int .i64 Fld.zero.kind, .int .u64 Fld.zero.n, .slice a3 Fld.zero.bs.length c3] 25)) (w3.heap.size + 1) [.int .u8 26, .int .u8 2, .int .u8 97, .int .u8 98, .int .u8 120, .int .u8 2] 5 (by simp))).mono ?_
  rintro e w4 ⟨rfl, n, rfl⟩
  have hb7 := below_drewN (((hb1.trans (hb5.mono hs)).alloc (by omega) (.cells #[.int .i64 Fld.zero.num, .int .i64 Fld.zero.kind, .int .u64 Fld.zero.n, .slice a3 Fld.zero.bs.length c3] 25)).alloc (by simp; omega) (.cells #[.int .u8 26, .int .u8 2, .int .u8 97, .int .u8 98, .int .u8 120, .int .u8 2] 5)) n
  clear hr6 hr1
  go_wp2
  go_ret
  exact ⟨rfl, hb7⟩
end Go.Proofs.Ytoicahfpnnhgpaa
