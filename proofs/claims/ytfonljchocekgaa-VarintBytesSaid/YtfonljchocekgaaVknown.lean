/-
  The chapter's examples hold: graticulelaw07.known answers true.
-/
import Derived.Test.YtfonljchocekgaaVbytes
import Derived.Test.YtfonljchocekgaaVread
import Derived.Test.YtfonljchocekgaaVsame
import Derived.Test.YtfonljchocekgaaVzig
import Derived.WalkSmall
namespace Go.Proofs.Ytfonljchocekgaa
open Go.RowKit Go.Vint

theorem vknown_any (w : World) :
    Calls Try.prog 10 #[] w fun e w' => e = .returned (.bool true) ∧ Below w.heap.size w w' := by
  have hrd : rd [128, 0] = (0, 0, 3) := by decide
  have hvb : vbs [1, 300] = [1, 172, 2] := by
    simp only [vbs, List.flatMap_cons, List.flatMap_nil]
    rw [vb_lo (n := 1) (by omega), vb_hi (n := 300) (by omega), vb_lo (by omega)]; rfl
  have HR := Lib.hid hrd
  have HV := Lib.hid hvb
  clear hrd hvb
  go_enter Try.func10, Try.ntmps10
  go_wp2_with fail
  refine (vread_any _ 2 [128, 0] (by decide) (by decide) _ (Rd.new w [.int .u8 128, .int .u8 0] _)).mono ?_
  rintro e w' ⟨he, rfl⟩
  rw [HR.out] at he
  simp only [Rd3] at he
  subst he
  go_wp2_with fail
  refine (vbytes_any _ 2 [1, 300] (by decide) (by decide) _ (Rd.lit _ _ [.int .u64 1, .int .u64 300] _ (by simp))).mono ?_
  rintro e w1 ⟨v, rfl, hown, hbl⟩
  rw [HV.out] at hown
  obtain ⟨a, c, rfl, _, _, _, hrd, _⟩ := hown.form
  have hb1 : Below w.heap.size w w1 := (((Below.refl _ _).alloc (Nat.le_refl _) _).alloc (by simp) _).trans (hbl.mono (by simp; omega))
  have hs := hb1.size
  clear hown hbl
  go_wp2_with fail
  refine (rsame_any _ _ _ _ [1, 172, 2] [1, 172, 2] (by decide) (by decide) _ (hrd.alloc _) (Rd.new w1 [.int .u8 1, .int .u8 172, .int .u8 2] _)).mono ?_
  rintro e w2 ⟨rfl, n, rfl⟩
  go_wp2_with fail
  refine (vzig_any (-3) (by decide) (by decide) _).mono ?_
  rintro e w2 ⟨rfl, rfl⟩
  have hz : zig (-3) = 5 := by decide
  rw [hz]
  go_wp2
  go_ret
  exact ⟨rfl, below_drewN (hb1.alloc hs _) n⟩
end Go.Proofs.Ytfonljchocekgaa
