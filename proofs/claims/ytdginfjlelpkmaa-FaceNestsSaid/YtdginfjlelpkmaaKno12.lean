/-
  The example of chapter 12 holds.
-/
import Derived.Test.YtdginfjlelpkmaaFnest
import Derived.Test.YtdginfjlelpkmaaFcheck
import Derived.Test.YtdginfjlelpkmaaKn12
import Derived.Test.YtdginfjlelpkmaaTc0
import Derived.Test.YtdginfjlelpkmaaZcmp
/- The example's rings (plain). -/
set_option linter.unusedVariables false
set_option linter.unusedSimpArgs false
namespace Go
def knownR : List (List Pt) := [[⟨0, 0⟩, ⟨9, 0⟩, ⟨9, 9⟩, ⟨0, 9⟩], [⟨3, 3⟩, ⟨3, 5⟩, ⟨5, 5⟩, ⟨5, 3⟩]]
theorem known_nest : nestF knownR = ([-1, 0], true) := by decide
theorem known_cnt : cntR [knownR] = 2 ∧ cntP [knownR] = 8 := by decide
theorem known_chk (tc : List At → Int) (h : tc [] = 0) : chkF tc 1 [knownR] [[]] = 0 := by
  have e1 : [knownR].all rIn = true := by decide
  unfold chkF
  rw [e1, known_cnt.1, known_cnt.2]
  simp [tcs, h]
end Go
set_option linter.unusedVariables false
set_option linter.unusedSimpArgs false
set_option maxRecDepth 100000
namespace Go.Proofs.Ytdginfjlelpkmaa
open Go.RowKit
set_option maxHeartbeats 3200000 in
theorem known12 (w : World) :
    Calls Try.prog 14 #[] w fun e w' => e = .returned (.bool true) ∧ Below w.heap.size w w' := by
  obtain ⟨B, hB⟩ : ∃ B, w.heap.size = B := ⟨_, rfl⟩
  have HBE := Lib.hid hB
  have HB := Lib.hid (Below.refl B w)
  clear hB
  go_enter Try.func14, Try.ntmps14
  go_wp2_with fail
  refine (box_left _).mono ?_
  rintro e w1 ⟨p1, rfl, hr1, hb1⟩
  obtain ⟨b1, o1, rfl, -, hl1⟩ := hr1.at (i := 0) (v := .int .i64 0) rfl
  go_wp2_with fail
  refine (box_right _).mono ?_
  rintro e w2 ⟨p2, rfl, hr2, hb2⟩
  obtain ⟨b2, o2, rfl, -, hl2⟩ := hr2.at (i := 0) (v := .int .i64 3) rfl
  go_wp2_with fail
  have HB2 : Hid (Below B w w2) := Lib.hid (by
    have := hb1.trans (hb2.mono hb1.size)
    rw [HBE.out] at this; exact this)
  have hs2 : B ≤ w2.heap.size := by rw [← HBE.out]; exact Nat.le_trans hb1.size hb2.size
  have hr1 := hr1.keep hb2
  obtain ⟨R, hR⟩ : ∃ R, w2.heap.size = R := ⟨_, rfl⟩
  let F : Fc := ⟨[⟨[⟨0, 0⟩, ⟨9, 0⟩, ⟨9, 9⟩, ⟨0, 9⟩], some ⟨b1, o1, none⟩, 4⟩, ⟨[⟨3, 3⟩, ⟨3, 5⟩, ⟨5, 5⟩, ⟨5, 3⟩], some ⟨b2, o2, none⟩, 4⟩], some ⟨R, 0, none⟩, 2, [], none, 0⟩
  have HA : Rd (w2.alloc (.cells #[.slice (some ⟨b1, o1, none⟩) 4 4, .slice (some ⟨b2, o2, none⟩) 4 4] 66)) (some ⟨R, 0, none⟩) (rcs F.rs) := Rd.lit _ _ [.slice (some ⟨b1, o1, none⟩) 4 4, .slice (some ⟨b2, o2, none⟩) 4 4] _ hR
  have hr1 := hr1.alloc (.cells #[.slice (some ⟨b1, o1, none⟩) 4 4, .slice (some ⟨b2, o2, none⟩) 4 4] 66)
  have hr2 := hr2.alloc (.cells #[.slice (some ⟨b1, o1, none⟩) 4 4, .slice (some ⟨b2, o2, none⟩) 4 4] 66)
  have HBA : Below B w (w2.alloc (.cells #[.slice (some ⟨b1, o1, none⟩) 4 4, .slice (some ⟨b2, o2, none⟩) 4 4] 66)) := HB2.out.alloc hs2 _
  have HSA : (w2.alloc (.cells #[.slice (some ⟨b1, o1, none⟩) 4 4, .slice (some ⟨b2, o2, none⟩) 4 4] 66)).heap.size = R + 1 := by
    show (w2.heap.push _).size = R + 1
    rw [Array.size_push, hR]
  rw [hR]
  generalize w2.alloc (.cells #[.slice (some ⟨b1, o1, none⟩) 4 4, .slice (some ⟨b2, o2, none⟩) 4 4] 66) = wA at *
  have hr1 := hr1.alloc (.cells #[.slice (some ⟨R, 0, none⟩) 2 2, .slice none 0 0] 49)
  have hr2 := hr2.alloc (.cells #[.slice (some ⟨R, 0, none⟩) 2 2, .slice none 0 0] 49)
  have HA := HA.alloc (.cells #[.slice (some ⟨R, 0, none⟩) 2 2, .slice none 0 0] 49)
  have HBX : Rd (wA.alloc (.cells #[.slice (some ⟨R, 0, none⟩) 2 2, .slice none 0 0] 49)) (some ⟨R + 1, 0, none⟩) F.cells := Rd.lit _ _ [.slice (some ⟨R, 0, none⟩) 2 2, .slice none 0 0] _ HSA
  have HB3 := Lib.hid (HBA.alloc (by omega : B ≤ wA.heap.size) (.cells #[.slice (some ⟨R, 0, none⟩) 2 2, .slice none 0 0] 49))
  generalize wA.alloc (.cells #[.slice (some ⟨R, 0, none⟩) 2 2, .slice none 0 0] 49) = w3 at *
  have HOK : Hid (F.Ok w3) := Lib.hid ⟨⟨HA, Nat.le_refl _, (by decide : 2 ≤ maxLen), by simp [F]⟩, by
    intro r hr
    simp only [F, List.mem_cons, List.not_mem_nil, or_false] at hr
    rcases hr with rfl | rfl
    · exact ⟨hr1, Nat.le_refl _, (by decide : 4 ≤ maxLen), by simp⟩
    · exact ⟨hr2, Nat.le_refl _, (by decide : 4 ≤ maxLen), by simp⟩, Rd.nil _ _, Nat.le_refl _, (by decide : 0 ≤ maxLen), fun _ => rfl⟩
  have hs3 : B ≤ w3.heap.size := by
    have := HB3.out.size
    rw [HBE.out] at this; exact this
  have HBX := Lib.hid HBX
  clear HA HBA HSA hr1 hr2 hb1 hb2 HB2 hs2 hR hl1 hl2
  have hLL : ∀ r ∈ F.rs, r.l.length ≤ 1000000 := by
    intro r hr
    simp only [F, List.mem_cons, List.not_mem_nil, or_false] at hr
    rcases hr with rfl | rfl
    · exact (by decide : 4 ≤ 1000000)
    · exact (by decide : 4 ≤ 1000000)
  have hLS : ∀ r ∈ F.rs, r.l.length ≤ 1000 := by
    intro r hr
    simp only [F, List.mem_cons, List.not_mem_nil, or_false] at hr
    rcases hr with rfl | rfl
    · exact (by decide : 4 ≤ 1000)
    · exact (by decide : 4 ≤ 1000)
  have HNE := nest_any F (by decide : 2 ≤ 1000) hLS w3 HOK.out
  rw [show nestF F.rings = ([-1, 0], true) from known_nest] at HNE
  refine HNE.mono ?_
  clear HNE
  rintro e w4 ⟨v, rfl, ho4, hb4⟩
  obtain ⟨pv, cv, rfl⟩ : ∃ p c, v = .slice p 2 c := by
    rcases ho4.2 with ⟨h1, h2⟩ | ⟨g, cap, cur, h1, -⟩
    · cases h2
    · exact ⟨_, _, h1⟩
  have hv4 : Rd w4 pv (ins [-1, 0]) := by
    obtain ⟨a, c, e1, -, -, -, h, -⟩ := ho4.form
    cases e1; exact h
  clear ho4
  have HB4 := Lib.hid (HB3.out.trans (hb4.mono hs3))
  have HOK4 : Hid (F.Ok w4) := Lib.hid (HOK.out.keep hb4)
  have HBX4 := HBX.out.keep hb4
  have hs4 : B ≤ w4.heap.size := Nat.le_trans hs3 hb4.size
  have c0 : w4.cell? ⟨R + 1, 0, none⟩ = some (.slice (some ⟨R, 0, none⟩) 2 2) := by
    obtain ⟨b, o, e, hc, -⟩ := HBX4.at (i := 0) (v := .slice (some ⟨R, 0, none⟩) 2 2) rfl
    cases e; exact hc
  have c1 : w4.cell? ⟨R + 1, 1, none⟩ = some (.slice none 0 0) := by
    obtain ⟨b, o, e, hc, -⟩ := HBX4.at (i := 1) (v := .slice none 0 0) rfl
    cases e; exact hc
  clear hb4 HBX HB3 HOK
  dsimp only
  go_wp2_with fail
  have HA5 : Rd (w4.alloc (.cells #[.slice (some ⟨R, 0, none⟩) 2 2, .slice none 0 0] 49)) (some ⟨w4.heap.size, 0, none⟩) (fcs [F]) := Rd.lit _ _ [.slice (some ⟨R, 0, none⟩) 2 2, .slice none 0 0] _ rfl
  have HOK5 : ∀ f ∈ [F], f.Ok (w4.alloc (.cells #[.slice (some ⟨R, 0, none⟩) 2 2, .slice none 0 0] 49)) := by
    intro f hf
    rw [List.mem_singleton.1 hf]
    exact HOK4.out.keep ((Below.refl _ _).alloc (Nat.le_refl _) _)
  have HV5 := hv4.alloc (.cells #[.slice (some ⟨R, 0, none⟩) 2 2, .slice none 0 0] 49)
  have HBX5 := HBX4.alloc (.cells #[.slice (some ⟨R, 0, none⟩) 2 2, .slice none 0 0] 49)
  have HB5 := HB4.out.alloc hs4 (.cells #[.slice (some ⟨R, 0, none⟩) 2 2, .slice none 0 0] 49)
  generalize w4.alloc (.cells #[.slice (some ⟨R, 0, none⟩) 2 2, .slice none 0 0] 49) = w5 at *
  have HCO := fcount_any (some ⟨w4.heap.size, 0, none⟩) 1 [F] (by decide : 1 ≤ 1000000) (by rw [show cntR ([F].map Fc.rings) = 2 from known_cnt.1]; omega) (by rw [show cntP ([F].map Fc.rings) = 8 from known_cnt.2]; omega) w5 HA5 HOK5
  rw [show cntR ([F].map Fc.rings) = 2 from known_cnt.1, show cntP ([F].map Fc.rings) = 8 from known_cnt.2] at HCO
  rw [show ((2 : Nat) : Int) = 2 from rfl, show ((8 : Nat) : Int) = 8 from rfl] at HCO
  refine HCO.mono ?_
  clear HCO
  rintro e w6 ⟨rfl, hb6⟩
  have hs5 : B ≤ w5.heap.size := by
    have := HB5.size
    rw [HBE.out] at this; exact this
  have HV6 := (HV5.keep hb6).alloc (.cells #[.int .i64 (-1), .int .i64 0] 3)
  have HBX6 := (HBX5.keep hb6).alloc (.cells #[.int .i64 (-1), .int .i64 0] 3)
  have HA6 := (HA5.keep hb6).alloc (.cells #[.int .i64 (-1), .int .i64 0] 3)
  have HOK6 : Hid (F.Ok (w6.alloc (.cells #[.int .i64 (-1), .int .i64 0] 3))) := Lib.hid (((HOK5 F (List.mem_singleton.2 rfl)).keep hb6).keep ((Below.refl _ _).alloc (Nat.le_refl _) _))
  have HB6 := (HB5.trans (hb6.mono hs5)).alloc (Nat.le_trans hs5 hb6.size) (.cells #[.int .i64 (-1), .int .i64 0] 3)
  have HL6 : Rd (w6.alloc (.cells #[.int .i64 (-1), .int .i64 0] 3)) (some ⟨w6.heap.size, 0, none⟩) (ins [-1, 0]) := Rd.lit _ _ [.int .i64 (-1), .int .i64 0] _ rfl
  have HB6 := Lib.hid HB6
  clear HOK5 HOK4 HB5 HB4
  dsimp only
  go_wp2_with fail
  generalize w6.alloc (.cells #[.int .i64 (-1), .int .i64 0] 3) = w7 at *
  refine (ints_same pv (some ⟨w6.heap.size, 0, none⟩) cv 2 [-1, 0] (by decide : 2 ≤ 1000000) w7 HV6 HL6).mono ?_
  rintro e w8 ⟨rfl, q, rfl⟩
  have HBX8 : Rd (w7.drewN q) (some ⟨R + 1, 0, none⟩) F.cells := HBX6
  have c0 : (w7.drewN q).cell? ⟨R + 1, 0, none⟩ = some (.slice (some ⟨R, 0, none⟩) 2 2) := by
    obtain ⟨b, o, e, hc, -⟩ := HBX8.at (i := 0) (v := .slice (some ⟨R, 0, none⟩) 2 2) rfl
    cases e; exact hc
  have c1 : (w7.drewN q).cell? ⟨R + 1, 1, none⟩ = some (.slice none 0 0) := by
    obtain ⟨b, o, e, hc, -⟩ := HBX8.at (i := 1) (v := .slice none 0 0) rfl
    cases e; exact hc
  have HOK8 : Hid (F.Ok (w7.drewN q)) := Lib.hid (HOK6.out.keep (below_drewN (Below.refl _ _) q))
  have HB8 : Hid (Below B w (w7.drewN q)) := Lib.hid (below_drewN HB6.out q)
  clear HBX8 HV6 HL6 HA6 HBX6 HB6 HOK6
  generalize w7.drewN q = w8 at *
  dsimp only
  go_wp2_with fail
  have hs8 : B ≤ w8.heap.size := by
    have := HB8.out.size
    rw [HBE.out] at this; exact this
  have HA9 : Rd (w8.alloc (.cells #[.slice (some ⟨R, 0, none⟩) 2 2, .slice none 0 0] 49)) (some ⟨w8.heap.size, 0, none⟩) (fcs [F]) := Rd.lit _ _ [.slice (some ⟨R, 0, none⟩) 2 2, .slice none 0 0] _ rfl
  have HOK9 : ∀ f ∈ [F], f.Ok (w8.alloc (.cells #[.slice (some ⟨R, 0, none⟩) 2 2, .slice none 0 0] 49)) := by
    intro f hf
    rw [List.mem_singleton.1 hf]
    exact HOK8.out.keep ((Below.refl _ _).alloc (Nat.le_refl _) _)
  have HB9 := Lib.hid (HB8.out.alloc hs8 (.cells #[.slice (some ⟨R, 0, none⟩) 2 2, .slice none 0 0] 49))
  have hs9 : B ≤ (w8.alloc (.cells #[.slice (some ⟨R, 0, none⟩) 2 2, .slice none 0 0] 49)).heap.size := by
    have := HB9.out.size
    rw [HBE.out] at this; exact this
  generalize w8.alloc (.cells #[.slice (some ⟨R, 0, none⟩) 2 2, .slice none 0 0] 49) = w9 at *
  have HCK := fcheck_any (fun _ => 0) (some ⟨w8.heap.size, 0, none⟩) 1 [F] (by decide : 1 ≤ 1000000) (by rw [show cntR ([F].map Fc.rings) = 2 from known_cnt.1]; omega) (by rw [show cntP ([F].map Fc.rings) = 8 from known_cnt.2]; omega) (by
    intro f hf
    rw [List.mem_singleton.1 hf]
    exact hLL) w9 HA9 HOK9 (by
    intro f hf W _
    rw [List.mem_singleton.1 hf]
    exact tcheck_none none 0 W)
  rw [show chkF (fun _ => 0) [F].length ([F].map Fc.rings) ([F].map Fc.ls) = 0 from known_chk (fun _ => 0) rfl] at HCK
  refine HCK.mono ?_
  clear HCK
  rintro e w10 ⟨rfl, hb10⟩
  have HB10 := Lib.hid (HB9.out.trans (hb10.mono hs9))
  clear hb10 HOK9 HOK8 HB9
  dsimp only
  go_wp2
  go_ret
  exact ⟨rfl, by rw [HBE.out]; exact HB10.out⟩
end Go.Proofs.Ytdginfjlelpkmaa
