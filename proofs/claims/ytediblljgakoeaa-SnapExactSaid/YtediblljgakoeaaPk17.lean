/-
  snap.Exact.
-/
import Derived.Test.YtediblljgakoeaaPk4
import Derived.Test.YtediblljgakoeaaPk16
import Derived.Laws.BitsLemmas
/- snap.Exact. -/
set_option linter.unusedVariables false
set_option linter.unusedSimpArgs false
set_option maxRecDepth 100000
namespace Go
open Go.RowKit
theorem i64_mask (m : Nat) (hm : m ≤ 4) (n : Int) : bits .and .i64 n ((2 ^ m : Nat) - 1 : Int) = n % (2 ^ m : Nat) := by
  have h127 : (BitVec.ofInt 64 ((2 ^ m : Nat) - 1 : Int)).toNat = 2 ^ m - 1 := by
    rcases (by omega : m = 0 ∨ m = 1 ∨ m = 2 ∨ m = 3 ∨ m = 4) with rfl | rfl | rfl | rfl | rfl <;> decide
  have key : (BitVec.ofInt 64 n &&& BitVec.ofInt 64 ((2 ^ m : Nat) - 1 : Int)).toNat = (n % ((2 ^ 64 : Nat) : Int)).toNat % 2 ^ m := by
    rw [BitVec.toNat_and, BitVec.toNat_ofInt, h127, Nat.and_two_pow_sub_one_eq_mod]
  show IntKind.i64.wrap ((BitVec.ofInt 64 n &&& BitVec.ofInt 64 ((2 ^ m : Nat) - 1 : Int)).toNat : Nat) = n % (2 ^ m : Nat)
  rw [key, IntKind.wrap_i64]
  rcases (by omega : m = 0 ∨ m = 1 ∨ m = 2 ∨ m = 3 ∨ m = 4) with rfl | rfl | rfl | rfl | rfl <;> omega
/-- Does nothing of a side move at a level? -/
def exS (z : Int) (s : Sd) : Bool := worldB s.a && decide (s.a.x % powD z = 0 ∧ s.a.y % powD z = 0) && decide (wrap64 (s.b.x - s.a.x) = 0 ∨ wrap64 (s.b.y - s.a.y) = 0 ∨ wrap64 (s.b.x - s.a.x) = wrap64 (s.b.y - s.a.y) ∨ wrap64 (s.b.x - s.a.x) = wrap64 (-wrap64 (s.b.y - s.a.y)))
def exactF (z : Int) (L : List (List (List Pt))) : Bool := levelB z && (allSd L).all (exS z)
end Go
namespace Go.Proofs.Ytediblljgakoeaa
open Go.RowKit

set_option maxHeartbeats 16000000 in
theorem zexact_any (a : Option Addr) (c : Nat) (L : List Fc) (z : Int) (hz : -9223372036854775808 ≤ z ∧ z ≤ 9223372036854775807) (hlen : L.length ≤ 1000000) (hl1 : ∀ f ∈ L, f.rs.length ≤ 1000000) (hl2 : ∀ f ∈ L, ∀ r ∈ f.rs, r.l.length ≤ 1000000) (hall : (allSd (L.map Fc.rings)).length ≤ 1000000)
    (w : World) (hr : Rd w a (fcs L)) (hok : ∀ f ∈ L, f.Ok w) :
    Calls Try.prog 6 #[.slice a L.length c, .int .i64 z] w fun e w' => e = .returned (.bool (exactF z (L.map Fc.rings))) ∧ Below w.heap.size w w' := by
  have HS := Lib.hid (fsides_any a c L hlen hl1 hl2 hall w hr hok)
  have HLV := Lib.hid (level_any z w)
  have HV : Hid (exactF z (L.map Fc.rings) = (levelB z && (allSd (L.map Fc.rings)).all (exS z))) := Lib.hid rfl
  generalize exactF z (L.map Fc.rings) = V at *
  generalize allSd (L.map Fc.rings) = SD at *
  clear hr hok hl1 hl2 hlen
  cases hlv : levelB z with
  | false =>
    have hV := HV.out
    rw [hlv, Bool.false_and] at hV
    subst hV
    rw [hlv] at HLV
    go_enter Try.func6, Try.ntmps6
    go_wp2_with fail
    refine HLV.out.mono ?_
    rintro e w1 ⟨rfl, rfl⟩
    go_wp2
    go_ret
    exact ⟨rfl, Below.refl _ _⟩
  | true =>
    have hV := HV.out
    rw [hlv, Bool.true_and] at hV
    replace HV := Lib.hid hV
    rw [hlv] at HLV
    clear hV
    rcases level_cases hlv with rfl | rfl | rfl | rfl | rfl
    · go_enter Try.func6, Try.ntmps6
      go_wp2_with fail
      refine HLV.out.mono ?_
      rintro e w1 ⟨rfl, rfl⟩
      go_wp2_with fail
      refine HS.out.mono ?_
      rintro e w2 ⟨v, rfl, hown, hb2⟩
      obtain ⟨ps, cs, rfl, -, -, -, hrs, -⟩ := hown.form
      clear hown HS HLV
      go_wp2
      go_loopw [20] (fun i wr => ∃ k : Nat, k ≤ SD.length ∧ i = .int .i64 k ∧ Hid (V = (SD.drop k).all (exS 0)) ∧ Hid (Below w2.heap.size w2 wr)) (fun i _ => SD.length - (intOf i).toNat)
      case atStart => exact ⟨0, Nat.zero_le _, rfl, HV, Lib.hid (Below.refl _ _)⟩
      case round =>
        obtain ⟨k, hk, rfl, HR, HB⟩ := hrel
        by_cases hlt : k < SD.length
        · obtain ⟨s, hs⟩ : ∃ s, SD[k] = s := ⟨_, rfl⟩
          obtain ⟨bs, os, rfl, -, c0, c1, c2, c3, c4, c5⟩ := (hrs.keep HB.out).sd k hlt
          rw [hs] at c0 c1 c2 c3 c4 c5
          have hR := HR.out
          rw [List.drop_eq_getElem_cons hlt, List.all_cons, hs] at hR
          have hX : exS 0 s = (worldB s.a && decide (s.a.x % 16 = 0 ∧ s.a.y % 16 = 0) && decide (wrap64 (s.b.x - s.a.x) = 0 ∨ wrap64 (s.b.y - s.a.y) = 0 ∨ wrap64 (s.b.x - s.a.x) = wrap64 (s.b.y - s.a.y) ∨ wrap64 (s.b.x - s.a.x) = wrap64 (-wrap64 (s.b.y - s.a.y)))) := rfl
          rw [hX] at hR
          clear hX hs
          obtain ⟨sf, sr, ⟨ax, ay⟩, ⟨bx, by'⟩⟩ := s
          dsimp only at c0 c1 c2 c3 c4 c5 hR
          have kS := Blk.lit wr wr.heap.size [.int .i64 sf, .int .i64 sr, .int .i64 ax, .int .i64 ay, .int .i64 bx, .int .i64 by'] 34 rfl
          have hbn := Below.new wr (.cells #[.int .i64 sf, .int .i64 sr, .int .i64 ax, .int .i64 ay, .int .i64 bx, .int .i64 by'] 34)
          have HB1 := Lib.hid (HB.out.trans (hbn.mono HB.out.size))
          clear hbn
          have d2 := kS.cell 2 rfl
          have d3 := kS.cell 3 rfl
          have d4 := kS.cell 4 rfl
          have d5 := kS.cell 5 rfl
          have HWD := Lib.hid (fun W => world_any ⟨ax, ay⟩ W)
          obtain ⟨WB, hWB⟩ : ∃ b, worldB ⟨ax, ay⟩ = b := ⟨_, rfl⟩
          rw [hWB] at hR HWD
          dsimp only [Pt.val] at HWD
          obtain ⟨dx, hdx⟩ : ∃ d, wrap64 (bx - ax) = d := ⟨_, rfl⟩
          obtain ⟨dy, hdy⟩ : ∃ d, wrap64 (by' - ay) = d := ⟨_, rfl⟩
          rw [hdx, hdy] at hR
          obtain ⟨ny, hny⟩ : ∃ d, wrap64 (-dy) = d := ⟨_, rfl⟩
          rw [hny] at hR
          obtain ⟨mx, hmx⟩ : ∃ d, ax % 16 = d := ⟨_, rfl⟩
          obtain ⟨my, hmy⟩ : ∃ d, ay % 16 = d := ⟨_, rfl⟩
          rw [hmx, hmy] at hR
          have hax : bits BinOp.and IntKind.i64 ax 15 = mx := (i64_mask 4 (by omega) ax).trans hmx
          have hay : bits BinOp.and IntKind.i64 ay 15 = my := (i64_mask 4 (by omega) ay).trans hmy
          have HR1 := Lib.hid hR
          clear hR HR hWB hmx hmy
          go_wp2
          go_quiet (fail)
          have kS1 := kS.drewN nq
          have HB2 := Lib.hid (below_drewN HB1.out nq)
          clear d4 d5 c0 c1 c2 c3 c4 c5 kS d2 d3 HB1 HB
          generalize ((wr.alloc (.cells #[.int .i64 sf, .int .i64 sr, .int .i64 ax, .int .i64 ay, .int .i64 bx, .int .i64 by'] 34)).drewN nq) = W3 at *
          obtain ⟨BS, hBS⟩ : ∃ B, wr.heap.size = B := ⟨_, rfl⟩
          rw [hBS] at kS1 ⊢
          simp only [hdx, hdy]
          clear hBS hdx hdy
          have e2 := kS1.cell 2 rfl
          have e3 := kS1.cell 3 rfl
          go_wp2_with fail
          refine (HWD.out _).mono ?_
          rintro e W4 ⟨rfl, hb4⟩
          have kS2 := kS1.keep hb4
          have HB3 := Lib.hid (HB2.out.trans (hb4.mono HB2.out.size))
          clear HWD hb4 kS1 HB2 e2 e3
          have e2 := kS2.cell 2 rfl
          have e3 := kS2.cell 3 rfl
          cases WB with
          | false =>
            have hR := HR1.out
            have hV : V = false := by rw [hR]; simp
            subst hV
            clear hR HR1
            go_wp2
            go_ret
            exact ⟨rfl, hb2.trans (HB3.out.mono hb2.size)⟩
          | true =>
            by_cases p1 : mx = 0
            · have p1b : (mx != 0) = false := by simp [p1]
              by_cases p2 : my = 0
              · have p2b : (my != 0) = false := by simp [p2]
                by_cases p3 : dx = 0
                · have p3b : (dx != 0) = false := by simp [p3]
                  have hR := HR1.out
                  have HR2 : Hid (V = (SD.drop (k + 1)).all (exS 0)) := Lib.hid (by rw [hR]; simp [p1, p2, p3])
                  clear hR HR1
                  go_wp2
                  go_roundw
                  case rel => exact ⟨k + 1, by omega, by go_num, HR2, HB3⟩
                  case measure => simp [intOf]; omega
                · have p3b : (dx != 0) = true := by simpa using p3
                  by_cases p4 : dy = 0
                  · have p4b : (dy != 0) = false := by simp [p4]
                    have hR := HR1.out
                    have HR2 : Hid (V = (SD.drop (k + 1)).all (exS 0)) := Lib.hid (by rw [hR]; simp [p1, p2, p4])
                    clear hR HR1
                    go_wp2
                    go_roundw
                    case rel => exact ⟨k + 1, by omega, by go_num, HR2, HB3⟩
                    case measure => simp [intOf]; omega
                  · have p4b : (dy != 0) = true := by simpa using p4
                    by_cases p5 : dx = dy
                    · have p5b : (dx != dy) = false := by simp [p5]
                      have hR := HR1.out
                      have HR2 : Hid (V = (SD.drop (k + 1)).all (exS 0)) := Lib.hid (by rw [hR]; simp [p1, p2, p5])
                      clear hR HR1
                      go_wp2
                      go_roundw
                      case rel => exact ⟨k + 1, by omega, by go_num, HR2, HB3⟩
                      case measure => simp [intOf]; omega
                    · have p5b : (dx != dy) = true := by simpa using p5
                      by_cases p6 : dx = ny
                      · have p6b : (dx != ny) = false := by simp [p6]
                        have hR := HR1.out
                        have HR2 : Hid (V = (SD.drop (k + 1)).all (exS 0)) := Lib.hid (by rw [hR]; simp [p1, p2, p6])
                        clear hR HR1
                        go_wp2
                        go_roundw
                        case rel => exact ⟨k + 1, by omega, by go_num, HR2, HB3⟩
                        case measure => simp [intOf]; omega
                      · have p6b : (dx != ny) = true := by simpa using p6
                        have hR := HR1.out
                        have hV : V = false := by rw [hR]; simp [p3, p4, p5, p6]
                        subst hV
                        clear hR HR1
                        go_wp2
                        go_ret
                        exact ⟨rfl, hb2.trans (HB3.out.mono hb2.size)⟩
              · have p2b : (my != 0) = true := by simpa using p2
                have hR := HR1.out
                have hV : V = false := by rw [hR]; simp [p2]
                subst hV
                clear hR HR1
                go_wp2
                go_ret
                exact ⟨rfl, hb2.trans (HB3.out.mono hb2.size)⟩
            · have p1b : (mx != 0) = true := by simpa using p1
              have hR := HR1.out
              have hV : V = false := by rw [hR]; simp [p1]
              subst hV
              clear hR HR1
              go_wp2
              go_ret
              exact ⟨rfl, hb2.trans (HB3.out.mono hb2.size)⟩
        · obtain rfl : k = SD.length := by omega
          have hR := HR.out
          rw [List.drop_of_length_le (Nat.le_refl _), List.all_nil] at hR
          subst hR
          go_wp2
          go_ret
          exact ⟨rfl, hb2.trans (HB.out.mono hb2.size)⟩
    · go_enter Try.func6, Try.ntmps6
      go_wp2_with fail
      refine HLV.out.mono ?_
      rintro e w1 ⟨rfl, rfl⟩
      go_wp2_with fail
      refine HS.out.mono ?_
      rintro e w2 ⟨v, rfl, hown, hb2⟩
      obtain ⟨ps, cs, rfl, -, -, -, hrs, -⟩ := hown.form
      clear hown HS HLV
      go_wp2
      go_loopw [20] (fun i wr => ∃ k : Nat, k ≤ SD.length ∧ i = .int .i64 k ∧ Hid (V = (SD.drop k).all (exS 1)) ∧ Hid (Below w2.heap.size w2 wr)) (fun i _ => SD.length - (intOf i).toNat)
      case atStart => exact ⟨0, Nat.zero_le _, rfl, HV, Lib.hid (Below.refl _ _)⟩
      case round =>
        obtain ⟨k, hk, rfl, HR, HB⟩ := hrel
        by_cases hlt : k < SD.length
        · obtain ⟨s, hs⟩ : ∃ s, SD[k] = s := ⟨_, rfl⟩
          obtain ⟨bs, os, rfl, -, c0, c1, c2, c3, c4, c5⟩ := (hrs.keep HB.out).sd k hlt
          rw [hs] at c0 c1 c2 c3 c4 c5
          have hR := HR.out
          rw [List.drop_eq_getElem_cons hlt, List.all_cons, hs] at hR
          have hX : exS 1 s = (worldB s.a && decide (s.a.x % 8 = 0 ∧ s.a.y % 8 = 0) && decide (wrap64 (s.b.x - s.a.x) = 0 ∨ wrap64 (s.b.y - s.a.y) = 0 ∨ wrap64 (s.b.x - s.a.x) = wrap64 (s.b.y - s.a.y) ∨ wrap64 (s.b.x - s.a.x) = wrap64 (-wrap64 (s.b.y - s.a.y)))) := rfl
          rw [hX] at hR
          clear hX hs
          obtain ⟨sf, sr, ⟨ax, ay⟩, ⟨bx, by'⟩⟩ := s
          dsimp only at c0 c1 c2 c3 c4 c5 hR
          have kS := Blk.lit wr wr.heap.size [.int .i64 sf, .int .i64 sr, .int .i64 ax, .int .i64 ay, .int .i64 bx, .int .i64 by'] 34 rfl
          have hbn := Below.new wr (.cells #[.int .i64 sf, .int .i64 sr, .int .i64 ax, .int .i64 ay, .int .i64 bx, .int .i64 by'] 34)
          have HB1 := Lib.hid (HB.out.trans (hbn.mono HB.out.size))
          clear hbn
          have d2 := kS.cell 2 rfl
          have d3 := kS.cell 3 rfl
          have d4 := kS.cell 4 rfl
          have d5 := kS.cell 5 rfl
          have HWD := Lib.hid (fun W => world_any ⟨ax, ay⟩ W)
          obtain ⟨WB, hWB⟩ : ∃ b, worldB ⟨ax, ay⟩ = b := ⟨_, rfl⟩
          rw [hWB] at hR HWD
          dsimp only [Pt.val] at HWD
          obtain ⟨dx, hdx⟩ : ∃ d, wrap64 (bx - ax) = d := ⟨_, rfl⟩
          obtain ⟨dy, hdy⟩ : ∃ d, wrap64 (by' - ay) = d := ⟨_, rfl⟩
          rw [hdx, hdy] at hR
          obtain ⟨ny, hny⟩ : ∃ d, wrap64 (-dy) = d := ⟨_, rfl⟩
          rw [hny] at hR
          obtain ⟨mx, hmx⟩ : ∃ d, ax % 8 = d := ⟨_, rfl⟩
          obtain ⟨my, hmy⟩ : ∃ d, ay % 8 = d := ⟨_, rfl⟩
          rw [hmx, hmy] at hR
          have hax : bits BinOp.and IntKind.i64 ax 7 = mx := (i64_mask 3 (by omega) ax).trans hmx
          have hay : bits BinOp.and IntKind.i64 ay 7 = my := (i64_mask 3 (by omega) ay).trans hmy
          have HR1 := Lib.hid hR
          clear hR HR hWB hmx hmy
          go_wp2
          go_quiet (fail)
          have kS1 := kS.drewN nq
          have HB2 := Lib.hid (below_drewN HB1.out nq)
          clear d4 d5 c0 c1 c2 c3 c4 c5 kS d2 d3 HB1 HB
          generalize ((wr.alloc (.cells #[.int .i64 sf, .int .i64 sr, .int .i64 ax, .int .i64 ay, .int .i64 bx, .int .i64 by'] 34)).drewN nq) = W3 at *
          obtain ⟨BS, hBS⟩ : ∃ B, wr.heap.size = B := ⟨_, rfl⟩
          rw [hBS] at kS1 ⊢
          simp only [hdx, hdy]
          clear hBS hdx hdy
          have e2 := kS1.cell 2 rfl
          have e3 := kS1.cell 3 rfl
          go_wp2_with fail
          refine (HWD.out _).mono ?_
          rintro e W4 ⟨rfl, hb4⟩
          have kS2 := kS1.keep hb4
          have HB3 := Lib.hid (HB2.out.trans (hb4.mono HB2.out.size))
          clear HWD hb4 kS1 HB2 e2 e3
          have e2 := kS2.cell 2 rfl
          have e3 := kS2.cell 3 rfl
          cases WB with
          | false =>
            have hR := HR1.out
            have hV : V = false := by rw [hR]; simp
            subst hV
            clear hR HR1
            go_wp2
            go_ret
            exact ⟨rfl, hb2.trans (HB3.out.mono hb2.size)⟩
          | true =>
            by_cases p1 : mx = 0
            · have p1b : (mx != 0) = false := by simp [p1]
              by_cases p2 : my = 0
              · have p2b : (my != 0) = false := by simp [p2]
                by_cases p3 : dx = 0
                · have p3b : (dx != 0) = false := by simp [p3]
                  have hR := HR1.out
                  have HR2 : Hid (V = (SD.drop (k + 1)).all (exS 1)) := Lib.hid (by rw [hR]; simp [p1, p2, p3])
                  clear hR HR1
                  go_wp2
                  go_roundw
                  case rel => exact ⟨k + 1, by omega, by go_num, HR2, HB3⟩
                  case measure => simp [intOf]; omega
                · have p3b : (dx != 0) = true := by simpa using p3
                  by_cases p4 : dy = 0
                  · have p4b : (dy != 0) = false := by simp [p4]
                    have hR := HR1.out
                    have HR2 : Hid (V = (SD.drop (k + 1)).all (exS 1)) := Lib.hid (by rw [hR]; simp [p1, p2, p4])
                    clear hR HR1
                    go_wp2
                    go_roundw
                    case rel => exact ⟨k + 1, by omega, by go_num, HR2, HB3⟩
                    case measure => simp [intOf]; omega
                  · have p4b : (dy != 0) = true := by simpa using p4
                    by_cases p5 : dx = dy
                    · have p5b : (dx != dy) = false := by simp [p5]
                      have hR := HR1.out
                      have HR2 : Hid (V = (SD.drop (k + 1)).all (exS 1)) := Lib.hid (by rw [hR]; simp [p1, p2, p5])
                      clear hR HR1
                      go_wp2
                      go_roundw
                      case rel => exact ⟨k + 1, by omega, by go_num, HR2, HB3⟩
                      case measure => simp [intOf]; omega
                    · have p5b : (dx != dy) = true := by simpa using p5
                      by_cases p6 : dx = ny
                      · have p6b : (dx != ny) = false := by simp [p6]
                        have hR := HR1.out
                        have HR2 : Hid (V = (SD.drop (k + 1)).all (exS 1)) := Lib.hid (by rw [hR]; simp [p1, p2, p6])
                        clear hR HR1
                        go_wp2
                        go_roundw
                        case rel => exact ⟨k + 1, by omega, by go_num, HR2, HB3⟩
                        case measure => simp [intOf]; omega
                      · have p6b : (dx != ny) = true := by simpa using p6
                        have hR := HR1.out
                        have hV : V = false := by rw [hR]; simp [p3, p4, p5, p6]
                        subst hV
                        clear hR HR1
                        go_wp2
                        go_ret
                        exact ⟨rfl, hb2.trans (HB3.out.mono hb2.size)⟩
              · have p2b : (my != 0) = true := by simpa using p2
                have hR := HR1.out
                have hV : V = false := by rw [hR]; simp [p2]
                subst hV
                clear hR HR1
                go_wp2
                go_ret
                exact ⟨rfl, hb2.trans (HB3.out.mono hb2.size)⟩
            · have p1b : (mx != 0) = true := by simpa using p1
              have hR := HR1.out
              have hV : V = false := by rw [hR]; simp [p1]
              subst hV
              clear hR HR1
              go_wp2
              go_ret
              exact ⟨rfl, hb2.trans (HB3.out.mono hb2.size)⟩
        · obtain rfl : k = SD.length := by omega
          have hR := HR.out
          rw [List.drop_of_length_le (Nat.le_refl _), List.all_nil] at hR
          subst hR
          go_wp2
          go_ret
          exact ⟨rfl, hb2.trans (HB.out.mono hb2.size)⟩
    · go_enter Try.func6, Try.ntmps6
      go_wp2_with fail
      refine HLV.out.mono ?_
      rintro e w1 ⟨rfl, rfl⟩
      go_wp2_with fail
      refine HS.out.mono ?_
      rintro e w2 ⟨v, rfl, hown, hb2⟩
      obtain ⟨ps, cs, rfl, -, -, -, hrs, -⟩ := hown.form
      clear hown HS HLV
      go_wp2
      go_loopw [20] (fun i wr => ∃ k : Nat, k ≤ SD.length ∧ i = .int .i64 k ∧ Hid (V = (SD.drop k).all (exS 2)) ∧ Hid (Below w2.heap.size w2 wr)) (fun i _ => SD.length - (intOf i).toNat)
      case atStart => exact ⟨0, Nat.zero_le _, rfl, HV, Lib.hid (Below.refl _ _)⟩
      case round =>
        obtain ⟨k, hk, rfl, HR, HB⟩ := hrel
        by_cases hlt : k < SD.length
        · obtain ⟨s, hs⟩ : ∃ s, SD[k] = s := ⟨_, rfl⟩
          obtain ⟨bs, os, rfl, -, c0, c1, c2, c3, c4, c5⟩ := (hrs.keep HB.out).sd k hlt
          rw [hs] at c0 c1 c2 c3 c4 c5
          have hR := HR.out
          rw [List.drop_eq_getElem_cons hlt, List.all_cons, hs] at hR
          have hX : exS 2 s = (worldB s.a && decide (s.a.x % 4 = 0 ∧ s.a.y % 4 = 0) && decide (wrap64 (s.b.x - s.a.x) = 0 ∨ wrap64 (s.b.y - s.a.y) = 0 ∨ wrap64 (s.b.x - s.a.x) = wrap64 (s.b.y - s.a.y) ∨ wrap64 (s.b.x - s.a.x) = wrap64 (-wrap64 (s.b.y - s.a.y)))) := rfl
          rw [hX] at hR
          clear hX hs
          obtain ⟨sf, sr, ⟨ax, ay⟩, ⟨bx, by'⟩⟩ := s
          dsimp only at c0 c1 c2 c3 c4 c5 hR
          have kS := Blk.lit wr wr.heap.size [.int .i64 sf, .int .i64 sr, .int .i64 ax, .int .i64 ay, .int .i64 bx, .int .i64 by'] 34 rfl
          have hbn := Below.new wr (.cells #[.int .i64 sf, .int .i64 sr, .int .i64 ax, .int .i64 ay, .int .i64 bx, .int .i64 by'] 34)
          have HB1 := Lib.hid (HB.out.trans (hbn.mono HB.out.size))
          clear hbn
          have d2 := kS.cell 2 rfl
          have d3 := kS.cell 3 rfl
          have d4 := kS.cell 4 rfl
          have d5 := kS.cell 5 rfl
          have HWD := Lib.hid (fun W => world_any ⟨ax, ay⟩ W)
          obtain ⟨WB, hWB⟩ : ∃ b, worldB ⟨ax, ay⟩ = b := ⟨_, rfl⟩
          rw [hWB] at hR HWD
          dsimp only [Pt.val] at HWD
          obtain ⟨dx, hdx⟩ : ∃ d, wrap64 (bx - ax) = d := ⟨_, rfl⟩
          obtain ⟨dy, hdy⟩ : ∃ d, wrap64 (by' - ay) = d := ⟨_, rfl⟩
          rw [hdx, hdy] at hR
          obtain ⟨ny, hny⟩ : ∃ d, wrap64 (-dy) = d := ⟨_, rfl⟩
          rw [hny] at hR
          obtain ⟨mx, hmx⟩ : ∃ d, ax % 4 = d := ⟨_, rfl⟩
          obtain ⟨my, hmy⟩ : ∃ d, ay % 4 = d := ⟨_, rfl⟩
          rw [hmx, hmy] at hR
          have hax : bits BinOp.and IntKind.i64 ax 3 = mx := (i64_mask 2 (by omega) ax).trans hmx
          have hay : bits BinOp.and IntKind.i64 ay 3 = my := (i64_mask 2 (by omega) ay).trans hmy
          have HR1 := Lib.hid hR
          clear hR HR hWB hmx hmy
          go_wp2
          go_quiet (fail)
          have kS1 := kS.drewN nq
          have HB2 := Lib.hid (below_drewN HB1.out nq)
          clear d4 d5 c0 c1 c2 c3 c4 c5 kS d2 d3 HB1 HB
          generalize ((wr.alloc (.cells #[.int .i64 sf, .int .i64 sr, .int .i64 ax, .int .i64 ay, .int .i64 bx, .int .i64 by'] 34)).drewN nq) = W3 at *
          obtain ⟨BS, hBS⟩ : ∃ B, wr.heap.size = B := ⟨_, rfl⟩
          rw [hBS] at kS1 ⊢
          simp only [hdx, hdy]
          clear hBS hdx hdy
          have e2 := kS1.cell 2 rfl
          have e3 := kS1.cell 3 rfl
          go_wp2_with fail
          refine (HWD.out _).mono ?_
          rintro e W4 ⟨rfl, hb4⟩
          have kS2 := kS1.keep hb4
          have HB3 := Lib.hid (HB2.out.trans (hb4.mono HB2.out.size))
          clear HWD hb4 kS1 HB2 e2 e3
          have e2 := kS2.cell 2 rfl
          have e3 := kS2.cell 3 rfl
          cases WB with
          | false =>
            have hR := HR1.out
            have hV : V = false := by rw [hR]; simp
            subst hV
            clear hR HR1
            go_wp2
            go_ret
            exact ⟨rfl, hb2.trans (HB3.out.mono hb2.size)⟩
          | true =>
            by_cases p1 : mx = 0
            · have p1b : (mx != 0) = false := by simp [p1]
              by_cases p2 : my = 0
              · have p2b : (my != 0) = false := by simp [p2]
                by_cases p3 : dx = 0
                · have p3b : (dx != 0) = false := by simp [p3]
                  have hR := HR1.out
                  have HR2 : Hid (V = (SD.drop (k + 1)).all (exS 2)) := Lib.hid (by rw [hR]; simp [p1, p2, p3])
                  clear hR HR1
                  go_wp2
                  go_roundw
                  case rel => exact ⟨k + 1, by omega, by go_num, HR2, HB3⟩
                  case measure => simp [intOf]; omega
                · have p3b : (dx != 0) = true := by simpa using p3
                  by_cases p4 : dy = 0
                  · have p4b : (dy != 0) = false := by simp [p4]
                    have hR := HR1.out
                    have HR2 : Hid (V = (SD.drop (k + 1)).all (exS 2)) := Lib.hid (by rw [hR]; simp [p1, p2, p4])
                    clear hR HR1
                    go_wp2
                    go_roundw
                    case rel => exact ⟨k + 1, by omega, by go_num, HR2, HB3⟩
                    case measure => simp [intOf]; omega
                  · have p4b : (dy != 0) = true := by simpa using p4
                    by_cases p5 : dx = dy
                    · have p5b : (dx != dy) = false := by simp [p5]
                      have hR := HR1.out
                      have HR2 : Hid (V = (SD.drop (k + 1)).all (exS 2)) := Lib.hid (by rw [hR]; simp [p1, p2, p5])
                      clear hR HR1
                      go_wp2
                      go_roundw
                      case rel => exact ⟨k + 1, by omega, by go_num, HR2, HB3⟩
                      case measure => simp [intOf]; omega
                    · have p5b : (dx != dy) = true := by simpa using p5
                      by_cases p6 : dx = ny
                      · have p6b : (dx != ny) = false := by simp [p6]
                        have hR := HR1.out
                        have HR2 : Hid (V = (SD.drop (k + 1)).all (exS 2)) := Lib.hid (by rw [hR]; simp [p1, p2, p6])
                        clear hR HR1
                        go_wp2
                        go_roundw
                        case rel => exact ⟨k + 1, by omega, by go_num, HR2, HB3⟩
                        case measure => simp [intOf]; omega
                      · have p6b : (dx != ny) = true := by simpa using p6
                        have hR := HR1.out
                        have hV : V = false := by rw [hR]; simp [p3, p4, p5, p6]
                        subst hV
                        clear hR HR1
                        go_wp2
                        go_ret
                        exact ⟨rfl, hb2.trans (HB3.out.mono hb2.size)⟩
              · have p2b : (my != 0) = true := by simpa using p2
                have hR := HR1.out
                have hV : V = false := by rw [hR]; simp [p2]
                subst hV
                clear hR HR1
                go_wp2
                go_ret
                exact ⟨rfl, hb2.trans (HB3.out.mono hb2.size)⟩
            · have p1b : (mx != 0) = true := by simpa using p1
              have hR := HR1.out
              have hV : V = false := by rw [hR]; simp [p1]
              subst hV
              clear hR HR1
              go_wp2
              go_ret
              exact ⟨rfl, hb2.trans (HB3.out.mono hb2.size)⟩
        · obtain rfl : k = SD.length := by omega
          have hR := HR.out
          rw [List.drop_of_length_le (Nat.le_refl _), List.all_nil] at hR
          subst hR
          go_wp2
          go_ret
          exact ⟨rfl, hb2.trans (HB.out.mono hb2.size)⟩
    · go_enter Try.func6, Try.ntmps6
      go_wp2_with fail
      refine HLV.out.mono ?_
      rintro e w1 ⟨rfl, rfl⟩
      go_wp2_with fail
      refine HS.out.mono ?_
      rintro e w2 ⟨v, rfl, hown, hb2⟩
      obtain ⟨ps, cs, rfl, -, -, -, hrs, -⟩ := hown.form
      clear hown HS HLV
      go_wp2
      go_loopw [20] (fun i wr => ∃ k : Nat, k ≤ SD.length ∧ i = .int .i64 k ∧ Hid (V = (SD.drop k).all (exS 3)) ∧ Hid (Below w2.heap.size w2 wr)) (fun i _ => SD.length - (intOf i).toNat)
      case atStart => exact ⟨0, Nat.zero_le _, rfl, HV, Lib.hid (Below.refl _ _)⟩
      case round =>
        obtain ⟨k, hk, rfl, HR, HB⟩ := hrel
        by_cases hlt : k < SD.length
        · obtain ⟨s, hs⟩ : ∃ s, SD[k] = s := ⟨_, rfl⟩
          obtain ⟨bs, os, rfl, -, c0, c1, c2, c3, c4, c5⟩ := (hrs.keep HB.out).sd k hlt
          rw [hs] at c0 c1 c2 c3 c4 c5
          have hR := HR.out
          rw [List.drop_eq_getElem_cons hlt, List.all_cons, hs] at hR
          have hX : exS 3 s = (worldB s.a && decide (s.a.x % 2 = 0 ∧ s.a.y % 2 = 0) && decide (wrap64 (s.b.x - s.a.x) = 0 ∨ wrap64 (s.b.y - s.a.y) = 0 ∨ wrap64 (s.b.x - s.a.x) = wrap64 (s.b.y - s.a.y) ∨ wrap64 (s.b.x - s.a.x) = wrap64 (-wrap64 (s.b.y - s.a.y)))) := rfl
          rw [hX] at hR
          clear hX hs
          obtain ⟨sf, sr, ⟨ax, ay⟩, ⟨bx, by'⟩⟩ := s
          dsimp only at c0 c1 c2 c3 c4 c5 hR
          have kS := Blk.lit wr wr.heap.size [.int .i64 sf, .int .i64 sr, .int .i64 ax, .int .i64 ay, .int .i64 bx, .int .i64 by'] 34 rfl
          have hbn := Below.new wr (.cells #[.int .i64 sf, .int .i64 sr, .int .i64 ax, .int .i64 ay, .int .i64 bx, .int .i64 by'] 34)
          have HB1 := Lib.hid (HB.out.trans (hbn.mono HB.out.size))
          clear hbn
          have d2 := kS.cell 2 rfl
          have d3 := kS.cell 3 rfl
          have d4 := kS.cell 4 rfl
          have d5 := kS.cell 5 rfl
          have HWD := Lib.hid (fun W => world_any ⟨ax, ay⟩ W)
          obtain ⟨WB, hWB⟩ : ∃ b, worldB ⟨ax, ay⟩ = b := ⟨_, rfl⟩
          rw [hWB] at hR HWD
          dsimp only [Pt.val] at HWD
          obtain ⟨dx, hdx⟩ : ∃ d, wrap64 (bx - ax) = d := ⟨_, rfl⟩
          obtain ⟨dy, hdy⟩ : ∃ d, wrap64 (by' - ay) = d := ⟨_, rfl⟩
          rw [hdx, hdy] at hR
          obtain ⟨ny, hny⟩ : ∃ d, wrap64 (-dy) = d := ⟨_, rfl⟩
          rw [hny] at hR
          obtain ⟨mx, hmx⟩ : ∃ d, ax % 2 = d := ⟨_, rfl⟩
          obtain ⟨my, hmy⟩ : ∃ d, ay % 2 = d := ⟨_, rfl⟩
          rw [hmx, hmy] at hR
          have hax : bits BinOp.and IntKind.i64 ax 1 = mx := (i64_mask 1 (by omega) ax).trans hmx
          have hay : bits BinOp.and IntKind.i64 ay 1 = my := (i64_mask 1 (by omega) ay).trans hmy
          have HR1 := Lib.hid hR
          clear hR HR hWB hmx hmy
          go_wp2
          go_quiet (fail)
          have kS1 := kS.drewN nq
          have HB2 := Lib.hid (below_drewN HB1.out nq)
          clear d4 d5 c0 c1 c2 c3 c4 c5 kS d2 d3 HB1 HB
          generalize ((wr.alloc (.cells #[.int .i64 sf, .int .i64 sr, .int .i64 ax, .int .i64 ay, .int .i64 bx, .int .i64 by'] 34)).drewN nq) = W3 at *
          obtain ⟨BS, hBS⟩ : ∃ B, wr.heap.size = B := ⟨_, rfl⟩
          rw [hBS] at kS1 ⊢
          simp only [hdx, hdy]
          clear hBS hdx hdy
          have e2 := kS1.cell 2 rfl
          have e3 := kS1.cell 3 rfl
          go_wp2_with fail
          refine (HWD.out _).mono ?_
          rintro e W4 ⟨rfl, hb4⟩
          have kS2 := kS1.keep hb4
          have HB3 := Lib.hid (HB2.out.trans (hb4.mono HB2.out.size))
          clear HWD hb4 kS1 HB2 e2 e3
          have e2 := kS2.cell 2 rfl
          have e3 := kS2.cell 3 rfl
          cases WB with
          | false =>
            have hR := HR1.out
            have hV : V = false := by rw [hR]; simp
            subst hV
            clear hR HR1
            go_wp2
            go_ret
            exact ⟨rfl, hb2.trans (HB3.out.mono hb2.size)⟩
          | true =>
            by_cases p1 : mx = 0
            · have p1b : (mx != 0) = false := by simp [p1]
              by_cases p2 : my = 0
              · have p2b : (my != 0) = false := by simp [p2]
                by_cases p3 : dx = 0
                · have p3b : (dx != 0) = false := by simp [p3]
                  have hR := HR1.out
                  have HR2 : Hid (V = (SD.drop (k + 1)).all (exS 3)) := Lib.hid (by rw [hR]; simp [p1, p2, p3])
                  clear hR HR1
                  go_wp2
                  go_roundw
                  case rel => exact ⟨k + 1, by omega, by go_num, HR2, HB3⟩
                  case measure => simp [intOf]; omega
                · have p3b : (dx != 0) = true := by simpa using p3
                  by_cases p4 : dy = 0
                  · have p4b : (dy != 0) = false := by simp [p4]
                    have hR := HR1.out
                    have HR2 : Hid (V = (SD.drop (k + 1)).all (exS 3)) := Lib.hid (by rw [hR]; simp [p1, p2, p4])
                    clear hR HR1
                    go_wp2
                    go_roundw
                    case rel => exact ⟨k + 1, by omega, by go_num, HR2, HB3⟩
                    case measure => simp [intOf]; omega
                  · have p4b : (dy != 0) = true := by simpa using p4
                    by_cases p5 : dx = dy
                    · have p5b : (dx != dy) = false := by simp [p5]
                      have hR := HR1.out
                      have HR2 : Hid (V = (SD.drop (k + 1)).all (exS 3)) := Lib.hid (by rw [hR]; simp [p1, p2, p5])
                      clear hR HR1
                      go_wp2
                      go_roundw
                      case rel => exact ⟨k + 1, by omega, by go_num, HR2, HB3⟩
                      case measure => simp [intOf]; omega
                    · have p5b : (dx != dy) = true := by simpa using p5
                      by_cases p6 : dx = ny
                      · have p6b : (dx != ny) = false := by simp [p6]
                        have hR := HR1.out
                        have HR2 : Hid (V = (SD.drop (k + 1)).all (exS 3)) := Lib.hid (by rw [hR]; simp [p1, p2, p6])
                        clear hR HR1
                        go_wp2
                        go_roundw
                        case rel => exact ⟨k + 1, by omega, by go_num, HR2, HB3⟩
                        case measure => simp [intOf]; omega
                      · have p6b : (dx != ny) = true := by simpa using p6
                        have hR := HR1.out
                        have hV : V = false := by rw [hR]; simp [p3, p4, p5, p6]
                        subst hV
                        clear hR HR1
                        go_wp2
                        go_ret
                        exact ⟨rfl, hb2.trans (HB3.out.mono hb2.size)⟩
              · have p2b : (my != 0) = true := by simpa using p2
                have hR := HR1.out
                have hV : V = false := by rw [hR]; simp [p2]
                subst hV
                clear hR HR1
                go_wp2
                go_ret
                exact ⟨rfl, hb2.trans (HB3.out.mono hb2.size)⟩
            · have p1b : (mx != 0) = true := by simpa using p1
              have hR := HR1.out
              have hV : V = false := by rw [hR]; simp [p1]
              subst hV
              clear hR HR1
              go_wp2
              go_ret
              exact ⟨rfl, hb2.trans (HB3.out.mono hb2.size)⟩
        · obtain rfl : k = SD.length := by omega
          have hR := HR.out
          rw [List.drop_of_length_le (Nat.le_refl _), List.all_nil] at hR
          subst hR
          go_wp2
          go_ret
          exact ⟨rfl, hb2.trans (HB.out.mono hb2.size)⟩
    · go_enter Try.func6, Try.ntmps6
      go_wp2_with fail
      refine HLV.out.mono ?_
      rintro e w1 ⟨rfl, rfl⟩
      go_wp2_with fail
      refine HS.out.mono ?_
      rintro e w2 ⟨v, rfl, hown, hb2⟩
      obtain ⟨ps, cs, rfl, -, -, -, hrs, -⟩ := hown.form
      clear hown HS HLV
      go_wp2
      go_loopw [20] (fun i wr => ∃ k : Nat, k ≤ SD.length ∧ i = .int .i64 k ∧ Hid (V = (SD.drop k).all (exS 4)) ∧ Hid (Below w2.heap.size w2 wr)) (fun i _ => SD.length - (intOf i).toNat)
      case atStart => exact ⟨0, Nat.zero_le _, rfl, HV, Lib.hid (Below.refl _ _)⟩
      case round =>
        obtain ⟨k, hk, rfl, HR, HB⟩ := hrel
        by_cases hlt : k < SD.length
        · obtain ⟨s, hs⟩ : ∃ s, SD[k] = s := ⟨_, rfl⟩
          obtain ⟨bs, os, rfl, -, c0, c1, c2, c3, c4, c5⟩ := (hrs.keep HB.out).sd k hlt
          rw [hs] at c0 c1 c2 c3 c4 c5
          have hR := HR.out
          rw [List.drop_eq_getElem_cons hlt, List.all_cons, hs] at hR
          have hX : exS 4 s = (worldB s.a && decide (s.a.x % 1 = 0 ∧ s.a.y % 1 = 0) && decide (wrap64 (s.b.x - s.a.x) = 0 ∨ wrap64 (s.b.y - s.a.y) = 0 ∨ wrap64 (s.b.x - s.a.x) = wrap64 (s.b.y - s.a.y) ∨ wrap64 (s.b.x - s.a.x) = wrap64 (-wrap64 (s.b.y - s.a.y)))) := rfl
          rw [hX] at hR
          clear hX hs
          obtain ⟨sf, sr, ⟨ax, ay⟩, ⟨bx, by'⟩⟩ := s
          dsimp only at c0 c1 c2 c3 c4 c5 hR
          have kS := Blk.lit wr wr.heap.size [.int .i64 sf, .int .i64 sr, .int .i64 ax, .int .i64 ay, .int .i64 bx, .int .i64 by'] 34 rfl
          have hbn := Below.new wr (.cells #[.int .i64 sf, .int .i64 sr, .int .i64 ax, .int .i64 ay, .int .i64 bx, .int .i64 by'] 34)
          have HB1 := Lib.hid (HB.out.trans (hbn.mono HB.out.size))
          clear hbn
          have d2 := kS.cell 2 rfl
          have d3 := kS.cell 3 rfl
          have d4 := kS.cell 4 rfl
          have d5 := kS.cell 5 rfl
          have HWD := Lib.hid (fun W => world_any ⟨ax, ay⟩ W)
          obtain ⟨WB, hWB⟩ : ∃ b, worldB ⟨ax, ay⟩ = b := ⟨_, rfl⟩
          rw [hWB] at hR HWD
          dsimp only [Pt.val] at HWD
          obtain ⟨dx, hdx⟩ : ∃ d, wrap64 (bx - ax) = d := ⟨_, rfl⟩
          obtain ⟨dy, hdy⟩ : ∃ d, wrap64 (by' - ay) = d := ⟨_, rfl⟩
          rw [hdx, hdy] at hR
          obtain ⟨ny, hny⟩ : ∃ d, wrap64 (-dy) = d := ⟨_, rfl⟩
          rw [hny] at hR
          obtain ⟨mx, hmx⟩ : ∃ d, ax % 1 = d := ⟨_, rfl⟩
          obtain ⟨my, hmy⟩ : ∃ d, ay % 1 = d := ⟨_, rfl⟩
          rw [hmx, hmy] at hR
          have hax : bits BinOp.and IntKind.i64 ax 0 = mx := (i64_mask 0 (by omega) ax).trans hmx
          have hay : bits BinOp.and IntKind.i64 ay 0 = my := (i64_mask 0 (by omega) ay).trans hmy
          have HR1 := Lib.hid hR
          clear hR HR hWB hmx hmy
          go_wp2
          go_quiet (fail)
          have kS1 := kS.drewN nq
          have HB2 := Lib.hid (below_drewN HB1.out nq)
          clear d4 d5 c0 c1 c2 c3 c4 c5 kS d2 d3 HB1 HB
          generalize ((wr.alloc (.cells #[.int .i64 sf, .int .i64 sr, .int .i64 ax, .int .i64 ay, .int .i64 bx, .int .i64 by'] 34)).drewN nq) = W3 at *
          obtain ⟨BS, hBS⟩ : ∃ B, wr.heap.size = B := ⟨_, rfl⟩
          rw [hBS] at kS1 ⊢
          simp only [hdx, hdy]
          clear hBS hdx hdy
          have e2 := kS1.cell 2 rfl
          have e3 := kS1.cell 3 rfl
          go_wp2_with fail
          refine (HWD.out _).mono ?_
          rintro e W4 ⟨rfl, hb4⟩
          have kS2 := kS1.keep hb4
          have HB3 := Lib.hid (HB2.out.trans (hb4.mono HB2.out.size))
          clear HWD hb4 kS1 HB2 e2 e3
          have e2 := kS2.cell 2 rfl
          have e3 := kS2.cell 3 rfl
          cases WB with
          | false =>
            have hR := HR1.out
            have hV : V = false := by rw [hR]; simp
            subst hV
            clear hR HR1
            go_wp2
            go_ret
            exact ⟨rfl, hb2.trans (HB3.out.mono hb2.size)⟩
          | true =>
            by_cases p1 : mx = 0
            · have p1b : (mx != 0) = false := by simp [p1]
              by_cases p2 : my = 0
              · have p2b : (my != 0) = false := by simp [p2]
                by_cases p3 : dx = 0
                · have p3b : (dx != 0) = false := by simp [p3]
                  have hR := HR1.out
                  have HR2 : Hid (V = (SD.drop (k + 1)).all (exS 4)) := Lib.hid (by rw [hR]; simp [p1, p2, p3])
                  clear hR HR1
                  go_wp2
                  go_roundw
                  case rel => exact ⟨k + 1, by omega, by go_num, HR2, HB3⟩
                  case measure => simp [intOf]; omega
                · have p3b : (dx != 0) = true := by simpa using p3
                  by_cases p4 : dy = 0
                  · have p4b : (dy != 0) = false := by simp [p4]
                    have hR := HR1.out
                    have HR2 : Hid (V = (SD.drop (k + 1)).all (exS 4)) := Lib.hid (by rw [hR]; simp [p1, p2, p4])
                    clear hR HR1
                    go_wp2
                    go_roundw
                    case rel => exact ⟨k + 1, by omega, by go_num, HR2, HB3⟩
                    case measure => simp [intOf]; omega
                  · have p4b : (dy != 0) = true := by simpa using p4
                    by_cases p5 : dx = dy
                    · have p5b : (dx != dy) = false := by simp [p5]
                      have hR := HR1.out
                      have HR2 : Hid (V = (SD.drop (k + 1)).all (exS 4)) := Lib.hid (by rw [hR]; simp [p1, p2, p5])
                      clear hR HR1
                      go_wp2
                      go_roundw
                      case rel => exact ⟨k + 1, by omega, by go_num, HR2, HB3⟩
                      case measure => simp [intOf]; omega
                    · have p5b : (dx != dy) = true := by simpa using p5
                      by_cases p6 : dx = ny
                      · have p6b : (dx != ny) = false := by simp [p6]
                        have hR := HR1.out
                        have HR2 : Hid (V = (SD.drop (k + 1)).all (exS 4)) := Lib.hid (by rw [hR]; simp [p1, p2, p6])
                        clear hR HR1
                        go_wp2
                        go_roundw
                        case rel => exact ⟨k + 1, by omega, by go_num, HR2, HB3⟩
                        case measure => simp [intOf]; omega
                      · have p6b : (dx != ny) = true := by simpa using p6
                        have hR := HR1.out
                        have hV : V = false := by rw [hR]; simp [p3, p4, p5, p6]
                        subst hV
                        clear hR HR1
                        go_wp2
                        go_ret
                        exact ⟨rfl, hb2.trans (HB3.out.mono hb2.size)⟩
              · have p2b : (my != 0) = true := by simpa using p2
                have hR := HR1.out
                have hV : V = false := by rw [hR]; simp [p2]
                subst hV
                clear hR HR1
                go_wp2
                go_ret
                exact ⟨rfl, hb2.trans (HB3.out.mono hb2.size)⟩
            · have p1b : (mx != 0) = true := by simpa using p1
              have hR := HR1.out
              have hV : V = false := by rw [hR]; simp [p1]
              subst hV
              clear hR HR1
              go_wp2
              go_ret
              exact ⟨rfl, hb2.trans (HB3.out.mono hb2.size)⟩
        · obtain rfl : k = SD.length := by omega
          have hR := HR.out
          rw [List.drop_of_length_le (Nat.le_refl _), List.all_nil] at hR
          subst hR
          go_wp2
          go_ret
          exact ⟨rfl, hb2.trans (HB.out.mono hb2.size)⟩
end Go.Proofs.Ytediblljgakoeaa
