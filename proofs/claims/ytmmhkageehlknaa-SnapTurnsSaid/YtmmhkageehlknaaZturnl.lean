/-
  SnapTurns: the walk.
-/
import Derived.Test.YtmmhkageehlknaaZknown
import Derived.Test.YtmmhkageehlknaaZturn
import Derived.Test.YtmmhkageehlknaaZalike
import Derived.Test.YtmmhkageehlknaaPc
set_option linter.unusedVariables false
set_option linter.unusedSimpArgs false
set_option maxRecDepth 100000
namespace Go
open Go.RowKit
theorem turnedP_len (l : List Pt) : (turnedP l).length = l.length := by cases l <;> simp [turnedP]
theorem turnedP_map (f : Pt → Pt) (l : List Pt) : (turnedP l).map f = turnedP (l.map f) := by cases l <;> simp [turnedP]
theorem turnedP_all (f : Pt → Bool) (l : List Pt) : (turnedP l).all f = l.all f := by cases l <;> simp [turnedP]
theorem ringOk_turned (z b : Int) (l : List Pt) : ringOk z b (turnedP l) = ringOk z b l := by unfold ringOk; rw [turnedP_all]
theorem ringF_turned (z b : Int) (l : List Pt) : ringF z b (turnedP l) = turnedP (ringF z b l) := by
  unfold ringF
  rw [ringOk_turned]
  cases ringOk z b l with
  | false => rfl
  | true =>
    show ringM (linesF z b) ((turnedP l).map (snapP · z)) = turnedP (ringM (linesF z b) (l.map (snapP · z)))
    rw [turnedP_map, ringM_turned]
theorem ringF_len2 (z b : Int) (l : List Pt) : (ringF z b l).length ≤ l.length * 65 := by
  unfold ringF
  split
  · unfold ringL
    refine Nat.le_trans (edgeF_flat _ (linesF_len z b) _) ?_
    have := thinR_len (l.map (snapP · z))
    simp only [edges, List.length_map, List.length_range] at this ⊢
    omega
  · simp
end Go
namespace Go.Proofs.Ytmmhkageehlknaa
open Go.RowKit Go.Srt
theorem wf_i64 {z : Int} (h : (Lit.int .i64 z).wf = true) : -9223372036854775808 ≤ z ∧ z ≤ 9223372036854775807 := by
  have := (by simpa [Lit.wf] using h : IntKind.i64.min ≤ z ∧ z ≤ IntKind.i64.max)
  exact this

set_option maxHeartbeats 3200000 in
theorem zturns_walk (a : Option Addr) (c n : Nat) (hac : a = none → c = 0) (l : List Pt) (hln : l.length = n) (hn40 : n ≤ 40) (N : Nat) (hN : N ≤ c) (hcut : ∀ w' : World, Calls Try.prog 17 #[.slice a N c] w' fun e w2 => e = .returned (.slice a n c) ∧ w' = w2) (w : World) (hr : Rd w a (pts l)) (z : Int) (hz : -9223372036854775808 ≤ z ∧ z ≤ 9223372036854775807) (b : Int) :
    Calls Try.prog 5 #[.slice a N c, .int .i64 z, .int .i64 b] w fun e w' => e = .returned (.bool true) ∧ Below w.heap.size w w' := by
  have HCUT := Lib.hid hcut
  have HR1 := Lib.hid (fun w h => ring_any a c l z b hz (by omega) w h)
  have HR2 := Lib.hid (fun ad cc w h => ring_any ad cc (turnedP l) z b hz (by rw [turnedP_len]; omega) w h)
  have HT1 := Lib.hid (fun w h => turned_any a c l (by omega) w h hac)
  have HRL := ringF_len2 z b l
  have HT2 := Lib.hid (fun ad cc w h hc => turned_any ad cc (ringF z b l) (by omega) w h hc)
  have HAL := Lib.hid (fun ad ae cc cd w h1 h2 => alike_same ad ae cc cd (turnedP (ringF z b l)) (by rw [turnedP_len]; omega) w h1 h2)
  have HKN := Lib.hid (fun w => zknown_any w)
  rw [ringF_turned, ringOk_turned] at HR2
  have e1 := turnedP_len l
  have e2 := turnedP_len (ringF z b l)
  rw [e1] at HR2
  rw [e2] at HR2 HAL
  generalize turnedP l = TL at *
  generalize ringF z b l = R at *
  generalize turnedP R = TR at *
  obtain ⟨EE, hEE⟩ : ∃ E : Int, (if ringOk z b l = true then 0 else 5) = E := ⟨_, rfl⟩
  rw [hEE] at HR1 HR2
  rw [hln] at HR1 HR2 HT1 HRL
  obtain ⟨m, hm⟩ : ∃ m, R.length = m := ⟨_, rfl⟩
  rw [hm] at HR1 HR2 HT2 HRL HAL
  clear hm hln hcut e1 e2 hEE
  go_enter Try.func5, Try.ntmps5
  go_wp2_with fail
  refine (HCUT.out _).mono ?_
  rintro e w1 ⟨rfl, rfl⟩
  go_wp2_with fail
  refine (HR1.out _ hr).mono ?_
  rintro e w1 ⟨v1, rfl, ho1, hb1⟩
  have hrl := hr.keep hb1
  obtain ⟨ra, rc, rfl, -, -, hrn, hrr, -⟩ := ho1.form
  have hs1 := hb1.size
  clear HCUT HR1 ho1 hr
  go_wp2_with fail
  refine (HT1.out _ hrl).mono ?_
  rintro e w2 ⟨v2, rfl, ho2, hb2⟩
  have hrr := hrr.keep hb2
  obtain ⟨ta, tc, rfl, -, -, -, htr, -⟩ := ho2.form
  have hb3 := hb1.trans (hb2.mono hs1)
  have hs3 := hb3.size
  clear HT1 ho2 hb1 hb2 hs1 hrl
  go_wp2_with fail
  refine (HR2.out ta tc _ htr).mono ?_
  rintro e w3 ⟨v3, rfl, ho3, hb4⟩
  have hrr := hrr.keep hb4
  obtain ⟨sa, sc, rfl, -, -, -, hsr, -⟩ := ho3.form
  have hb5 := hb3.trans (hb4.mono hs3)
  have hs5 := hb5.size
  clear HR2 ho3 hb3 hb4 hs3 htr
  go_wp2_with fail
  refine (HKN.out _).mono ?_
  rintro e w4 ⟨rfl, hb6⟩
  have hrr := hrr.keep hb6
  have hsr := hsr.keep hb6
  have hb7 := hb5.trans (hb6.mono hs5)
  have hs7 := hb7.size
  clear HKN hb5 hb6 hs5
  go_wp2_with fail
  refine (HT2.out ra rc _ hrr hrn).mono ?_
  rintro e w5 ⟨v5, rfl, ho5, hb8⟩
  have hsr := hsr.keep hb8
  obtain ⟨ua, uc, rfl, -, -, -, hur, -⟩ := ho5.form
  have hb9 := hb7.trans (hb8.mono hs7)
  have hs9 := hb9.size
  clear HT2 ho5 hb7 hb8 hs7
  go_wp2_with fail
  refine (HAL.out ua sa uc sc _ hur hsr).mono ?_
  rintro e w6 ⟨rfl, hb10⟩
  have hbF := hb9.trans (hb10.mono hs9)
  clear HAL hb9 hb10
  go_wp2
  go_ret
  exact ⟨rfl, hbF⟩

theorem zturns_law {w : World} (a : Option Addr) (cap : Nat) (X : List Pt) (hl : X.length ≤ cap) (hm : cap ≤ maxLen) (hn : a = none → cap = 0) (hr : Rd w a (pts X)) (_ : ∀ y ∈ X, PtIn y) (z : Int) (hwz : (Lit.int .i64 z).wf = true) (b : Int) (_ : (Lit.int .i64 b).wf = true) :
    Calls Try.prog 5 #[.slice a X.length cap, .int .i64 z, .int .i64 b] w fun e w' => e = .returned (.bool true) ∧ Below w.heap.size w w' := by
  have hrt : Rd w a (pts (X.take 40)) := by rw [← pts_take]; exact hr.take _
  exact zturns_walk a cap (min 40 X.length) hn (X.take 40) (by rw [List.length_take]) (by omega) X.length hl (fun w' => cut3_free a cap X.length hl hm w') w hrt z (wf_i64 hwz) b
end Go.Proofs.Ytmmhkageehlknaa
