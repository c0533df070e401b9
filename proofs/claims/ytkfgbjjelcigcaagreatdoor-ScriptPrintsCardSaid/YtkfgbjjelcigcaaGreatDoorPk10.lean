/-
  value.number of what Digits told, value.Parse of what Print told. script.attr, of a right attribute's words. script.Check.
-/
import Derived.Test.YtkfgbjjelcigcaaGreatDoorPk9
import Derived.Test.YtkfgbjjelcigcaaGreatDoorPk5
import Derived.Test.YtkfgbjjelcigcaaGreatDoorPk6
import Derived.BigRegion
import Derived.RegionTactic
import Derived.Test.YtkfgbjjelcigcaaGreatDoorPk3
/- value.number of what Digits told, value.Parse of what Print told. -/
set_option linter.unusedVariables false
set_option linter.unusedSimpArgs false
set_option maxRecDepth 100000
namespace Go
open Go.RowKit
theorem first_rune (s : ByteArray) (c : Nat) (hc : c < 128) (t : List UInt8) (h : s.data.toList = c.toUInt8 :: t) : Utf8.decode s 0 = (c, 1) ∧ 0 < s.size := by
  have h1 := drop_dec s 0 c (.inl (by omega)) t (by rw [List.drop_zero, enc_one hc, h]; rfl); rw [enc_one hc] at h1; exact ⟨h1.1, h1.2.2⟩
theorem rl_len (s : ByteArray) : ∀ (f p : Nat), (rl s f p).length ≤ f
  | 0, p => by simp [rl]
  | f + 1, p => by
    unfold rl
    split
    · have := rl_len s f (p + (Utf8.decode s p).2); simp only [List.length_cons]; omega
    · simp
theorem forms_len' (l : List (Nat × Nat)) : (formsF l).length ≤ 4 * l.length := by
  induction l with
  | nil => simp [formsF]
  | cons x l ih =>
    have h1 := formF_len x.1; unfold formsF at ih ⊢; rw [List.flatMap_cons, List.length_append, List.length_cons]; omega
theorem quote_len (t : ByteArray) : (quoteF t).length ≤ 2 + 4 * t.size := by
  have h1 := forms_len' (runesF t); have h2 := rl_len t t.size 0; have h3 : (runesF t).length ≤ t.size := h2; unfold quoteF; rw [List.length_append, List.length_append]; simp only [List.length_cons, List.length_nil]; omega
theorem itoa_plain (n : Int) (h : 0 ≤ n) : Lib.itoa n = Lib.decDigits n.natAbs := by
  unfold Lib.itoa; rw [if_neg (by omega)]
  congr 1
  omega
theorem pre_minus (n : Int) (h : 0 ≤ n) : Lib.hasPrefix (Lib.itoa n) [45] = false := by
  rw [itoa_plain n h]; have hb := Dec.dec_bytes n.natAbs; generalize Lib.decDigits n.natAbs = L at *
  cases L with
  | nil => rfl
  | cons c r =>
    have := (hb c List.mem_cons_self).1; have hne : (45 == c) = false := by
      rw [beq_eq_false_iff_ne]; intro e; rw [← e] at this; revert this; decide
    simp [Lib.hasPrefix, List.isPrefixOf, hne]
theorem extract_tail (c : UInt8) (l : List UInt8) : ((⟨#[c]⟩ : ByteArray) ++ ⟨l.toArray⟩).extract 1 (1 + l.length) = ⟨l.toArray⟩ := by
  apply ByteArray.ext; apply Array.ext'; simp
end Go
namespace Go.Proofs.YtkfgbjjelcigcaaGreatDoor
open Go.RowKit
set_option maxHeartbeats 2000000 in
theorem valnum_any (k n : Int) (h0 : -1152921504606846976 ≤ n) (h1 : n ≤ 1152921504606846976) (w : World) :
    Calls Tryz.prog 80 #[.int .i64 k, .string ⟨(Lib.itoa n).toArray⟩] w fun e w' => e = .returned (.tuple #[.agg #[.int .i64 k, .string ⟨#[]⟩, .int .i64 n], .int .i64 0]) ∧ Below w.heap.size w w' := by
  have HN := Lib.hid (fun W => number_itoa n h0 h1 W); obtain ⟨B, hB⟩ : ∃ B, w.heap.size = B := ⟨_, rfl⟩; have hBb : w.heap.size ≤ B := by omega
  have hbw := Below.new w (.cells #[.int .i64 0, .string ⟨#[]⟩, .int .i64 0] 44); have k0 := Blk.lit w B [.int .i64 0, .string ⟨#[]⟩, .int .i64 0] 44 hB
  go_enter Tryz.func80, Tryz.ntmps80
  go_wp2_with fail
  refine (HN.out _).mono ?_; rintro e w1 ⟨rfl, hb1⟩; have k1 := k0.keep hb1; have hbz := hbw.trans (hb1.mono hbw.size); clear k0 hb1 hbw HN; have sc0 := k1.cell 0 rfl; have sf0 := k1.free 0; have sk0 := k1.set 0 (.int .i64 k); have sc1 := sk0.cell 1 rfl; have sf1 := sk0.free 1; have sk1 := sk0.set 1 (.string ⟨#[]⟩); have sc2 := sk1.cell 2 rfl; have sf2 := sk1.free 2; have kF := sk1.set 2 (.int .i64 n); go_wp2; refine bodyPost_ret (v := .tuple #[.agg #[.int .i64 k, .string ⟨#[]⟩, .int .i64 n], .int .i64 0]) ?_ rfl ⟨rfl, by have hX := ((hbz.set_at (b := B) (o := 0) hBb (.int .i64 k)).set_at (b := B) (o := 1) hBb (.string ⟨#[]⟩)).set_at (b := B) (o := 2) hBb (.int .i64 n); first | exact hX | (rw [hB] at hX; exact hX)⟩; have q0 := kF.cell 0 rfl; have q1 := kF.cell 1 rfl; have q2 := kF.cell 2 rfl; simp [results, Tryz.results80, go_sem, q0, q1, q2]
set_option maxHeartbeats 8000000 in
theorem parse_print (v : VV) (hE : vE v = 0) (w : World) :
    Calls Tryz.prog 72 #[.string (prnF v)] w fun e w' => e = .returned (.tuple #[vVal v, .int .i64 0]) ∧ Below w.heap.size w w' := by
  have hz := vE_zero v hE; have hri := vE_right v hE; obtain ⟨k, t, n⟩ := v; dsimp only at hz hri; dsimp only [vVal]; have HP := Lib.hid (prnF.eq_1 (k, t, n)); dsimp only at HP; obtain ⟨S, hS⟩ : ∃ S, prnF (k, t, n) = S := ⟨_, rfl⟩; rw [hS] at HP ⊢; obtain ⟨B, hB⟩ : ∃ B, w.heap.size = B := ⟨_, rfl⟩; have hBb : w.heap.size ≤ B := by omega
  have hb0 := Below.new w (.cells #[.int .i64 0, .string ⟨#[]⟩, .int .i64 0] 44); have k0 := Blk.lit w B [.int .i64 0, .string ⟨#[]⟩, .int .i64 0] 44 hB; have hwA : (w.alloc (.cells #[.int .i64 0, .string ⟨#[]⟩, .int .i64 0] 44)).heap.size = B + 1 := by simp [hB]
  clear hE hS
  rcases hz with ⟨rfl, rfl, h3⟩ | ⟨rfl, rfl, h3, h4⟩ | ⟨rfl, rfl, h3, h4⟩ | ⟨rfl, rfl, h3, h4⟩
  · have HR := Lib.hid (hri rfl); have hPS := HP.out; rw [if_pos rfl] at hPS; have hSl : S.data.toList = quoteF t := by rw [hPS]
    have hql : quoteF t = (34 : Nat).toUInt8 :: (((runesF t).map (·.1)).flatMap formF ++ [34]) := by rw [quote_runes]; rfl
    obtain ⟨hd, hsz⟩ := first_rune S 34 (by decide) _ (hSl.trans hql); have huq := unquote_quote t HR.out []; rw [List.append_nil, ← hPS] at huq; have hsl : (quoteF t).length = S.size := by rw [hPS]; simp [ByteArray.size]
    rw [hsl] at huq; have hS6 : S.size ≤ 100000 := by have := quote_len t; omega
    have HU := Lib.hid (fun W => unq_any S hS6 W); rw [huq] at HU; have htt : (⟨t.data.toList.toArray⟩ : ByteArray) = t := rfl; rw [htt] at HU; clear hPS hSl hql huq hsl HP hri HR htt
    go_enter Tryz.func72, Tryz.ntmps72
    go_wp2; generalize w.alloc (.cells #[.int .i64 0, .string ⟨#[]⟩, .int .i64 0] 44) = wA at *
    go_loopw [] (fun wr => wr = wA.iter S 0) (fun _ => 1)
    case atStart => rfl
    case round =>
      subst hrel; have hnx := fun ty => run_next_any (P := Tryz.prog) wA S 0 ty hsz; rw [hd, hwA] at hnx; have k1 := k0.keep (below_iter wA S 1); have hbz := hb0.trans ((below_iter wA S 1).mono hb0.size)
      go_wp2_with fail
      refine (HU.out _).mono ?_; rintro e w2 ⟨rfl, hb2⟩; have k2 := k1.keep hb2; have hb3 := hbz.trans (hb2.mono hbz.size); clear hb2 hnx hd HU hwA; have sc0 := k2.cell 0 rfl; have sf0 := k2.free 0; have sk0 := k2.set 0 (.int .i64 1); have sc1 := sk0.cell 1 rfl; have sf1 := sk0.free 1; have sk1 := sk0.set 1 (.string t); have sc2 := sk1.cell 2 rfl; have sf2 := sk1.free 2; have kF := sk1.set 2 (.int .i64 0); go_wp2; refine bodyPost_ret (v := .tuple #[.agg #[.int .i64 1, .string t, .int .i64 0], .int .i64 0]) ?_ rfl ⟨rfl, by have hX := ((hb3.set_at (b := B) (o := 0) hBb (.int .i64 1)).set_at (b := B) (o := 1) hBb (.string t)).set_at (b := B) (o := 2) hBb (.int .i64 0); first | exact hX | (rw [hB] at hX; exact hX)⟩; have q0 := kF.cell 0 rfl; have q1 := kF.cell 1 rfl; have q2 := kF.cell 2 rfl; simp [results, Tryz.results72, go_sem, q0, q1, q2]
  · have hPS := HP.out; rw [if_neg (by decide), if_pos rfl] at hPS; obtain ⟨hd, hsz⟩ := first_rune S 117 (by decide) (Lib.itoa n) (by rw [hPS]; simp); have hLn := Lib.itoa_length_le n (by omega) (by omega); have HPM := Lib.hid (pre_minus n h3); have HNU := Lib.hid (fun W => valnum_any 2 n (by omega) h4 W); have hsl : S.extract 1 S.size = ⟨(Lib.itoa n).toArray⟩ := by
      have e : S.size = 1 + (Lib.itoa n).length := by rw [hPS]; simp [ByteArray.size, ByteArray.size_append]; omega
      rw [e, hPS]; exact extract_tail _ _
    obtain ⟨DG, hDG⟩ : ∃ D : ByteArray, (⟨(Lib.itoa n).toArray⟩ : ByteArray) = D := ⟨_, rfl⟩; have HPX := Lib.hid (fun W => Tryz.strings_HasPrefix DG ⟨#[45]⟩ W); have hpx : Lib.hasPrefix DG.data.toList (⟨#[45]⟩ : ByteArray).data.toList = false := by rw [← hDG]; exact HPM.out
    rw [hpx] at HPX; rw [hDG] at HNU hsl; clear hPS HP hri HPM hDG hpx hLn
    go_enter Tryz.func72, Tryz.ntmps72
    go_wp2; generalize w.alloc (.cells #[.int .i64 0, .string ⟨#[]⟩, .int .i64 0] 44) = wA at *
    go_loopw [] (fun wr => wr = wA.iter S 0) (fun _ => 1)
    case atStart => rfl
    case round =>
      subst hrel; have hnx := fun ty => run_next_any (P := Tryz.prog) wA S 0 ty hsz; rw [hd, hwA] at hnx; have k1 := k0.keep (below_iter wA S 1); have hbz := hb0.trans ((below_iter wA S 1).mono hb0.size)
      go_wp2_with fail
      refine (HPX.out _).mono ?_; rintro e w2 ⟨rfl, rfl⟩
      go_wp2_with fail
      refine (HNU.out _).mono ?_; rintro e w2 ⟨rfl, hb2⟩; have k2 := k1.keep hb2; have hb3 := hbz.trans (hb2.mono hbz.size); clear hb2 hnx hd HNU hwA; have sc0 := k2.cell 0 rfl; have sf0 := k2.free 0; have sk0 := k2.set 0 (.int .i64 2); have sc1 := sk0.cell 1 rfl; have sf1 := sk0.free 1; have sk1 := sk0.set 1 (.string ⟨#[]⟩); have sc2 := sk1.cell 2 rfl; have sf2 := sk1.free 2; have kF := sk1.set 2 (.int .i64 n); go_wp2; refine bodyPost_ret (v := .tuple #[.agg #[.int .i64 2, .string ⟨#[]⟩, .int .i64 n], .int .i64 0]) ?_ rfl ⟨rfl, by have hX := ((hb3.set_at (b := B) (o := 0) hBb (.int .i64 2)).set_at (b := B) (o := 1) hBb (.string ⟨#[]⟩)).set_at (b := B) (o := 2) hBb (.int .i64 n); first | exact hX | (rw [hB] at hX; exact hX)⟩; have q0 := kF.cell 0 rfl; have q1 := kF.cell 1 rfl; have q2 := kF.cell 2 rfl; simp [results, Tryz.results72, go_sem, q0, q1, q2]
  · by_cases hn : 0 ≤ n
    · have hPS := HP.out; rw [if_neg (by decide), if_neg (by decide), if_pos rfl, if_pos hn] at hPS; obtain ⟨hd, hsz⟩ := first_rune S 43 (by decide) (Lib.itoa n) (by rw [hPS]; simp); have hLn := Lib.itoa_length_le n (by omega) (by omega); have HPM := Lib.hid (pre_minus n hn); have HNU := Lib.hid (fun W => valnum_any 3 n h3 h4 W); have hsl : S.extract 1 S.size = ⟨(Lib.itoa n).toArray⟩ := by
        have e : S.size = 1 + (Lib.itoa n).length := by rw [hPS]; simp [ByteArray.size, ByteArray.size_append]; omega
        rw [e, hPS]; exact extract_tail _ _
      obtain ⟨DG, hDG⟩ : ∃ D : ByteArray, (⟨(Lib.itoa n).toArray⟩ : ByteArray) = D := ⟨_, rfl⟩; have HPX := Lib.hid (fun W => Tryz.strings_HasPrefix DG ⟨#[45]⟩ W); have hpx : Lib.hasPrefix DG.data.toList (⟨#[45]⟩ : ByteArray).data.toList = false := by rw [← hDG]; exact HPM.out
      rw [hpx] at HPX; rw [hDG] at HNU hsl; clear hPS HP hri HPM hDG hpx hLn
      go_enter Tryz.func72, Tryz.ntmps72
      go_wp2; generalize w.alloc (.cells #[.int .i64 0, .string ⟨#[]⟩, .int .i64 0] 44) = wA at *
      go_loopw [] (fun wr => wr = wA.iter S 0) (fun _ => 1)
      case atStart => rfl
      case round =>
        subst hrel; have hnx := fun ty => run_next_any (P := Tryz.prog) wA S 0 ty hsz; rw [hd, hwA] at hnx; have k1 := k0.keep (below_iter wA S 1); have hbz := hb0.trans ((below_iter wA S 1).mono hb0.size)
        go_wp2_with fail
        refine (HPX.out _).mono ?_; rintro e w2 ⟨rfl, rfl⟩
        go_wp2_with fail
        refine (HNU.out _).mono ?_; rintro e w2 ⟨rfl, hb2⟩; have k2 := k1.keep hb2; have hb3 := hbz.trans (hb2.mono hbz.size); clear hb2 hnx hd HNU hwA; have sc0 := k2.cell 0 rfl; have sf0 := k2.free 0; have sk0 := k2.set 0 (.int .i64 3); have sc1 := sk0.cell 1 rfl; have sf1 := sk0.free 1; have sk1 := sk0.set 1 (.string ⟨#[]⟩); have sc2 := sk1.cell 2 rfl; have sf2 := sk1.free 2; have kF := sk1.set 2 (.int .i64 n); go_wp2; refine bodyPost_ret (v := .tuple #[.agg #[.int .i64 3, .string ⟨#[]⟩, .int .i64 n], .int .i64 0]) ?_ rfl ⟨rfl, by have hX := ((hb3.set_at (b := B) (o := 0) hBb (.int .i64 3)).set_at (b := B) (o := 1) hBb (.string ⟨#[]⟩)).set_at (b := B) (o := 2) hBb (.int .i64 n); first | exact hX | (rw [hB] at hX; exact hX)⟩; have q0 := kF.cell 0 rfl; have q1 := kF.cell 1 rfl; have q2 := kF.cell 2 rfl; simp [results, Tryz.results72, go_sem, q0, q1, q2]
    · have hPS := HP.out; rw [if_neg (by decide), if_neg (by decide), if_pos rfl, if_neg hn] at hPS; have hit : Lib.itoa n = (45 : Nat).toUInt8 :: Lib.decDigits n.natAbs := by
        unfold Lib.itoa; rw [if_pos (by omega)]
        rfl
      obtain ⟨hd, hsz⟩ := first_rune S 45 (by decide) (Lib.decDigits n.natAbs) (by rw [hPS]; exact hit); have HNU := Lib.hid (fun W => valnum_any 3 n h3 h4 W); rw [← hPS] at HNU; clear hPS HP hri hit
      go_enter Tryz.func72, Tryz.ntmps72
      go_wp2; generalize w.alloc (.cells #[.int .i64 0, .string ⟨#[]⟩, .int .i64 0] 44) = wA at *
      go_loopw [] (fun wr => wr = wA.iter S 0) (fun _ => 1)
      case atStart => rfl
      case round =>
        subst hrel; have hnx := fun ty => run_next_any (P := Tryz.prog) wA S 0 ty hsz; rw [hd, hwA] at hnx; have k1 := k0.keep (below_iter wA S 1); have hbz := hb0.trans ((below_iter wA S 1).mono hb0.size)
        go_wp2_with fail
        refine (HNU.out _).mono ?_; rintro e w2 ⟨rfl, hb2⟩; have k2 := k1.keep hb2; have hb3 := hbz.trans (hb2.mono hbz.size); clear hb2 hnx hd HNU hwA; have sc0 := k2.cell 0 rfl; have sf0 := k2.free 0; have sk0 := k2.set 0 (.int .i64 3); have sc1 := sk0.cell 1 rfl; have sf1 := sk0.free 1; have sk1 := sk0.set 1 (.string ⟨#[]⟩); have sc2 := sk1.cell 2 rfl; have sf2 := sk1.free 2; have kF := sk1.set 2 (.int .i64 n); go_wp2; refine bodyPost_ret (v := .tuple #[.agg #[.int .i64 3, .string ⟨#[]⟩, .int .i64 n], .int .i64 0]) ?_ rfl ⟨rfl, by have hX := ((hb3.set_at (b := B) (o := 0) hBb (.int .i64 3)).set_at (b := B) (o := 1) hBb (.string ⟨#[]⟩)).set_at (b := B) (o := 2) hBb (.int .i64 n); first | exact hX | (rw [hB] at hX; exact hX)⟩; have q0 := kF.cell 0 rfl; have q1 := kF.cell 1 rfl; have q2 := kF.cell 2 rfl; simp [results, Tryz.results72, go_sem, q0, q1, q2]
  · have hPS := HP.out; rw [if_neg (by decide), if_neg (by decide), if_neg (by decide)] at hPS
    rcases (by omega : n = 0 ∨ n = 1) with rfl | rfl
    · rw [if_neg (by decide)] at hPS; obtain ⟨hd, hsz⟩ := first_rune S 110 (by decide) [111] (by rw [hPS]; rfl); subst hPS; clear HP hri
      go_enter Tryz.func72, Tryz.ntmps72
      go_wp2; generalize w.alloc (.cells #[.int .i64 0, .string ⟨#[]⟩, .int .i64 0] 44) = wA at *
      go_loopw [] (fun wr => wr = wA.iter ⟨#[110, 111]⟩ 0) (fun _ => 1)
      case atStart => rfl
      case round =>
        subst hrel; have hnx := fun ty => run_next_any (P := Tryz.prog) wA ⟨#[110, 111]⟩ 0 ty hsz; rw [hd, hwA] at hnx; have k1 := k0.keep (below_iter wA ⟨#[110, 111]⟩ 1); have hbz := hb0.trans ((below_iter wA ⟨#[110, 111]⟩ 1).mono hb0.size); have sc0 := k1.cell 0 rfl; have sf0 := k1.free 0; have sk0 := k1.set 0 (.int .i64 4); have sc1 := sk0.cell 1 rfl; have sf1 := sk0.free 1; have sk1 := sk0.set 1 (.string ⟨#[]⟩); have sc2 := sk1.cell 2 rfl; have sf2 := sk1.free 2; have kF := sk1.set 2 (.int .i64 0); go_wp2; refine bodyPost_ret (v := .tuple #[.agg #[.int .i64 4, .string ⟨#[]⟩, .int .i64 0], .int .i64 0]) ?_ rfl ⟨rfl, by have hX := ((hbz.set_at (b := B) (o := 0) hBb (.int .i64 4)).set_at (b := B) (o := 1) hBb (.string ⟨#[]⟩)).set_at (b := B) (o := 2) hBb (.int .i64 0); first | exact hX | (rw [hB] at hX; exact hX)⟩; have q0 := kF.cell 0 rfl; have q1 := kF.cell 1 rfl; have q2 := kF.cell 2 rfl; simp [results, Tryz.results72, go_sem, q0, q1, q2]
    · rw [if_pos rfl] at hPS; obtain ⟨hd, hsz⟩ := first_rune S 121 (by decide) [101, 115] (by rw [hPS]; rfl); subst hPS; clear HP hri
      go_enter Tryz.func72, Tryz.ntmps72
      go_wp2; generalize w.alloc (.cells #[.int .i64 0, .string ⟨#[]⟩, .int .i64 0] 44) = wA at *
      go_loopw [] (fun wr => wr = wA.iter ⟨#[121, 101, 115]⟩ 0) (fun _ => 1)
      case atStart => rfl
      case round =>
        subst hrel; have hnx := fun ty => run_next_any (P := Tryz.prog) wA ⟨#[121, 101, 115]⟩ 0 ty hsz; rw [hd, hwA] at hnx; have k1 := k0.keep (below_iter wA ⟨#[121, 101, 115]⟩ 1); have hbz := hb0.trans ((below_iter wA ⟨#[121, 101, 115]⟩ 1).mono hb0.size); have sc0 := k1.cell 0 rfl; have sf0 := k1.free 0; have sk0 := k1.set 0 (.int .i64 4); have sc1 := sk0.cell 1 rfl; have sf1 := sk0.free 1; have sk1 := sk0.set 1 (.string ⟨#[]⟩); have sc2 := sk1.cell 2 rfl; have sf2 := sk1.free 2; have kF := sk1.set 2 (.int .i64 1); go_wp2; refine bodyPost_ret (v := .tuple #[.agg #[.int .i64 4, .string ⟨#[]⟩, .int .i64 1], .int .i64 0]) ?_ rfl ⟨rfl, by have hX := ((hbz.set_at (b := B) (o := 0) hBb (.int .i64 4)).set_at (b := B) (o := 1) hBb (.string ⟨#[]⟩)).set_at (b := B) (o := 2) hBb (.int .i64 1); first | exact hX | (rw [hB] at hX; exact hX)⟩; have q0 := kF.cell 0 rfl; have q1 := kF.cell 1 rfl; have q2 := kF.cell 2 rfl; simp [results, Tryz.results72, go_sem, q0, q1, q2]
end Go.Proofs.YtkfgbjjelcigcaaGreatDoor
/- script.attr, of a right attribute's words. -/
set_option linter.unusedVariables false
set_option linter.unusedSimpArgs false
set_option maxRecDepth 100000
namespace Go.Proofs.YtkfgbjjelcigcaaGreatDoor
open Go.RowKit
set_option maxHeartbeats 6400000 in
theorem attr_any (a : Option Addr) (c : Nat) (K key T : ByteArray) (q : Bool) (v : VV) (hE : vE v = 0) (hN : nameF key = true) (hks : key.size ≤ maxLen) (hq : (q = true ∧ v = (1, T, 0) ∧ T.size ≤ 64) ∨ (q = false ∧ T = prnF v)) (w : World) (hr : Rd w a [.string K, .bool false, .string key, .bool false, .string T, .bool q]) :
    Calls Tryz.prog 60 #[.slice a 3 c] w fun e w' => e = .returned (.tuple #[.agg #[.int .i64 6, .slice none 0 0, .string key, .int .i64 v.1, .string v.2.1, .int .i64 v.2.2], .int .i64 0]) ∧ Below w.heap.size w w' := by
  have HNA := Lib.hid (fun W => name_any key hks W); rw [hN] at HNA; have HP := Lib.hid (fun W => parse_print v hE W); obtain ⟨b, off, rfl, c2, hb⟩ := hr.at (i := 2) (v := .string key) rfl; obtain ⟨b', off', e, c3, -⟩ := hr.at (i := 3) (v := .bool false) rfl
  cases e
  obtain ⟨b', off', e, c4, -⟩ := hr.at (i := 4) (v := .string T) rfl
  cases e
  obtain ⟨b', off', e, c5, -⟩ := hr.at (i := 5) (v := .bool q) rfl
  cases e
  have c3 : w.cell? ⟨b, off + 2 + 1, none⟩ = some (.bool false) := c3; have c5 : w.cell? ⟨b, off + 4 + 1, none⟩ = some (.bool q) := c5; obtain ⟨B, hB⟩ : ∃ B, w.heap.size = B := ⟨_, rfl⟩; have HBQ := Lib.hid hB; have hb0 := Below.new w (.cells #[.int .i64 0, .slice none 0 0, .string ⟨#[]⟩, .int .i64 0, .string ⟨#[]⟩, .int .i64 0] 46); have k0 := Blk.lit w B [.int .i64 0, .slice none 0 0, .string ⟨#[]⟩, .int .i64 0, .string ⟨#[]⟩, .int .i64 0] 46 hB; obtain ⟨v1, v2, v3⟩ := v; dsimp only [vVal] at HP; clear hr hN hE
  go_enter Tryz.func60, Tryz.ntmps60
  have y2 := (hb0.cell (p := ⟨b, off + 2, none⟩) hb).trans c2; have y3 := (hb0.cell (p := ⟨b, off + 2 + 1, none⟩) hb).trans c3
  go_wp2_with fail
  generalize w.alloc (.cells #[.int .i64 0, .slice none 0 0, .string ⟨#[]⟩, .int .i64 0, .string ⟨#[]⟩, .int .i64 0] 46) = w0 at *; refine (HNA.out _).mono ?_; rintro e w1 ⟨rfl, hb1⟩; have k1 := k0.keep hb1; have hbw := hb0.trans (hb1.mono hb0.size); have d2 := (hbw.cell (p := ⟨b, off + 2, none⟩) hb).trans c2; have d4 := (hbw.cell (p := ⟨b, off + 4, none⟩) hb).trans c4; have d5 := (hbw.cell (p := ⟨b, off + 4 + 1, none⟩) hb).trans c5; have hbl : b < w1.heap.size := Nat.lt_of_lt_of_le hb hbw.size; clear c2 c3 c4 c5 y2 y3 k0 hb0 hb1 HNA hB; go_wp2
  go_region
  obtain ⟨C, hC⟩ : ∃ C, w1.heap.size = C := ⟨_, rfl⟩; have hbx := Below.new w1 (.cells #[.int .i64 6, .slice none 0 0, .string key, .int .i64 1, .string T, .int .i64 0] 46); have hbW : Below w.heap.size w (w1.alloc (.cells #[.int .i64 6, .slice none 0 0, .string key, .int .i64 1, .string T, .int .i64 0] 46)).drew := (hbw.trans (hbx.mono hbw.size)).drew; have e4 := (hbx.cell (p := ⟨b, off + 4, none⟩) hbl).trans d4; have e5 := (hbx.cell (p := ⟨b, off + 4 + 1, none⟩) hbl).trans d5; have k2 := (k1.keep hbx).drew; have m2 := (Blk.lit w1 C [.int .i64 6, .slice none 0 0, .string key, .int .i64 1, .string T, .int .i64 0] 46 hC).drew; have e4 : (w1.alloc (.cells #[.int .i64 6, .slice none 0 0, .string key, .int .i64 1, .string T, .int .i64 0] 46)).drew.cell? ⟨b, off + 4, none⟩ = some (.string T) := e4; have e5 : (w1.alloc (.cells #[.int .i64 6, .slice none 0 0, .string key, .int .i64 1, .string T, .int .i64 0] 46)).drew.cell? ⟨b, off + 4 + 1, none⟩ = some (.bool q) := e5; have hBlC : B < C := by have := k1.lt; omega
  have hBC : B ≠ C := by omega
  have hBw : w.heap.size ≤ B := by rw [HBQ.out]; exact Nat.le_refl _
  rw [hC]; generalize (w1.alloc (.cells #[.int .i64 6, .slice none 0 0, .string key, .int .i64 1, .string T, .int .i64 0] 46)).drew = W at *; clear hbx d2 d4 d5 hbw k1 hC hbl; have a0 := m2.cell 0 rfl; have a1 := m2.cell 1 rfl; have a2 := m2.cell 2 rfl; have a3 := m2.cell 3 rfl; have a4 := m2.cell 4 rfl; have a5 := m2.cell 5 rfl; have f0 := k2.free 0; have f1 := k2.free 1; have f2 := k2.free 2; have f3 := k2.free 3; have f4 := k2.free 4; have f5 := k2.free 5; have g0 := k2.cell 0 rfl; have g1 := k2.cell 1 rfl; have g2 := k2.cell 2 rfl; have g3 := k2.cell 3 rfl; have g4 := k2.cell 4 rfl; have g5 := k2.cell 5 rfl
  rcases hq with ⟨rfl, hv, hT⟩ | ⟨rfl, rfl⟩
  · cases hv
    have hTn : ¬ (64 : Int) < (T.size : Int) := by omega
    go_wp2; have sB := (((((k2.set 0 (.int .i64 6)).set 1 (.slice none 0 0)).set 2 (.string key)).set 3 (.int .i64 1)).set 4 (.string T)).set 5 (.int .i64 0); have hbZ := (((((hbW.set_at (b := B) (o := 0) hBw (.int .i64 6)).set_at (b := B) (o := 1) hBw (.slice none 0 0)).set_at (b := B) (o := 2) hBw (.string key)).set_at (b := B) (o := 3) hBw (.int .i64 1)).set_at (b := B) (o := 4) hBw (.string T)).set_at (b := B) (o := 5) hBw (.int .i64 0); have q0 := sB.cell 0 rfl; have q1 := sB.cell 1 rfl; have q2 := sB.cell 2 rfl; have q3 := sB.cell 3 rfl; have q4 := sB.cell 4 rfl; have q5 := sB.cell 5 rfl; refine bodyPost_ret (v := .tuple #[.agg #[.int .i64 6, .slice none 0 0, .string key, .int .i64 1, .string T, .int .i64 0], .int .i64 0]) (by simp [results, Tryz.results60, go_sem, q0, q1, q2, q3, q4, q5]) rfl ⟨rfl, hbZ⟩
  · go_wp2_with fail
    refine (HP.out _).mono ?_; rintro e w3 ⟨rfl, hb3⟩; have k3 := k2.keep hb3; have m3 := m2.keep hb3; have hbW3 := hbW.trans (hb3.mono hbW.size); clear k2 m2 hb3 hbW a0 a1 a2 a3 a4 a5 f0 f1 f2 f3 f4 f5 g0 g1 g2 g3 g4 g5 e4 e5; have k4 := k3.alloc (.cells #[.int .i64 v1, .string v2, .int .i64 v3] 44); have m4 := m3.alloc (.cells #[.int .i64 v1, .string v2, .int .i64 v3] 44); have hbW4 := hbW3.alloc hbW3.size (.cells #[.int .i64 v1, .string v2, .int .i64 v3] 44); have hD1 : C ≠ w3.heap.size := by have := m3.lt; omega
    have hD2 : B ≠ w3.heap.size := by have := k3.lt; omega
    have v4 := Blk.new w3 [.int .i64 v1, .string v2, .int .i64 v3] 44; have vv0 := v4.cell 0 rfl; have vv1 := v4.cell 1 rfl; have vv2 := v4.cell 2 rfl; have a0 := m4.cell 0 rfl; have b0 := m4.free 0; have a1 := m4.cell 1 rfl; have b1 := m4.free 1; have a2 := m4.cell 2 rfl; have b2 := m4.free 2; have a3 := m4.cell 3 rfl; have b3 := m4.free 3; have a4 := m4.cell 4 rfl; have b4 := m4.free 4; have a5 := m4.cell 5 rfl; have b5 := m4.free 5; have g0 := k4.cell 0 rfl; have f0 := k4.free 0; have g1 := k4.cell 1 rfl; have f1 := k4.free 1; have g2 := k4.cell 2 rfl; have f2 := k4.free 2; have g3 := k4.cell 3 rfl; have f3 := k4.free 3; have g4 := k4.cell 4 rfl; have f4 := k4.free 4; have g5 := k4.cell 5 rfl; have f5 := k4.free 5; go_wp2; have hCw : w.heap.size ≤ C := by rw [HBQ.out]; exact Nat.le_of_lt hBlC
    have k5 := ((k4.set_at (o := 3) hBC (.int .i64 v1)).set_at (o := 4) hBC (.string v2)).set_at (o := 5) hBC (.int .i64 v3); have hbW5 := ((hbW4.set_at (b := C) (o := 3) hCw (.int .i64 v1)).set_at (b := C) (o := 4) hCw (.string v2)).set_at (b := C) (o := 5) hCw (.int .i64 v3); have sB := (((((k5.set 0 (.int .i64 6)).set 1 (.slice none 0 0)).set 2 (.string key)).set 3 (.int .i64 v1)).set 4 (.string v2)).set 5 (.int .i64 v3); have hbZ := (((((hbW5.set_at (b := B) (o := 0) hBw (.int .i64 6)).set_at (b := B) (o := 1) hBw (.slice none 0 0)).set_at (b := B) (o := 2) hBw (.string key)).set_at (b := B) (o := 3) hBw (.int .i64 v1)).set_at (b := B) (o := 4) hBw (.string v2)).set_at (b := B) (o := 5) hBw (.int .i64 v3); have q0 := sB.cell 0 rfl; have q1 := sB.cell 1 rfl; have q2 := sB.cell 2 rfl; have q3 := sB.cell 3 rfl; have q4 := sB.cell 4 rfl; have q5 := sB.cell 5 rfl; refine bodyPost_ret (v := .tuple #[.agg #[.int .i64 6, .slice none 0 0, .string key, .int .i64 v1, .string v2, .int .i64 v3], .int .i64 0]) (by simp [results, Tryz.results60, go_sem, q0, q1, q2, q3, q4, q5]) rfl ⟨rfl, hbZ⟩
end Go.Proofs.YtkfgbjjelcigcaaGreatDoor
/- script.Check. -/
set_option linter.unusedVariables false
set_option linter.unusedSimpArgs false
set_option maxRecDepth 100000
namespace Go.Proofs.YtkfgbjjelcigcaaGreatDoor
open Go.RowKit

set_option maxHeartbeats 800000 in
theorem far_any (n : Int) (w : World) :
    Calls Tryz.prog 27 #[.int .i64 n] w fun e w' => e = .returned (.bool (farN n)) ∧ w' = w := by
  have HF := Lib.hid (farN.eq_1 n); generalize farN n = FF at *
  go_enter Tryz.func27, Tryz.ntmps27
  go_wp2
  all_goals (go_ret; refine ⟨ret_bool ?_, rfl⟩; refine Eq.trans ?_ HF.out.symm; clear HF; first | (simp_all; done) | skip; rw [Bool.eq_iff_iff]; first | (simp_all; done) | (simp_all; omega))

set_option maxHeartbeats 1600000 in
theorem indexI_any (a : Option Addr) (c : Nat) (L : List Int) (hlen : L.length ≤ 1000000) (w : World) (hr : Rd w a (L.map (Value.int .i64))) :
    Calls Tryz.prog 49 #[.slice a L.length c, .func (.func 27) #[] #[]] w fun e w' => ∃ z : Int, e = .returned (.int .i64 z) ∧ Hid (0 ≤ z ↔ L.any farN = true) ∧ w' = w := by
  have HR := Lib.hid hr; have HFA := Lib.hid (fun n W => far_any n W); obtain ⟨N, hN⟩ : ∃ N, L.length = N := ⟨_, rfl⟩; have HN := Lib.hid hN; rw [hN] at hlen ⊢; obtain ⟨AB, hAB⟩ : ∃ B, L.any farN = B := ⟨_, rfl⟩; have HAB := Lib.hid hAB; rw [hAB]; clear hr hN hAB
  go_enter Tryz.func49, Tryz.ntmps49
  go_wp2
  go_loopw [8] (fun i wr => ∃ k : Nat, k ≤ N ∧ i = .int .i64 k ∧ Hid ((L.take k).any farN = false) ∧ wr = w) (fun i _ => N - (intOf i).toNat)
  case atStart => exact ⟨0, by omega, rfl, Lib.hid rfl, rfl⟩
  case round =>
    obtain ⟨k, hk, rfl, HA, rfl⟩ := hrel
    by_cases h1 : k < N
    · have h1' : (k : Int) < (N : Int) := by omega
      have hkl : k < L.length := by rw [HN.out]; exact h1
      obtain ⟨b, o, rfl, c0, hb⟩ := HR.out.at (i := k) (v := .int .i64 L[k]) (by simp [hkl]); have HT : Hid (L.take (k + 1) = L.take k ++ [L[k]]) := Lib.hid (List.take_succ_eq_append_getElem hkl); have HM : Hid (farN L[k] = true → AB = true) := Lib.hid (fun h => by rw [← HAB.out]; exact List.any_eq_true.2 ⟨_, List.getElem_mem hkl, h⟩); have HC := Lib.hid (HFA.out L[k] wr); generalize L[k] = z at *; obtain ⟨FB, hFB⟩ : ∃ B, farN z = B := ⟨_, rfl⟩; rw [hFB] at HC HM; have HFB := Lib.hid hFB; clear hFB
      go_wp2_with fail
      refine HC.out.mono ?_; rintro e w1 ⟨rfl, rfl⟩
      cases FB with
      | true =>
        go_wp2; go_ret; exact ⟨_, rfl, Lib.hid ⟨fun _ => HM.out (by first | rfl | trivial), fun _ => by omega⟩, rfl⟩
      | false =>
        go_wp2; go_roundw
        case rel => exact ⟨k + 1, by omega, by go_num, Lib.hid (by rw [HT.out, List.any_append, HA.out]; simp [HFB.out]), by first | rfl | trivial⟩
        case measure => simp [intOf]; omega
    · obtain rfl : k = N := by omega
      have HF2 : Hid (AB = false) := Lib.hid (by
        have := HA.out; rw [List.take_of_length_le (by rw [HN.out]; exact Nat.le_refl _), HAB.out] at this; exact this)
      go_wp2; go_ret; exact ⟨_, rfl, Lib.hid ⟨fun h => by omega, fun h => by rw [HF2.out] at h; cases h⟩, rfl⟩

set_option maxHeartbeats 800000 in
theorem contI_any (a : Option Addr) (c : Nat) (L : List Int) (hlen : L.length ≤ 1000000) (w : World) (hr : Rd w a (L.map (Value.int .i64))) :
    Calls Tryz.prog 26 #[.slice a L.length c, .func (.func 27) #[] #[]] w fun e w' => e = .returned (.bool (L.any farN)) ∧ w' = w := by
  have HI := Lib.hid (indexI_any a c L hlen w hr); obtain ⟨AB, hAB⟩ : ∃ B, L.any farN = B := ⟨_, rfl⟩; rw [hAB] at HI ⊢; obtain ⟨N, hN⟩ : ∃ N, L.length = N := ⟨_, rfl⟩; rw [hN] at HI ⊢; clear hr hAB hN
  go_enter Tryz.func26, Tryz.ntmps26
  go_wp2_with fail
  refine HI.out.mono ?_; rintro e w1 ⟨z, rfl, HZ, rfl⟩
  by_cases hz : 0 ≤ z
  · have := HZ.out.1 hz; subst this; go_wp2; go_ret; exact ⟨ret_bool (by simp [hz]), rfl⟩
  · have hf : AB = false := by
      cases AB with
      | false => rfl
      | true => exact absurd (HZ.out.2 rfl) hz
    subst hf; go_wp2; go_ret; exact ⟨ret_bool (by simp [hz]), rfl⟩

theorem ba_ne (s : ByteArray) (h : s.size ≠ 0) : s.toList.isEmpty = false := by rw [empty_txt]; simp [h]
theorem ba_eq (s : ByteArray) (h : s.size = 0) : s = ⟨#[]⟩ := by
  apply ByteArray.ext; exact Array.eq_empty_of_size_eq_zero h

set_option maxHeartbeats 3200000 in
theorem icheck_any (x : It) (hs : x.Sz) (hn : x.n.length ≤ 1000000) (w : World) (hok : x.Ok w) :
    Calls Tryz.prog 12 #[x.val] w fun e w' => e = .returned (.int .i64 (chkI x)) ∧ Below w.heap.size w w' := by
  have HC := Lib.hid (chkI.eq_1 x); have HKW := Lib.hid (fun W => kword_any x.kind W); have HKC := Lib.hid (kwS_cases x.kind); have HFI := Lib.hid (fun W => kfits_any x.kind x.n.length (by omega) W); have HCF := Lib.hid (fun W h => contI_any x.np x.nc x.n hn W h); have HNM := Lib.hid (fun W => name_any x.key hs.1 W); have HVC := Lib.hid (fun W => vchk_any x.v.1 x.v.2.2 x.v.2.1 hs.2 W); have HR := Lib.hid hok.1; obtain ⟨B, hB⟩ : ∃ B, w.heap.size = B := ⟨_, rfl⟩; have HBQ := Lib.hid hB; have hVE : vcF x.v.1 x.v.2.1 x.v.2.2 = vE x.v := rfl; rw [hVE] at HVC; generalize chkI x = CH at *; generalize vE x.v = VE at *; generalize x.n.any farN = FA at *; generalize fitsF x.kind x.n.length = FI at *; generalize nameF x.key = NM at *; obtain ⟨kind, n, key, ⟨v1, v2, v3⟩, np, nc⟩ := x; dsimp only [It.val, It.nval] at *; have HVZ : Hid ((v1, v2, v3) = vZ ↔ v1 = 0 ∧ v2 = ⟨#[]⟩ ∧ v3 = 0) := Lib.hid (by simp [vZ]); have HVT : Hid (v2.toList = [] → v2 = ⟨#[]⟩) := Lib.hid (fun h => ba_eq v2 (by
    have := empty_txt v2; rw [h] at this
    simpa using this))
  generalize n.length = N at *; have hb0 := Below.new w (.cells #[.int .i64 kind, .slice np N nc, .string key, .int .i64 v1, .string v2, .int .i64 v3] 46); have k0 := Blk.lit w B [.int .i64 kind, .slice np N nc, .string key, .int .i64 v1, .string v2, .int .i64 v3] 46 hB; have hr0 := HR.out.keep hb0; clear hok hs
  go_enter Tryz.func12, Tryz.ntmps12
  have x0 := k0.cell 0 rfl
  go_wp2_with fail
  generalize w.alloc (.cells #[.int .i64 kind, .slice np N nc, .string key, .int .i64 v1, .string v2, .int .i64 v3] 46) = w0 at *; clear hB; refine (HKW.out _).mono ?_; rintro e w1 ⟨rfl, hb1⟩; have k1 := k0.keep hb1; have hr1 := hr0.keep hb1; have hbw1 := hb0.trans (hb1.mono hb0.size); clear HKW k0 hr0 hb0 hb1 x0; have x0 := k1.cell 0 rfl; have x1 := k1.cell 1 rfl; have x2 := k1.cell 2 rfl; have x3 := k1.cell 3 rfl; have x4 := k1.cell 4 rfl; have x5 := k1.cell 5 rfl; generalize kwS kind = KS at *
  rcases HKC.out with ⟨rfl, -⟩ | ⟨hks, hkr⟩
  · have hV : Hid (CH = 14) := Lib.hid (by rw [HC.out, if_pos rfl]); clear HC; go_wp2; go_ret; exact ⟨ret_int hV.out.symm, by first | exact hbw1 | (rw [← HBQ.out]; exact hbw1)⟩
  · have hks2 := ba_ne KS (fun h => hks (ba_eq KS h)); have hC := HC.out; rw [if_neg hks] at hC; replace HC := Lib.hid hC; clear hC
    go_wp2_with fail
    refine (HFI.out _).mono ?_; rintro e w2 ⟨rfl, rfl⟩
    cases FI with
    | false =>
      have hV : Hid (CH = 3) := Lib.hid (by rw [HC.out, if_pos rfl]); clear HC; go_wp2; go_ret; exact ⟨ret_int hV.out.symm, by first | exact hbw1 | (rw [← HBQ.out]; exact hbw1)⟩
    | true =>
      go_wp2_with fail
      refine (HCF.out _ hr1).mono ?_; rintro e w3 ⟨rfl, rfl⟩
      cases FA with
      | true =>
        have hV : Hid (CH = 5) := Lib.hid (by rw [HC.out, if_neg (by simp), if_pos rfl]); clear HC; go_wp2; go_ret; exact ⟨ret_int hV.out.symm, by first | exact hbw1 | (rw [← HBQ.out]; exact hbw1)⟩
      | false =>
        have hC := HC.out; rw [if_neg (by simp), if_neg (by simp)] at hC; replace HC := Lib.hid hC; clear hC
        by_cases h6 : kind = 6
        · subst h6; have hC := HC.out; rw [if_neg (by simp)] at hC; replace HC := Lib.hid hC; clear hC
          go_wp2_with fail
          refine (HNM.out _).mono ?_; rintro e w4 ⟨rfl, hb4⟩; have k4 := k1.keep hb4; have hbw4 := hbw1.trans (hb4.mono hbw1.size); clear k1 hr1 hbw1 hb4 x0 x1 x2 x3 x4 x5; have x3 := k4.cell 3 rfl; have x4 := k4.cell 4 rfl; have x5 := k4.cell 5 rfl
          cases NM with
          | false =>
            have hV : Hid (CH = 13) := Lib.hid (by rw [HC.out, if_pos rfl]); clear HC; go_wp2; go_ret; exact ⟨ret_int hV.out.symm, by first | exact hbw4 | (rw [← HBQ.out]; exact hbw4)⟩
          | true =>
            have hV : Hid (CH = VE) := Lib.hid (by rw [HC.out, if_neg (by simp)]); clear HC
            go_wp2_with fail
            refine (HVC.out _).mono ?_; rintro e w5 ⟨rfl, hb5⟩; have hbw5 := hbw4.trans (hb5.mono hbw4.size); go_wp2; go_ret; exact ⟨ret_int hV.out.symm, by first | exact hbw5 | (rw [← HBQ.out]; exact hbw5)⟩
        · have h6' : (kind != 6) = true := by simpa using h6
          have hC := HC.out; rw [if_pos h6] at hC; replace HC := Lib.hid hC; clear hC
          by_cases hkz : key.size = 0
          · obtain rfl := ba_eq key hkz
            by_cases hvz : v1 = 0 ∧ v2 = ⟨#[]⟩ ∧ v3 = 0
            · have hV : Hid (CH = 0) := Lib.hid (by rw [HC.out, if_neg]; rintro (h | h); exact h hkz; exact h (HVZ.out.2 hvz)); obtain ⟨rfl, rfl, rfl⟩ := hvz; clear HC HVZ; go_wp2; go_ret; exact ⟨ret_int hV.out.symm, by first | exact hbw1 | (rw [← HBQ.out]; exact hbw1)⟩
            · have hV : Hid (CH = 3) := Lib.hid (by rw [HC.out, if_pos]; right; intro h; exact hvz (HVZ.out.1 h)); have HVZ2 := Lib.hid hvz; clear HC HVZ hvz; go_wp2
              all_goals first
                | (go_ret; exact ⟨ret_int hV.out.symm, by first | exact hbw1 | (rw [← HBQ.out]; exact hbw1)⟩)
                | (exfalso; exact HVZ2.out ⟨‹v1 = 0›, HVT.out ‹v2.toList = []›, ‹v3 = 0›⟩)
          · have hkn := ba_ne key hkz; have hV : Hid (CH = 3) := Lib.hid (by rw [HC.out, if_pos (.inl hkz)]); clear HC; go_wp2; go_ret; exact ⟨ret_int hV.out.symm, by first | exact hbw1 | (rw [← HBQ.out]; exact hbw1)⟩
end Go.Proofs.YtkfgbjjelcigcaaGreatDoor
