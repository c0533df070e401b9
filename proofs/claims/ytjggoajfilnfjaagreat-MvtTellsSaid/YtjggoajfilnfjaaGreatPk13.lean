/-
  table.place, of strings and of values. A map of strings to bools that the call makes: a set of strings. graticulelaw10.Cut, graticulelaw11.Cut.
-/
import Derived.Test.YtjggoajfilnfjaaGreatPk12
import Derived.Test.YtjggoajfilnfjaaGreatProg
import Derived.Deep.QuietTactic
import Derived.Test.YtjggoajfilnfjaaGreatPk1
import Derived.Maps.Own
import Derived.Maps.OwnOps
import Derived.Maps.Views
import Derived.Test.YtjggoajfilnfjaaGreatPk8
set_option linter.unusedVariables false
set_option linter.unusedSimpArgs false
set_option maxRecDepth 100000
namespace Go
open Go.RowKit
theorem ba_inj (a b : ByteArray) : a = b ↔ a.toList = b.toList := by
 refine ⟨fun h => by rw [h], fun h => ?_⟩; rw [ByteArray.toList_eq, ByteArray.toList_eq] at h; exact ByteArray.ext (Array.ext' h)
theorem typB_below {W W' : World} {a : Option Addr} {T : TypeId} (h : TypB W a T) (hb : Below W.heap.size W W') : TypB W' a T := fun b hb2 => by
 obtain ⟨cs, fr, hc⟩ := h b hb2; exact ⟨cs, fr, (hb.block b (Array.getElem?_eq_some_iff.1 hc).1).trans hc⟩
theorem typB_owns {w : World} {base : Nat} {e : TypeId} {size : Nat} {a : Option Addr} {n c m : Nat} {xs : List Value} (h : w.ownsRow base e size (.slice a n c) m xs) : TypB w a e := by
 obtain ⟨h1, h2⟩ := h
 rcases h2 with ⟨h2, hn⟩ | ⟨g, cap, cur, hv, _, hg, _⟩
 ·cases h2
  intro b hb; simp at hb
 ·cases hv
  intro b hb; simp at hb; subst hb; exact ⟨_, _, hg⟩
def vcl (v : VV) : List Value := [.int .i64 v.1, .string v.2.1, .int .i64 v.2.2]
def vvs (l : List VV) : List Value := l.flatMap vcl
theorem vvs_len (l : List VV) : (vvs l).length = l.length * 3 := by
 unfold vvs
 induction l with
 | nil => rfl
 | cons a l ih => simp only [List.flatMap_cons, List.length_append, ih, List.length_cons, vcl, List.length_nil]; omega
theorem vvs_snoc (l : List VV) (x1 : Int) (x2 : ByteArray) (x3 : Int) : vvs (l ++ [(x1, x2, x3)]) = vvs l ++ [.int .i64 x1, .string x2, .int .i64 x3] := by
 unfold vvs; rw [List.flatMap_append, List.flatMap_singleton]
 rfl
theorem Rd.vv {w : World} {a : Option Addr} {l : List VV} (h : Rd w a (vvs l)) (i : Nat) (hi : i < l.length) :
  ∃ b off, a = some ⟨b, off, none⟩ ∧ b < w.heap.size ∧ w.cell? ⟨b, off + i * 3, none⟩ = some (.int .i64 l[i].1) ∧ w.cell? ⟨b, off + i * 3 + 1, none⟩ = some (.string l[i].2.1) ∧ w.cell? ⟨b, off + i * 3 + 2, none⟩ = some (.int .i64 l[i].2.2) := by
 have g : ∀ j, j < 3 → (vvs l)[i * 3 + j]? = (vcl l[i])[j]? := fun j hj => flatMap_get vcl 3 (fun _ => rfl) l i j hi hj; obtain ⟨b, off, rfl, h0, hb⟩ := h.at (i := i * 3 + 0) (v := .int .i64 l[i].1) (by rw [g 0 (by omega)]; rfl); obtain ⟨b', off', e, h1, -⟩ := h.at (i := i * 3 + 1) (v := .string l[i].2.1) (by rw [g 1 (by omega)]; rfl)
 cases e
 obtain ⟨b', off', e, h2, -⟩ := h.at (i := i * 3 + 2) (v := .int .i64 l[i].2.2) (by rw [g 2 (by omega)]; rfl)
 cases e
 simp only [← Nat.add_assoc] at h0 h1 h2; exact ⟨b, off, rfl, hb, h0, h1, h2⟩
def ixF {α : Type} [DecidableEq α] (l : List α) (x : α) : Int := if x ∈ l then (l.idxOf x : Int) else -1
theorem ixF_found {α : Type} [DecidableEq α] {l : List α} {x : α} {k : Nat} (hk : k < l.length) (h : x ∉ l.take k) (he : l[k] = x) : ixF l x = k := by
 obtain ⟨h1, h2⟩ := idx_found hk h he; unfold ixF; rw [if_pos h1, h2]
theorem ixF_none {α : Type} [DecidableEq α] {l : List α} {x : α} (h : x ∉ l) : ixF l x = -1 := if_neg h
theorem plc_in {α : Type} [DecidableEq α] {l : List α} {x : α} (h : x ∈ l) : ∃ K : Nat, plc l x = (l, K) ∧ ixF l x = K := ⟨l.idxOf x, by unfold plc; rw [if_pos h], by unfold ixF; rw [if_pos h]⟩
theorem plc_out {α : Type} [DecidableEq α] {l : List α} {x : α} (h : x ∉ l) : plc l x = (l ++ [x], l.length) ∧ ixF l x = -1 := ⟨by unfold plc; rw [if_neg h], by unfold ixF; rw [if_neg h]⟩
end Go
namespace Go.Proofs.YtjggoajfilnfjaaGreat
open Go.RowKit
set_option maxHeartbeats 1600000 in
theorem indexS_any (a : Option Addr) (c : Nat) (L : List ByteArray) (x : ByteArray) (hl : L.length ≤ 1000000) (w : World) (hr : Rd w a (L.map Value.string)) :
  Calls Tryz.prog 114 #[.slice a L.length c, .string x] w fun e w' => e = .returned (.int .i64 (ixF L x)) ∧ w' = w := by
 have HR := Lib.hid hr; have HF := Lib.hid (fun k => @ixF_found _ _ L x k); have HX := Lib.hid (@ixF_none _ _ L x); have HM := Lib.hid (fun k => @idx_more _ L x k); generalize ixF L x = IX at *; obtain ⟨N, hN⟩ : ∃ N, L.length = N := ⟨_, rfl⟩; have HN := Lib.hid hN; rw [hN] at hl ⊢; clear hr hN
 go_enter Tryz.func114, Tryz.ntmps114
 go_wp2
 go_loopw [8] (fun i wr => ∃ k : Nat, k ≤ N ∧ i = .int .i64 k ∧ Hid (x ∉ L.take k) ∧ wr = w) (fun i _ => N - (intOf i).toNat)
 case atStart => exact ⟨0, by omega, rfl, Lib.hid (by simp), rfl⟩
 case round =>
  obtain ⟨k, hk, rfl, HT, rfl⟩ := hrel
  by_cases h1 : k < N
  ·have h1' : (k : Int) < (N : Int) := by omega
   have hkl : k < L.length := by rw [HN.out]; exact h1
   obtain ⟨b1, o1, rfl, c0, hbb⟩ := HR.out.at (i := k) (v := .string L[k]) (by simp [hkl]); have HF2 := Lib.hid (HF.out k hkl HT.out); have HM2 := Lib.hid (HM.out k hkl HT.out); generalize L[k] = y at *
   by_cases hxy : y = x
   ·subst hxy; have hi := HF2.out rfl; subst hi; go_wp2; go_ret; exact ⟨rfl, rfl⟩
   ·have hi := HM2.out hxy; have hne : (x.toList == y.toList) = false := by simpa using fun h => hxy ((ba_inj _ _).2 h).symm
    have HI := Lib.hid hi; clear hi; go_wp2; exact ⟨⟨k + 1, by omega, by go_num, HI, by trivial⟩, by simp [intOf]; omega⟩
  ·have h1' : ¬ (k : Int) < (N : Int) := by omega
   have ht : L.take k = L := List.take_of_length_le (by rw [HN.out]; omega); rw [ht] at HT; have hi := HX.out HT.out; subst hi; go_wp2; go_ret; exact ⟨rfl, rfl⟩
set_option maxHeartbeats 3200000 in
theorem indexV_any (a : Option Addr) (c : Nat) (L : List VV) (x : VV) (hl : L.length ≤ 1000000) (w : World) (hr : Rd w a (vvs L)) :
  Calls Tryz.prog 116 #[.slice a L.length c, vVal x] w fun e w' => e = .returned (.int .i64 (ixF L x)) ∧ Below w.heap.size w w' := by
 have HR := Lib.hid hr; have HF := Lib.hid (fun k => @ixF_found _ _ L x k); have HX := Lib.hid (@ixF_none _ _ L x); have HM := Lib.hid (fun k => @idx_more _ L x k); generalize ixF L x = IX at *; obtain ⟨N, hN⟩ : ∃ N, L.length = N := ⟨_, rfl⟩; have HN := Lib.hid hN; rw [hN] at hl ⊢; clear hr hN; obtain ⟨x1, x2, x3⟩ := x; dsimp only [vVal]
 go_enter Tryz.func116, Tryz.ntmps116
 have k0 := Blk.lit w w.heap.size [.int .i64 x1, .string x2, .int .i64 x3] 101 rfl; have hb0 := Below.new w (.cells #[.int .i64 x1, .string x2, .int .i64 x3] 101); obtain ⟨B, hB⟩ : ∃ B, w.heap.size = B := ⟨_, rfl⟩; have HB := Lib.hid hB; rw [hB] at k0; go_wp2
 try rw [hB]
 generalize w.alloc (.cells #[.int .i64 x1, .string x2, .int .i64 x3] 101) = w0 at *; clear hB
 go_loopw [8] (fun i wr => ∃ k : Nat, k ≤ N ∧ i = .int .i64 k ∧ Hid ((x1, x2, x3) ∉ L.take k) ∧ Below w.heap.size w wr ∧ Blk wr B [.int .i64 x1, .string x2, .int .i64 x3]) (fun i _ => N - (intOf i).toNat)
 case atStart => exact ⟨0, by omega, rfl, Lib.hid (by simp), by first | exact hb0 | (rw [HB.out]; exact hb0), k0⟩
 case round =>
  obtain ⟨k, hk, rfl, HT, hbl, kx⟩ := hrel
  by_cases h1 : k < N
  ·have h1' : (k : Int) < (N : Int) := by omega
   have hkl : k < L.length := by rw [HN.out]; exact h1
   obtain ⟨b1, o1, rfl, hbb, c0, c1, c2⟩ := (HR.out.keep hbl).vv k hkl; have HF2 := Lib.hid (HF.out k hkl HT.out); have HM2 := Lib.hid (HM.out k hkl HT.out); generalize L[k] = y at *; obtain ⟨y1, y2, y3⟩ := y; dsimp only at c0 c1 c2; have d0 := kx.cell 0 rfl; have d1 := kx.cell 1 rfl; have d2 := kx.cell 2 rfl; have kx2 : ∀ n, Blk (wr.drewN n) B [.int .i64 x1, .string x2, .int .i64 x3] := fun n => kx.drewN n
   by_cases e1 : x1 = y1
   ·subst e1
    by_cases e2 : x2 = y2
    ·subst e2
     by_cases e3 : x3 = y3
     ·subst e3; have hi := HF2.out rfl; subst hi; go_wp2
      go_quiet (fail)
      go_wp2; go_ret; exact ⟨rfl, below_drewN hbl _⟩
     ·have HI := Lib.hid (HM2.out (by simpa using fun h => e3 h.symm)); have e3' : (x3 == y3) = false := by simpa using e3
      go_wp2
      go_quiet (fail)
      go_wp2; exact ⟨⟨k + 1, by omega, by go_num, HI, below_drewN hbl _, kx2 _⟩, by simp [intOf]; omega⟩
    ·have HI := Lib.hid (HM2.out (by simpa using fun h => absurd h.symm e2)); have e2' : (x2.toList == y2.toList) = false := by simpa using fun h => e2 ((ba_inj _ _).2 h)
     go_wp2
     go_quiet (fail)
     go_wp2; exact ⟨⟨k + 1, by omega, by go_num, HI, below_drewN hbl _, kx2 _⟩, by simp [intOf]; omega⟩
   ·have HI := Lib.hid (HM2.out (by simpa using fun h => absurd h.symm e1)); have e1' : (x1 == y1) = false := by simpa using e1
    go_wp2
    go_quiet (fail)
    go_wp2; exact ⟨⟨k + 1, by omega, by go_num, HI, below_drewN hbl _, kx2 _⟩, by simp [intOf]; omega⟩
  ·have h1' : ¬ (k : Int) < (N : Int) := by omega
   have ht : L.take k = L := List.take_of_length_le (by rw [HN.out]; omega); rw [ht] at HT; have hi := HX.out HT.out; subst hi; go_wp2; go_ret; exact ⟨rfl, hbl⟩
theorem Tryz.infoStr : (Tryz.prog.info? 9).map (fun i => (i.zero, i.size, i.bytes)) = some (some (.string ⟨#[]⟩), 1, 16) := by kernel_rfl
theorem Tryz.infoVal : (Tryz.prog.info? 101).map (fun i => (i.zero, i.size, i.bytes)) = some (some (.agg #[.int .i64 0, .string ⟨#[]⟩, .int .i64 0]), 3, 32) := by kernel_rfl
theorem clipS_any (a : Option Addr) (n c : Nat) (hn : n ≤ c) (hc : a = none → c = 0) (w : World) :
  Calls Tryz.prog 115 #[.slice a n c] w fun e w' => e = .returned (.slice a n n) ∧ w' = w := by
 go_enter Tryz.func115, Tryz.ntmps115
 go_wp2; go_ret; exact ⟨rfl, rfl⟩
set_option maxHeartbeats 1600000 in
theorem placeS_any (a : Option Addr) (c : Nat) (L : List ByteArray) (x : ByteArray) (hl : L.length ≤ 100000) (hlc : L.length ≤ c) (hcm : c ≤ maxLen) (hn : a = none → c = 0) (w : World) (hty : TypB w a 9) (hr : Rd w a (L.map Value.string)) :
  Calls Tryz.prog 99 #[.slice a L.length c, .string x] w fun e w' => ∃ p q, e = .returned (.tuple #[.slice p (plc L x).1.length q, .int .i64 ((plc L x).2 : Int)]) ∧ (plc L x).1.length ≤ q ∧ q ≤ maxLen ∧ (p = none → q = 0) ∧ TypB w' p 9 ∧ (∀ b, p.map (·.block) = some b → a.map (·.block) = some b ∨ w.heap.size ≤ b) ∧ Rd w' p ((plc L x).1.map Value.string) ∧ Below w.heap.size w w' := by
 have HI := Lib.hid (fun (W : World) (h : Below w.heap.size w W) => indexS_any a c L x (by omega) W (hr.keep h)); have HC := Lib.hid (fun W => clipS_any a L.length c hlc hn W); have HR := Lib.hid hr; obtain ⟨i0, hi, hz0, hz1, hz2⟩ := info_parts Tryz.infoStr; obtain ⟨N, hN⟩ : ∃ N, L.length = N := ⟨_, rfl⟩; have HN := Lib.hid hN
 by_cases hm : x ∈ L
 ·obtain ⟨K, hp, hx⟩ := plc_in hm; rw [hp, hN]; rw [hx, hN] at HI; rw [hN] at hl hlc; clear hr hN hp hx hm
  go_enter Tryz.func99, Tryz.ntmps99
  go_wp2_with fail
  refine (HI.out _ (Below.refl _ _)).mono ?_; rintro e w1 ⟨rfl, rfl⟩; have hK : (0 : Int) ≤ (K : Int) := by omega
  go_wp2; refine bodyPost_ret (v := .tuple #[.slice a N c, .int .i64 (K : Int)]) (by simp [results, Tryz.results99, go_sem]) rfl ⟨a, c, rfl, hlc, hcm, hn, hty, fun b h => .inl h, HR.out, Below.refl _ _⟩
 ·obtain ⟨hp, hx⟩ := plc_out hm; have hlen : (L ++ [x]).length = N + 1 := by rw [List.length_append, hN]; rfl
  rw [hp]; dsimp only; rw [hlen, hN]; rw [hx, hN] at HI; rw [hN] at HC hl hlc; clear hr hN hp hx hm hlen
  go_enter Tryz.func99, Tryz.ntmps99
  go_wp2_with fail
  refine (HI.out _ (Below.refl _ _)).mono ?_; rintro e w1 ⟨rfl, rfl⟩
  go_wp2_with fail
  refine (HC.out _).mono ?_; rintro e w2 ⟨rfl, rfl⟩; have hbA := Below.new w2 (.cells #[.string x] 9)
  go_wp2_with (at_builtin; go_must (refine wpList_app_full _ rfl (.tmp 15) (.tmp 17) 117 rfl 9 (.string ⟨#[]⟩) 1 16 Tryz.underlying117 Tryz.infoStr rfl (by decide) a N N (L.map Value.string) rfl (fun h => by have := hn h; omega) (by rw [List.length_map, HN.out]; omega) (HR.out.keep hbA) ⟨w2.heap.size, 0, none⟩ 1 1 [.string x] rfl rfl (Rd.new w2 _ _) (by simp [Value.oneCell']) (by omega) (by unfold maxLen; omega) (by omega) ?_); intro v3 w3 hown hb3)
  obtain ⟨p, q, rfl, h1, h2, h3, hrd, hbk⟩ := hown.form; have hty3 := typB_owns hown; have hb4 := hbA.trans (hb3.mono hbA.size); have hmp : (L ++ [x]).map Value.string = L.map Value.string ++ [.string x] := by simp
  go_wp2; refine bodyPost_ret (v := .tuple #[.slice p (N + 1) q, .int .i64 (N : Int)]) (by simp [results, Tryz.results99, go_sem]) rfl ⟨p, q, rfl, h1, h2, h3, hty3, fun b h => .inr (Nat.le_trans hbA.size (hbk b h).1), by first | (rw [hmp]; exact hrd) | exact hrd, hb4⟩
theorem clipV_any (a : Option Addr) (n c : Nat) (hn : n ≤ c) (hc : a = none → c = 0) (w : World) :
  Calls Tryz.prog 117 #[.slice a n c] w fun e w' => e = .returned (.slice a n n) ∧ w' = w := by
 go_enter Tryz.func117, Tryz.ntmps117
 go_wp2; go_ret; exact ⟨rfl, rfl⟩
set_option maxHeartbeats 1600000 in
theorem placeV_any (a : Option Addr) (c : Nat) (L : List VV) (x : VV) (hl : L.length ≤ 100000) (hlc : L.length ≤ c) (hcm : c ≤ maxLen) (hn : a = none → c = 0) (w : World) (hty : TypB w a 101) (hr : Rd w a (vvs L)) :
  Calls Tryz.prog 100 #[.slice a L.length c, vVal x] w fun e w' => ∃ p q, e = .returned (.tuple #[.slice p (plc L x).1.length q, .int .i64 ((plc L x).2 : Int)]) ∧ (plc L x).1.length ≤ q ∧ q ≤ maxLen ∧ (p = none → q = 0) ∧ TypB w' p 101 ∧ (∀ b, p.map (·.block) = some b → a.map (·.block) = some b ∨ w.heap.size ≤ b) ∧ Rd w' p (vvs (plc L x).1) ∧ Below w.heap.size w w' := by
 have HI := Lib.hid (fun (W : World) (h : Below w.heap.size w W) => indexV_any a c L x (by omega) W (hr.keep h)); have HC := Lib.hid (fun W => clipV_any a L.length c hlc hn W); have HR := Lib.hid hr; obtain ⟨i0, hi, hz0, hz1, hz2⟩ := info_parts Tryz.infoVal; obtain ⟨N, hN⟩ : ∃ N, L.length = N := ⟨_, rfl⟩; have HN := Lib.hid hN
 by_cases hm : x ∈ L
 ·obtain ⟨K, hp, hx⟩ := plc_in hm; rw [hp, hN]; rw [hx, hN] at HI; rw [hN] at hl hlc; clear hr hN hp hx hm; obtain ⟨x1, x2, x3⟩ := x; dsimp only [vVal] at HI ⊢
  go_enter Tryz.func100, Tryz.ntmps100
  have hb0 := Below.new w (.cells #[.int .i64 x1, .string x2, .int .i64 x3] 101); have k0 := Blk.lit w w.heap.size [.int .i64 x1, .string x2, .int .i64 x3] 101 rfl; have a0 := k0.cell 0 rfl; have a1 := k0.cell 1 rfl; have a2 := k0.cell 2 rfl
  go_wp2_with fail
  refine (HI.out _ hb0).mono ?_; rintro e w1 ⟨rfl, hb1⟩; have hK : (0 : Int) ≤ (K : Int) := by omega
  go_wp2; refine bodyPost_ret (v := .tuple #[.slice a N c, .int .i64 (K : Int)]) (by simp [results, Tryz.results100, go_sem]) rfl ⟨a, c, rfl, hlc, hcm, hn, typB_below hty (hb0.trans (hb1.mono hb0.size)), fun b h => .inl h, HR.out.keep (hb0.trans (hb1.mono hb0.size)), hb0.trans (hb1.mono hb0.size)⟩
 ·obtain ⟨hp, hx⟩ := plc_out hm; have hlen : (L ++ [x]).length = N + 1 := by rw [List.length_append, hN]; rfl
  rw [hp]; dsimp only; rw [hlen, hN]; rw [hx, hN] at HI; rw [hN] at HC hl hlc; clear hr hN hp hx hm hlen; obtain ⟨x1, x2, x3⟩ := x; dsimp only [vVal] at HI ⊢
  go_enter Tryz.func100, Tryz.ntmps100
  have hb0 := Below.new w (.cells #[.int .i64 x1, .string x2, .int .i64 x3] 101); have k0 := Blk.lit w w.heap.size [.int .i64 x1, .string x2, .int .i64 x3] 101 rfl; have a0 := k0.cell 0 rfl; have a1 := k0.cell 1 rfl; have a2 := k0.cell 2 rfl
  go_wp2_with fail
  refine (HI.out _ hb0).mono ?_; rintro e w1 ⟨rfl, hb1⟩; have k1 := k0.keep hb1; have hbw := hb0.trans (hb1.mono hb0.size); clear a0 a1 a2 k0 hb0 hb1 HI; go_wp2; refine wp_region_sched 9 [0, 2, 5, 6, 7, 8] (fun V => Below w1.heap.size w1 V) rfl (by kernel_rfl) (by kernel_rfl) ?_; have hb_0 : Below w1.heap.size w1 w1.drew := (Below.refl _ _).drew; generalize w1.drew = W0 at *
  (refine sched_light 0 _ ?_ (by kernel_rfl) (by kernel_rfl) rfl rfl ?_ hb_0 ?_; rotate_left; · (intro w' hS; (try dsimp only at hS); go_simp; with_reducible rfl)); try simp only [Act.put, List.getElem_toArray, List.getElem_cons_succ, List.getElem_cons_zero, List.setIfInBounds_toArray, List.set_cons_zero, List.set_cons_succ]
  refine sched_light 2 _ (.agg #[.int .i64 x1, .string x2, .int .i64 x3]) (by kernel_rfl) (by kernel_rfl) rfl rfl ?_ hb_0 ?_
  ·intro w' hS; have k2 := k1.keep hS; have c0 := k2.cell 0 rfl; have c1 := k2.cell 1 rfl; have c2 := k2.cell 2 rfl; go_simp
  try simp only [Act.put, List.getElem_toArray, List.getElem_cons_succ, List.getElem_cons_zero, List.setIfInBounds_toArray, List.set_cons_zero, List.set_cons_succ]
  (refine sched_light 5 _ ?_ (by kernel_rfl) (by kernel_rfl) rfl rfl ?_ hb_0 ?_; rotate_left; · (intro w' hS; (try dsimp only at hS); go_simp; with_reducible rfl)); try simp only [Act.put, List.getElem_toArray, List.getElem_cons_succ, List.getElem_cons_zero, List.setIfInBounds_toArray, List.set_cons_zero, List.set_cons_succ]
  (refine sched_light 6 _ ?_ (by kernel_rfl) (by kernel_rfl) rfl rfl ?_ hb_0 ?_; rotate_left; · (intro w' hS; (try dsimp only at hS); go_simp; with_reducible rfl)); try simp only [Act.put, List.getElem_toArray, List.getElem_cons_succ, List.getElem_cons_zero, List.setIfInBounds_toArray, List.set_cons_zero, List.set_cons_succ]
  refine sched_fork [1, 3] (by kernel_rfl) (by kernel_rfl) (by decide) ?_; intro i hi; simp only [List.mem_cons, List.not_mem_nil, or_false] at hi
  rcases hi with rfl | rfl
  ·refine sched_heavy 1 _ rfl rfl (fun K hK => ?_); go_step; refine (HC.out _).mono ?_; rintro e W9 ⟨rfl, hW9⟩; rw [hW9]; clear hW9; refine hK.out _ _ hb_0 ?_; clear hK K
   try simp only [Act.put, List.getElem_toArray, List.getElem_cons_succ, List.getElem_cons_zero, List.setIfInBounds_toArray, List.set_cons_zero, List.set_cons_succ]
   refine sched_fork [3] (by kernel_rfl) (by kernel_rfl) (by decide) ?_; intro i hi; simp only [List.mem_cons, List.not_mem_nil, or_false] at hi; subst hi; refine sched_heavy 3 _ rfl rfl (fun K hK => ?_); go_step; have hb_1 := hb_0.alloc hb_0.size (.cells #[.int .i64 x1, .string x2, .int .i64 x3] 101); have rdx := Rd.lit W0 W0.heap.size [.int .i64 x1, .string x2, .int .i64 x3] 101 rfl; refine hK.out _ _ hb_1 ?_; clear hK K; generalize W0.alloc (.cells #[.int .i64 x1, .string x2, .int .i64 x3] 101) = WL at *
   try simp only [Act.put, List.getElem_toArray, List.getElem_cons_succ, List.getElem_cons_zero, List.setIfInBounds_toArray, List.set_cons_zero, List.set_cons_succ]
   refine sched_fork [4] (by kernel_rfl) (by kernel_rfl) (by decide) ?_; intro i hi; simp only [List.mem_cons, List.not_mem_nil, or_false] at hi; subst hi; refine sched_heavy 4 _ rfl rfl (fun K hK => ?_); refine wp_app_full _ (.tmp 15) (.tmp 17) 118 rfl 101 (.agg #[.int .i64 0, .string ⟨#[]⟩, .int .i64 0]) 3 32 Tryz.underlying118 Tryz.infoVal rfl (by decide) a N N (vvs L) rfl (fun h => by have := hn h; omega) (by rw [vvs_len, HN.out]) (HR.out.keep (hbw.trans (hb_1.mono hbw.size))) ⟨W0.heap.size, 0, none⟩ 1 1 [.int .i64 x1, .string x2, .int .i64 x3] rfl rfl rdx (by simp [Value.oneCell']) (by omega) (by unfold maxLen; omega) (by omega) ?_; intro v3 w3 hown hb3; have hb_2 := hb_1.trans (hb3.mono hb_1.size); refine hK.out _ _ hb_2 ?_; clear hK K
   try simp only [Act.put, List.getElem_toArray, List.getElem_cons_succ, List.getElem_cons_zero, List.setIfInBounds_toArray, List.set_cons_zero, List.set_cons_succ]
   (refine sched_light 7 _ ?_ (by kernel_rfl) (by kernel_rfl) rfl rfl ?_ hb_2 ?_; rotate_left; · (intro w' hS; (try dsimp only at hS); go_simp; with_reducible rfl)); try simp only [Act.put, List.getElem_toArray, List.getElem_cons_succ, List.getElem_cons_zero, List.setIfInBounds_toArray, List.set_cons_zero, List.set_cons_succ]
   (refine sched_light 8 _ ?_ (by kernel_rfl) (by kernel_rfl) rfl rfl ?_ hb_2 ?_; rotate_left; · (intro w' hS; (try dsimp only at hS); go_simp; with_reducible rfl)); try simp only [Act.put, List.getElem_toArray, List.getElem_cons_succ, List.getElem_cons_zero, List.setIfInBounds_toArray, List.set_cons_zero, List.set_cons_succ]
   refine sched_end (by kernel_rfl) ?_; obtain ⟨p, q, rfl, h1, h2, h3, hrd, hbk⟩ := hown.form; have hty3 := typB_owns hown; have hmp : vvs (L ++ [(x1, x2, x3)]) = vvs L ++ [.int .i64 x1, .string x2, .int .i64 x3] := vvs_snoc L x1 x2 x3; go_wp2; refine bodyPost_ret (v := .tuple #[.slice p (N + 1) q, .int .i64 (N : Int)]) (by simp [results, Tryz.results100, go_sem, Act.put]) rfl ⟨p, q, rfl, h1, h2, h3, hty3, fun b h => .inr (Nat.le_trans (hbw.trans (hb_1.mono hbw.size)).size (hbk b h).1), by first | (rw [hmp]; exact hrd) | exact hrd, hbw.trans (hb_2.mono hbw.size)⟩
  ·refine sched_heavy 3 _ rfl rfl (fun K hK => ?_); go_step; have hb_1 := hb_0.alloc hb_0.size (.cells #[.int .i64 x1, .string x2, .int .i64 x3] 101); have rdx := Rd.lit W0 W0.heap.size [.int .i64 x1, .string x2, .int .i64 x3] 101 rfl; refine hK.out _ _ hb_1 ?_; clear hK K; generalize W0.alloc (.cells #[.int .i64 x1, .string x2, .int .i64 x3] 101) = WL at *
   try simp only [Act.put, List.getElem_toArray, List.getElem_cons_succ, List.getElem_cons_zero, List.setIfInBounds_toArray, List.set_cons_zero, List.set_cons_succ]
   refine sched_fork [1] (by kernel_rfl) (by kernel_rfl) (by decide) ?_; intro i hi; simp only [List.mem_cons, List.not_mem_nil, or_false] at hi; subst hi; refine sched_heavy 1 _ rfl rfl (fun K hK => ?_); go_step; refine (HC.out _).mono ?_; rintro e W9 ⟨rfl, hW9⟩; rw [hW9]; clear hW9; refine hK.out _ _ hb_1 ?_; clear hK K
   try simp only [Act.put, List.getElem_toArray, List.getElem_cons_succ, List.getElem_cons_zero, List.setIfInBounds_toArray, List.set_cons_zero, List.set_cons_succ]
   refine sched_fork [4] (by kernel_rfl) (by kernel_rfl) (by decide) ?_; intro i hi; simp only [List.mem_cons, List.not_mem_nil, or_false] at hi; subst hi; refine sched_heavy 4 _ rfl rfl (fun K hK => ?_); refine wp_app_full _ (.tmp 15) (.tmp 17) 118 rfl 101 (.agg #[.int .i64 0, .string ⟨#[]⟩, .int .i64 0]) 3 32 Tryz.underlying118 Tryz.infoVal rfl (by decide) a N N (vvs L) rfl (fun h => by have := hn h; omega) (by rw [vvs_len, HN.out]) (HR.out.keep (hbw.trans (hb_1.mono hbw.size))) ⟨W0.heap.size, 0, none⟩ 1 1 [.int .i64 x1, .string x2, .int .i64 x3] rfl rfl rdx (by simp [Value.oneCell']) (by omega) (by unfold maxLen; omega) (by omega) ?_; intro v3 w3 hown hb3; have hb_2 := hb_1.trans (hb3.mono hb_1.size); refine hK.out _ _ hb_2 ?_; clear hK K
   try simp only [Act.put, List.getElem_toArray, List.getElem_cons_succ, List.getElem_cons_zero, List.setIfInBounds_toArray, List.set_cons_zero, List.set_cons_succ]
   (refine sched_light 7 _ ?_ (by kernel_rfl) (by kernel_rfl) rfl rfl ?_ hb_2 ?_; rotate_left; · (intro w' hS; (try dsimp only at hS); go_simp; with_reducible rfl)); try simp only [Act.put, List.getElem_toArray, List.getElem_cons_succ, List.getElem_cons_zero, List.setIfInBounds_toArray, List.set_cons_zero, List.set_cons_succ]
   (refine sched_light 8 _ ?_ (by kernel_rfl) (by kernel_rfl) rfl rfl ?_ hb_2 ?_; rotate_left; · (intro w' hS; (try dsimp only at hS); go_simp; with_reducible rfl)); try simp only [Act.put, List.getElem_toArray, List.getElem_cons_succ, List.getElem_cons_zero, List.setIfInBounds_toArray, List.set_cons_zero, List.set_cons_succ]
   refine sched_end (by kernel_rfl) ?_; obtain ⟨p, q, rfl, h1, h2, h3, hrd, hbk⟩ := hown.form; have hty3 := typB_owns hown; have hmp : vvs (L ++ [(x1, x2, x3)]) = vvs L ++ [.int .i64 x1, .string x2, .int .i64 x3] := vvs_snoc L x1 x2 x3; go_wp2; refine bodyPost_ret (v := .tuple #[.slice p (N + 1) q, .int .i64 (N : Int)]) (by simp [results, Tryz.results100, go_sem, Act.put]) rfl ⟨p, q, rfl, h1, h2, h3, hty3, fun b h => .inr (Nat.le_trans (hbw.trans (hb_1.mono hbw.size)).size (hbk b h).1), by first | (rw [hmp]; exact hrd) | exact hrd, hbw.trans (hb_2.mono hbw.size)⟩
end Go.Proofs.YtjggoajfilnfjaaGreat
namespace Go
open Go.RowKit
open Go.Maps (Keyed IsMap string_keyed)
def StrSet (P : Program) (K E : TypeId) (w : World) (b n : Nat) (ks : List (List UInt8)) : Prop :=
 ∃ D : DataW Unit, w.ownsMap P K (plainElem P E) b n D ∧ IsMap D ∧ ∀ s : ByteArray, D.atKey (.string s.data.toList) (.lit (.bool false)) = .lit (.bool (decide (s.data.toList ∈ ks)))
theorem StrSet.made (P : Program) (K E : TypeId) (w : World) : StrSet P K E (w.alloc (.map #[] 0)) w.heap.size 0 [] :=
 ⟨.map [], World.ownsMap_made w P K _, ⟨[], rfl⟩, fun s => by simp [DataW.atKey]⟩
theorem StrSet.below {P : Program} {K E : TypeId} {w w' : World} {b n : Nat} {ks : List (List UInt8)} (h : StrSet P K E w b n ks) (hb : Below w.heap.size w w') : StrSet P K E w' b n ks := by
 obtain ⟨D, hD, hm, hk⟩ := h; have hl := hD.lt; obtain ⟨es, clock, he, r⟩ := hD; exact ⟨D, ⟨es, clock, (hb.block b hl).trans he, r⟩, hm, hk⟩
theorem StrSet.lt {P : Program} {K E : TypeId} {w : World} {b n : Nat} {ks : List (List UInt8)} (h : StrSet P K E w b n ks) : b < w.heap.size := by
 obtain ⟨D, hD, -⟩ := h; exact hD.lt
theorem StrSet.look {P : Program} {K E T : TypeId} {w : World} {b n : Nat} {ks : List (List UInt8)} (h : StrSet P K E w b n ks) (ht : P.underlying T = some (.map K E)) (hK : P.underlying K = some .string) (hE : P.underlying E = some .bool) (hz : (zeroValue E).run P w = .ok (.bool false) w) (s : ByteArray) (hs : s.size ≤ maxLen) :
  (Instr.lookup T (.map (some b)) (.string s) false).run P w = .ok (.bool (decide (s.data.toList ∈ ks))) w := by
 obtain ⟨D, hD, hm, hk⟩ := h; obtain ⟨v, ps, hrun, hv⟩ := hD.lookup (string_keyed hK) ht hz (plainElem_bool hE false) (WideMaps.keyOf_string_mk hK hs); rw [hk] at hv; have : v = .bool (decide (s.data.toList ∈ ks)) := by
  unfold plainElem at hv; rw [hE] at hv
  cases v <;> simp at hv
  obtain ⟨h1, -⟩ := hv; rw [h1]
 rw [hrun, this]
theorem wpList_set_add {P : Program} {K E T : TypeId} (w : World) {ops : Array Oper} {rest : List Oper} {o : Oper} {a : Act} {Q : Exit → Act → World → Prop}
  (hg : o.guard = none) (m x v : Operand) (hop : o.op = Op.mapUpdate T m x v) (ht : P.underlying T = some (.map K E)) (hK : P.underlying K = some .string) (hE : P.underlying E = some .bool) (b n : Nat) (ks : List (List UInt8))
  (hm : a.eval m = .map (some b)) (hown : StrSet P K E w b n ks) (hn : n < maxLen) (s : ByteArray) (hs : s.size ≤ maxLen) (hx : a.eval x = .string s) (hv : a.eval v = .bool true)
  (hk : ∀ w', StrSet P K E w' b (n + 1) (s.data.toList :: ks) → w.grownBy w' (some b) → wpList P ops Q rest (a.put o.dst undef) w') :
  wpList P ops Q (o :: rest) a w := by
 obtain ⟨D, hD, hmap, hat⟩ := hown; refine wpList_mapUpdate_own w hg m x v T hop K E (string_keyed hK) ht (plainElem P E) b n D hm hD hn (.string s) (.bool true) (.string s.data.toList) hx hv (WideMaps.keyOf_string_mk hK hs) (.lit (.bool true)) [] (plainElem_bool hE true) ?_; intro w' h1 h2; refine hk w' ⟨_, h1, hmap.put _ _, fun s' => ?_⟩ h2
 by_cases he : s'.data.toList = s.data.toList
 ·rw [he, Maps.atKey_put_same hmap (by trivial)]; simp
 ·rw [Maps.atKey_put_other (by
   intro h; apply he
   injection h), hat]
  simp [he]
end Go
namespace Go
open Go.RowKit
def cutS (s : ByteArray) : ByteArray := s.extract 0 (min s.size 100)
def cutA (a : At) : At := ⟨cutS a.key, a.kind, cutS a.text, a.n⟩
def AtOk (a : At) : Prop := a.key.size ≤ maxLen ∧ a.text.size ≤ maxLen
theorem cutS_ok (s : ByteArray) : (cutS s).size ≤ maxLen := by unfold cutS maxLen; simp; omega
theorem cutA_ok (a : At) : AtOk (cutA a) := ⟨cutS_ok _, cutS_ok _⟩
end Go
namespace Go.Proofs.YtjggoajfilnfjaaGreat
open Go.RowKit
set_option maxHeartbeats 800000 in
theorem cut10_any (k n : Int) (s : ByteArray) (hs : s.size ≤ maxLen) (w : World) :
  Calls Tryz.prog 44 #[.agg #[.int .i64 k, .string s, .int .i64 n]] w fun e w' => e = .returned (.agg #[.int .i64 k, .string (cutS s), .int .i64 n]) ∧ Below w.heap.size w w' := by
 have hs2 : s.size ≤ 9223372036854775807 := by unfold maxLen at hs; omega
 obtain ⟨z0, hz0⟩ : ∃ z : Int, (if (100 : Int) < (s.size : Int) then (100 : Int) else (s.size : Int)) = z := ⟨_, rfl⟩; have e0 : z0.toNat = min s.size 100 := by rw [← hz0]; split <;> omega
 have hz1 : 0 ≤ z0 ∧ z0 ≤ (s.size : Int) := by rw [← hz0]; split <;> omega
 have hzm : min (s.size : Int) 100 = z0 := by rw [← hz0]; split <;> omega
 have HC : Hid (cutS s = s.extract 0 (min s.size 100)) := Lib.hid rfl; generalize cutS s = CS at *
 go_enter Tryz.func44, Tryz.ntmps44
 go_wp2; refine bodyPost_ret (v := .agg #[.int .i64 k, .string CS, .int .i64 n]) ?_ rfl ⟨rfl, (Below.new _ _).alloc (by simp) _⟩; rw [← HC.out]; simp [results, Tryz.results44, go_sem]

set_option maxHeartbeats 3200000 in
theorem cut11_any (a : Option Addr) (c : Nat) (l : List At) (hlc : l.length ≤ c) (hcm : c ≤ maxLen) (hok : ∀ x ∈ l, AtOk x) (w : World) (hr : Rd w a (ats l)) :
  Calls Tryz.prog 17 #[.slice a l.length c] w fun e w' => ∃ v, e = .returned v ∧ w'.ownsRow w.heap.size 103 4 v ((l.take 10).map cutA).length (ats ((l.take 10).map cutA)) ∧ Below w.heap.size w w' := by
 have HC := Lib.hid (fun k n s hs w => cut10_any k n s hs w); have HOK := Lib.hid hok; have HR := Lib.hid hr; unfold maxLen at hcm; obtain ⟨N, hN⟩ : ∃ N, l.length = N := ⟨_, rfl⟩; have HN := Lib.hid hN; rw [hN] at hlc ⊢; have hml : ((l.take 10).map cutA).length = min 10 N := by rw [List.length_map, List.length_take, hN]
 rw [hml]; clear hr hN hok hml
 go_enter Tryz.func17, Tryz.ntmps17
 go_wp2
 go_loopw [3, 4] (fun o i wr => ∃ k : Nat, k ≤ N ∧ k ≤ 10 ∧ i = .int .i64 k ∧ wr.ownsRow w.heap.size 103 4 o k (ats ((l.take k).map cutA)) ∧ Below w.heap.size w wr) (fun _ i _ => 10 - (intOf i).toNat)
 case atStart => exact ⟨0, by omega, by omega, rfl, World.ownsRow_nil _ _ _ _, Below.refl _ _⟩
 case round =>
  obtain ⟨i, hi, hi10, rfl, ho, hbl⟩ := hrel
  by_cases hlt : i < N ∧ i < 10
  ·obtain ⟨h1, h2⟩ := hlt; have h1' : (i : Int) < (N : Int) := by omega
   have h2' : (i : Int) < 10 := by omega
   have hil : i < l.length := by rw [HN.out]; exact h1
   obtain ⟨b1, o1, rfl, hbb, c0, c1, c2, c3⟩ := HR.out.atr i hil; obtain ⟨k1, k2⟩ := HOK.out l[i] (List.getElem_mem hil); have HSN : Hid (ats ((l.take (i + 1)).map cutA) = ats ((l.take i).map cutA) ++ (cutA l[i]).cells) := Lib.hid (by
    rw [List.take_succ_eq_append_getElem hil, List.map_append, List.map_singleton, ats_snoc])
   have hcc : (cutA l[i]).cells = [.string (cutS l[i].key), .int .i64 l[i].kind, .string (cutS l[i].text), .int .i64 l[i].n] := rfl; rw [hcc] at HSN; have HC10 := Lib.hid (fun w => HC.out l[i].kind l[i].n l[i].text k2 w); generalize cutS l[i].text = T2 at *; obtain ⟨K1, hK1⟩ : ∃ K, l[i].key = K := ⟨_, rfl⟩; rw [hK1] at c0 HSN k1 hcc; obtain ⟨K2, hK2⟩ : ∃ K, cutS K1 = K := ⟨_, rfl⟩; rw [hK2] at HSN; obtain ⟨z0, hz0⟩ : ∃ z : Int, (if (100 : Int) < (K1.size : Int) then (100 : Int) else (K1.size : Int)) = z := ⟨_, rfl⟩; have e0 : z0.toNat = min K1.size 100 := by rw [← hz0]; split <;> omega
   have hz1 : 0 ≤ z0 ∧ z0 ≤ (K1.size : Int) := by rw [← hz0]; split <;> omega
   have hzm : min (K1.size : Int) 100 = z0 := by rw [← hz0]; split <;> omega
   have hks : K1.extract 0 (min K1.size 100) = K2 := hK2; generalize l[i].kind = kd at *; generalize l[i].text = T1 at *; generalize l[i].n = nn at *; clear hK1 hK2 hcc k2; unfold maxLen at k1; go_wp2; refine wp_region_lit_txt [0, 1, 2, 3, 4, 5, 6, 7, 8, 9, 10, 11, 12, 13, 14, 15, 16, 17, 18, 20, 23] (fun W => Below w.heap.size w W) (by kernel_rfl) (by kernel_rfl) (by kernel_rfl) (hbl.drew) ?_
   iterate 5 ((refine txt_light ?_ rfl rfl ?_ ?_; rotate_left; · (intro w' hS; (try dsimp only at hS); go_simp; with_reducible rfl)); try simp only [Act.put, List.setIfInBounds_toArray, List.set_cons_zero, List.set_cons_succ])
   refine txt_light (.string K1) rfl rfl ?_ ?_
   ·intro w' hS; have e0 := (hS.cell (p := ⟨b1, o1 + i * 4, none⟩) hbb).trans c0; go_simp
   try simp only [Act.put, List.setIfInBounds_toArray, List.set_cons_zero, List.set_cons_succ]
   iterate 4 ((refine txt_light ?_ rfl rfl ?_ ?_; rotate_left; · (intro w' hS; (try dsimp only at hS); go_simp; with_reducible rfl)); try simp only [Act.put, List.setIfInBounds_toArray, List.set_cons_zero, List.set_cons_succ])
   refine txt_light (.string K1) rfl rfl ?_ ?_
   ·intro w' hS; have e0 := (hS.cell (p := ⟨b1, o1 + i * 4, none⟩) hbb).trans c0; go_simp
   try simp only [Act.put, List.setIfInBounds_toArray, List.set_cons_zero, List.set_cons_succ]
   (refine txt_light ?_ rfl rfl ?_ ?_; rotate_left; · (intro w' hS; (try dsimp only at hS); go_simp; with_reducible rfl)); try simp only [Act.put, List.setIfInBounds_toArray, List.set_cons_zero, List.set_cons_succ]
   refine txt_light (.int .i64 z0) rfl rfl ?_ ?_
   ·intro w' hS; go_simp
   try simp only [Act.put, List.setIfInBounds_toArray, List.set_cons_zero, List.set_cons_succ]
   refine txt_light (.string K2) rfl rfl ?_ ?_
   ·intro w' hS; go_simp
   try simp only [Act.put, List.setIfInBounds_toArray, List.set_cons_zero, List.set_cons_succ]
   iterate 4 ((refine txt_light ?_ rfl rfl ?_ ?_; rotate_left; · (intro w' hS; (try dsimp only at hS); go_simp; with_reducible rfl)); try simp only [Act.put, List.setIfInBounds_toArray, List.set_cons_zero, List.set_cons_succ])
   refine txt_light (.agg #[.int .i64 kd, .string T1, .int .i64 nn]) rfl rfl ?_ ?_
   ·intro w' hS; have e1 := (hS.cell (p := ⟨b1, o1 + i * 4 + 1, none⟩) hbb).trans c1; have e2 := (hS.cell (p := ⟨b1, o1 + i * 4 + 2, none⟩) hbb).trans c2; have e3 := (hS.cell (p := ⟨b1, o1 + i * 4 + 3, none⟩) hbb).trans c3; go_simp
   try simp only [Act.put, List.setIfInBounds_toArray, List.set_cons_zero, List.set_cons_succ]
   have ho0 : wr.drew.ownsRow w.heap.size 103 4 u3 i (ats ((l.take i).map cutA)) := ho; have hbd : Below w.heap.size w wr.drew := hbl.drew; generalize wr.drew = W0 at *; refine txt_call [.agg #[.int .i64 kd, .string T1, .int .i64 nn]] Tryz.f44 rfl rfl Tryz.func44 (by kernel_rfl) (by kernel_rfl) rfl ((HC10.out _).mono ?_); rintro e W1 ⟨rfl, hx1⟩; have ho1 := ho0.below hx1; have hb1 := hbd.trans (hx1.mono hbd.size); refine ⟨_, rfl, hb1, ?_⟩; clear hx1 ho0 hbd
   try simp only [Act.put, List.setIfInBounds_toArray, List.set_cons_zero, List.set_cons_succ]
   refine txt_light (.agg #[.string K2, .int .i64 kd, .string T2, .int .i64 nn]) rfl rfl ?_ ?_
   ·intro w' hS; go_simp
   try simp only [Act.put, List.setIfInBounds_toArray, List.set_cons_zero, List.set_cons_succ]
   refine txt_heavy rfl rfl (fun K hK => ?_); go_step; have ho2 := ho1.below (Below.new W1 (.cells #[.string K2, .int .i64 kd, .string T2, .int .i64 nn] 103)); have hb2 := hb1.alloc hb1.size (.cells #[.string K2, .int .i64 kd, .string T2, .int .i64 nn] 103); have rd := Rd.lit W1 W1.heap.size [.string K2, .int .i64 kd, .string T2, .int .i64 nn] 103 rfl; refine hK.out _ _ hb2 ?_; clear hK K ho1 hb1; generalize W1.alloc (.cells #[.string K2, .int .i64 kd, .string T2, .int .i64 nn] 103) = W2 at *
   try simp only [Act.put, List.setIfInBounds_toArray, List.set_cons_zero, List.set_cons_succ]
   refine txt_app w hb2 rfl rfl (.tmp 15) (.tmp 36) 50 rfl 103 (.agg #[.string ⟨#[]⟩, .int .i64 0, .string ⟨#[]⟩, .int .i64 0]) 4 48 Tryz.underlying50 Tryz.infoAt rfl (by decide) u3 i (ats ((l.take i).map cutA)) rfl ho2 (some ⟨W1.heap.size, 0, none⟩) 1 1 [.string K2, .int .i64 kd, .string T2, .int .i64 nn] rfl (fun h => by cases h) rd rfl (by simp [Value.oneCell']) (by omega) (by decide) ?_; intro v3 W3 ho3 hg3 hb3; refine ⟨hb3, ?_⟩
   try simp only [Act.put, List.setIfInBounds_toArray, List.set_cons_zero, List.set_cons_succ]
   (refine txt_light ?_ rfl rfl ?_ ?_; rotate_left; · (intro w' hS; (try dsimp only at hS); go_simp; with_reducible rfl)); try simp only [Act.put, List.setIfInBounds_toArray, List.set_cons_zero, List.set_cons_succ]
   refine txt_nil ?_; clear c0 c1 c2 c3 ho2 hb2 hg3 rd; have HO9 : Hid (W3.ownsRow w.heap.size 103 4 v3 (i + 1) (ats ((l.take (i + 1)).map cutA))) := Lib.hid (by rw [HSN.out]; exact ho3); clear ho3; go_wp2; exact ⟨⟨i + 1, by omega, by omega, by go_num, by have := HO9.out; simpa only [List.map_take] using this, hb3⟩, by simp [intOf]; omega⟩
  ·have HML : Hid (i = min 10 N) := Lib.hid (by omega); have HTK : Hid (l.take i = l.take 10) := Lib.hid (by
    by_cases h10 : i = 10
    ·rw [h10]
    ·rw [List.take_of_length_le (by rw [HN.out]; omega), List.take_of_length_le (by rw [HN.out]; omega)])
   have HO9 : Hid (wr.ownsRow w.heap.size 103 4 u3 (min 10 N) (ats ((l.take 10).map cutA))) := Lib.hid (by rw [← HML.out, ← HTK.out]; exact ho)
   by_cases h1 : i < N
   ·have h1' : (i : Int) < (N : Int) := by omega
    have h2' : ¬ (i : Int) < 10 := by omega
    go_wp2; go_ret; exact ⟨u3, rfl, by have := HO9.out; simpa only [List.map_take] using this, hbl⟩
   ·have h1' : ¬ (i : Int) < (N : Int) := by omega
    go_wp2; go_ret; exact ⟨u3, rfl, by have := HO9.out; simpa only [List.map_take] using this, hbl⟩
end Go.Proofs.YtjggoajfilnfjaaGreat
