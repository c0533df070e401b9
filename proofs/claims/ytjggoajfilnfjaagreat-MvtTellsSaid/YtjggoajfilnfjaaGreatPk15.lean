/-
  (*table.Table).Add, of right attributes. Features and layers of tiles in memory. geom's reader: command, with the two functions that it is given.
-/
import Derived.Test.YtjggoajfilnfjaaGreatPk12
import Derived.Test.YtjggoajfilnfjaaGreatPk13
import Derived.Test.YtjggoajfilnfjaaGreatPk14
set_option linter.unusedVariables false
set_option linter.unusedSimpArgs false
set_option maxRecDepth 100000
namespace Go
open Go.RowKit
theorem grown_into {W0 A A' : World} {B : Nat} {r : Option Nat} (h : W0.grownBy A (some B)) (hg : A.grownBy A' r) (hr : ∀ k, r = some k → W0.heap.size ≤ k ∨ k = B) : W0.grownBy A' (some B) :=
 ⟨hg.os.trans h.os, hg.tape.trans h.tape, hg.output.trans h.output, Nat.le_trans h.size hg.size, fun k hk hne => (hg.block k (Nat.lt_of_lt_of_le hk h.size) (fun e => by
  rcases hr k e.symm with h1 | h1
  ·omega
  ·exact hne (by rw [h1]))).trans (h.block k hk hne)⟩
theorem grown_of {A B : World} (h : Below A.heap.size A B) (r : Option Nat) : A.grownBy B r := ⟨h.os, h.tape, h.output, h.size, fun k hk _ => h.block k hk⟩
theorem Rd.set_off {w : World} {a : Option Addr} {vs : List Value} {B o : Nat} {u : Value} (h : Rd w a vs) (hb : ∀ b, a.map (·.block) = some b → b ≠ B) : Rd (w.setCell ⟨B, o, none⟩ u) a vs :=
 h.grown (grown_set w B o u) (fun b hb2 e => hb b hb2 (by simpa using e))
theorem typB_grown {W W' : World} {a : Option Addr} {T : TypeId} {r : Option Nat} (h : TypB W a T) (hg : W.grownBy W' r) (hne : ∀ b, a.map (·.block) = some b → some b ≠ r) : TypB W' a T := fun b hb2 => by
 obtain ⟨cs, fr, hc⟩ := h b hb2; exact ⟨cs, fr, (hg.block b (Array.getElem?_eq_some_iff.1 hc).1 (hne b hb2)).trans hc⟩
theorem typB_ne {W : World} {a : Option Addr} {T : TypeId} {base : Nat} {e : TypeId} {size n : Nat} {v : Value} {xs : List Value} (h : TypB W a T) (ho : W.ownsRow base e size v n xs) (he : T ≠ e) : ∀ b, a.map (·.block) = some b → some b ≠ v.ownBlock := by
 intro b hb hx; obtain ⟨cs, fr, hc⟩ := h b hb
 rcases ho.2 with ⟨rfl, _⟩ | ⟨g, cap, cur, rfl, _, hgb, _⟩
 ·cases hx
 ·obtain rfl : b = g := by simpa [Value.ownBlock] using hx
  rw [hgb] at hc
  cases hc
  exact he rfl
end Go
namespace Go.Proofs.YtjggoajfilnfjaaGreat
open Go.RowKit
def TbAt (W : World) (B : Nat) (t : TB) (kp : Option Addr) (kc : Nat) (vp : Option Addr) (vc : Nat) : Prop :=
 Blk W B [.slice kp t.1.length kc, .slice vp t.2.length vc] ∧ (Rd W kp (t.1.map Value.string) ∧ t.1.length ≤ kc ∧ kc ≤ maxLen ∧ (kp = none → kc = 0) ∧ (∀ b, kp.map (·.block) = some b → b ≠ B) ∧ TypB W kp 9) ∧
 (Rd W vp (vvs t.2) ∧ t.2.length ≤ vc ∧ vc ≤ maxLen ∧ (vp = none → vc = 0) ∧ (∀ b, vp.map (·.block) = some b → b ≠ B) ∧ TypB W vp 101)
def TbIn (W : World) (B : Nat) (t : TB) : Prop := ∃ kp kc vp vc, TbAt W B t kp kc vp vc
theorem TbIn.keep {W W' : World} {B : Nat} {t : TB} (h : TbIn W B t) (hb : Below W.heap.size W W') : TbIn W' B t := by
 obtain ⟨kp, kc, vp, vc, h1, ⟨h2, a1, a2, a3, a4, a5⟩, ⟨h3, b1, b2, b3, b4, b5⟩⟩ := h; exact ⟨kp, kc, vp, vc, h1.keep hb, ⟨h2.keep hb, a1, a2, a3, a4, typB_below a5 hb⟩, ⟨h3.keep hb, b1, b2, b3, b4, typB_below b5 hb⟩⟩
theorem TbIn.lt {W : World} {B : Nat} {t : TB} (h : TbIn W B t) : B < W.heap.size := by
 obtain ⟨kp, kc, vp, vc, h1, h2, h3⟩ := h; exact h1.lt
theorem TbIn.row {W W' : World} {B : Nat} {t : TB} {base : Nat} {e : TypeId} {size n : Nat} {v : Value} {xs : List Value} (h : TbIn W B t) (ho : W.ownsRow base e size v n xs) (h1 : 9 ≠ e) (h2 : 101 ≠ e) (hB : B < base) (hg : W.grownBy W' v.ownBlock) : TbIn W' B t := by
 obtain ⟨kp, kc, vp, vc, k1, ⟨g2, a1, a2, a3, a4, a5⟩, ⟨g3, b1, b2, b3, b4, b5⟩⟩ := h; have hk := typB_ne a5 ho h1; have hv := typB_ne b5 ho h2; exact ⟨kp, kc, vp, vc, k1.grown hg (fun e => by have := (ho.lt _ e.symm).1; omega), ⟨g2.grown hg hk, a1, a2, a3, a4, typB_grown a5 hg hk⟩, ⟨g3.grown hg hv, b1, b2, b3, b4, typB_grown b5 hg hv⟩⟩
set_option maxHeartbeats 12800000 in
theorem tadd_any (B : Nat) (t : TB) (a : Option Addr) (c : Nat) (ls : List At) (hE : tcF ls = 0) (hok : ∀ x ∈ ls, AtOk x) (ht : t.1.length ≤ 50000 ∧ t.2.length ≤ 50000) (w : World) (htb : TbIn w B t) (hr : Rd w a (ats ls)) (hne : ls = [] ∨ ∀ b, a.map (·.block) = some b → b ≠ B) :
  Calls Tryz.prog 79 #[.pointer (some ⟨B, 0, none⟩), .slice a ls.length c] w fun e w' => ∃ v, e = .returned (.tuple #[v, .int .i64 0]) ∧ w'.ownsRow w.heap.size 3 1 v (tagL t ls).length ((tagL t ls).map (Value.int .i64)) ∧ TbIn w' B (addL t ls) ∧ w.grownBy w' (some B) := by
 have hz := tcF_zero ls hE; have HC := Lib.hid (tcheck_any a c ls (by omega) hok w hr); rw [hE] at HC; have HR := Lib.hid hr; have HNE := Lib.hid (fun (h : ls ≠ []) => hne.resolve_left h); have HB := htb.lt; have HTB := Lib.hid htb; have HT0 : Hid (tagL t ls = tagL t (ls.take ls.length)) := Lib.hid (by rw [List.take_length]); have HA0 : Hid (addL t ls = addL t (ls.take ls.length)) := Lib.hid (by rw [List.take_length]); have HLB := Lib.hid (fun k => addL_len (ls.take k) t); have HTL := Lib.hid (fun k => tagL_len (ls.take k) t); obtain ⟨TG, hTG⟩ : ∃ T, tagL t ls = T := ⟨_, rfl⟩; obtain ⟨TB1, hTB1⟩ : ∃ T, addL t ls = T := ⟨_, rfl⟩; rw [hTG] at HT0 ⊢; rw [hTB1] at HA0 ⊢; obtain ⟨N, hN⟩ : ∃ N, ls.length = N := ⟨_, rfl⟩; have HN := Lib.hid hN; rw [hN] at HT0 HA0 HC ⊢; have hN8 : N ≤ 8 := by omega
 clear hE hok hr hne hz hN hTG hTB1 htb
 go_enter Tryz.func79, Tryz.ntmps79
 go_wp2_with fail
 refine HC.out.mono ?_; rintro e w1 ⟨rfl, hb1⟩; have hs1 := hb1.size; have ho1 : w1.ownsRow w.heap.size 3 1 (.slice none 0 0) 0 [] := World.ownsRow_nil _ _ _ _; have ht1 := HTB.out.keep hb1; have hg1 := grown_of hb1 (some B); go_wp2
 go_loopw [7, 21] (fun o i wr => ∃ k : Nat, k ≤ N ∧ i = .int .i64 k ∧ wr.ownsRow w.heap.size 3 1 o (tagL t (ls.take k)).length ((tagL t (ls.take k)).map (Value.int .i64)) ∧ TbIn wr B (addL t (ls.take k)) ∧ w.grownBy wr (some B)) (fun _ i _ => N - (intOf i).toNat)
 case atStart => exact ⟨0, by omega, rfl, by simpa [tagL] using ho1, by simpa [addL] using ht1, hg1⟩
 case round =>
  clear ho1 ht1 hg1; obtain ⟨k, hk, rfl, ho, htb, hg⟩ := hrel
  by_cases hlt : k < N
  ·have hlt' : (k : Int) < (N : Int) := by omega
   have hkl : k < ls.length := by rw [HN.out]; exact hlt
   have hRr := HR.out.grown hg (fun b hb e => HNE.out (List.ne_nil_of_length_pos (by omega)) b hb (by simpa using e)); obtain ⟨b1, o1, rfl, hbb, c0, c1, c2, c3⟩ := hRr.atr k hkl; have htk : ls.take (k + 1) = ls.take k ++ [ls[k]] := List.take_succ_eq_append_getElem hkl; have HAS : Hid (addL t (ls.take (k + 1)) = addA (addL t (ls.take k)) ls[k]) := Lib.hid (by rw [htk, addL_snoc]); have HTS : Hid (tagL t (ls.take (k + 1)) = tagL t (ls.take k) ++ tagA (addL t (ls.take k)) ls[k]) := Lib.hid (by rw [htk, tagL_snoc]); have hlb := HLB.out k; have htl := HTL.out k; rw [List.length_take] at hlb htl; obtain ⟨t1, ht1⟩ : ∃ x, addL t (ls.take k) = x := ⟨_, rfl⟩; obtain ⟨g1, hg1⟩ : ∃ x, tagL t (ls.take k) = x := ⟨_, rfl⟩; rw [ht1] at HAS HTS htb hlb; rw [hg1] at HTS ho htl; clear htk ht1 hg1 hRr; generalize ls[k] = x at *; obtain ⟨ky, kd, tx, nn⟩ := x; dsimp only at c0 c1 c2 c3; obtain ⟨kp, kc, vp, vc, kB, ⟨r1, r2, r3, r4, r5, r6⟩, ⟨s1, s2, s3, s4, s5, s6⟩⟩ := htb; have hwr := hg.size; have hx1 := Below.new wr (.cells #[.string ky, .int .i64 kd, .string tx, .int .i64 nn] 103); obtain ⟨A9, hA9⟩ : ∃ b, wr.heap.size = b := ⟨_, rfl⟩; have kA := Blk.lit wr A9 [.string ky, .int .i64 kd, .string tx, .int .i64 nn] 103 hA9; have kB := kB.keep hx1; have r1 := r1.keep hx1; have s1 := s1.keep hx1; have r6 := typB_below r6 hx1; have s6 := typB_below s6 hx1; have ho := ho.below hx1; have hg := grown_into hg (grown_of hx1 none) (fun k h => by cases h); have hAB : A9 ≠ B := by omega
   obtain ⟨n1, hn1⟩ : ∃ n, t1.1.length = n := ⟨_, rfl⟩; obtain ⟨n2, hn2⟩ : ∃ n, t1.2.length = n := ⟨_, rfl⟩; rw [hn1] at kB r2 hlb; rw [hn2] at kB s2 hlb; have HPK := Lib.hid (fun (W : World) (hW : Below (wr.alloc (.cells #[.string ky, .int .i64 kd, .string tx, .int .i64 nn] 103)).heap.size (wr.alloc (.cells #[.string ky, .int .i64 kd, .string tx, .int .i64 nn] 103)) W) => placeS_any kp kc t1.1 ky (by omega) (by omega) r3 r4 W (typB_below r6 hW) (r1.keep hW)); have HPVr := Lib.hid (fun (W : World) (h : Rd W vp (vvs t1.2)) (h2 : TypB W vp 101) => placeV_any vp vc t1.2 (kd, tx, nn) (by omega) (by omega) s3 s4 W h2 h); rw [hn1] at HPK; rw [hn2] at HPVr; dsimp only [vVal] at HPVr; have HPA : Hid (addA t1 ⟨ky, kd, tx, nn⟩ = ((plc t1.1 ky).1, (plc t1.2 (kd, tx, nn)).1)) := Lib.hid rfl; have HPT : Hid (tagA t1 ⟨ky, kd, tx, nn⟩ = [((plc t1.1 ky).2 : Int), ((plc t1.2 (kd, tx, nn)).2 : Int)]) := Lib.hid rfl; generalize plc t1.1 ky = PK at *; generalize plc t1.2 (kd, tx, nn) = PV at *; obtain ⟨K1, k1⟩ := PK; obtain ⟨V1, v1⟩ := PV; dsimp only at HPK HPVr HPA HPT; go_wp2
   try rw [hA9]
   generalize wr.alloc (.cells #[.string ky, .int .i64 kd, .string tx, .int .i64 nn] 103) = wa at *; clear c0 c1 c2 c3 hx1 hA9 hn1 hn2; refine wp_region_stage 15 [0, 1, 2, 3, 4, 5, 6, 8, 9, 10, 11, 12, 14] [13] [0, 1, 2, 3, 5, 8, 9, 10, 11, 12, 14] (fun W => W.cell? ⟨B, 0, none⟩ = some (.slice kp n1 kc) ∧ Blk W A9 [.string ky, .int .i64 kd, .string tx, .int .i64 nn]) (fun _ => True) rfl (by kernel_rfl) (by kernel_rfl) ?_; have HS := Lib.hid (⟨kB.cell 0 rfl, kA⟩ : wa.drew.cell? ⟨B, 0, none⟩ = some (.slice kp n1 kc) ∧ Blk wa.drew A9 [.string ky, .int .i64 kd, .string tx, .int .i64 nn])
   (refine stg_free 0 _ ?_ (by kernel_rfl) (by kernel_rfl) (by kernel_rfl) rfl rfl ?_ trivial ?_; rotate_left; · (intro w' _; go_simp; with_reducible rfl)); try simp only [Act.put, List.getElem_toArray, List.getElem_cons_succ, List.getElem_cons_zero, List.setIfInBounds_toArray, List.set_cons_zero, List.set_cons_succ]
   (refine stg_free 1 _ ?_ (by kernel_rfl) (by kernel_rfl) (by kernel_rfl) rfl rfl ?_ trivial ?_; rotate_left; · (intro w' _; go_simp; with_reducible rfl)); try simp only [Act.put, List.getElem_toArray, List.getElem_cons_succ, List.getElem_cons_zero, List.setIfInBounds_toArray, List.set_cons_zero, List.set_cons_succ]
   (refine stg_free 2 _ ?_ (by kernel_rfl) (by kernel_rfl) (by kernel_rfl) rfl rfl ?_ trivial ?_; rotate_left; · (intro w' _; go_simp; with_reducible rfl)); try simp only [Act.put, List.getElem_toArray, List.getElem_cons_succ, List.getElem_cons_zero, List.setIfInBounds_toArray, List.set_cons_zero, List.set_cons_succ]
   (refine stg_free 3 _ ?_ (by kernel_rfl) (by kernel_rfl) (by kernel_rfl) rfl rfl ?_ trivial ?_; rotate_left; · (intro w' _; go_simp; with_reducible rfl)); try simp only [Act.put, List.getElem_toArray, List.getElem_cons_succ, List.getElem_cons_zero, List.setIfInBounds_toArray, List.set_cons_zero, List.set_cons_succ]
   refine stg_light 4 _ (.slice kp n1 kc) (by kernel_rfl) (by kernel_rfl) (by kernel_rfl) rfl rfl ?_ HS.out trivial ?_
   ·intro w' hS _; have e0 := hS.1; clear hS; go_simp
   try simp only [Act.put, List.getElem_toArray, List.getElem_cons_succ, List.getElem_cons_zero, List.setIfInBounds_toArray, List.set_cons_zero, List.set_cons_succ]
   (refine stg_free 5 _ ?_ (by kernel_rfl) (by kernel_rfl) (by kernel_rfl) rfl rfl ?_ trivial ?_; rotate_left; · (intro w' _; go_simp; with_reducible rfl)); try simp only [Act.put, List.getElem_toArray, List.getElem_cons_succ, List.getElem_cons_zero, List.setIfInBounds_toArray, List.set_cons_zero, List.set_cons_succ]
   refine stg_light 6 _ (.string ky) (by kernel_rfl) (by kernel_rfl) (by kernel_rfl) rfl rfl ?_ HS.out trivial ?_
   ·intro w' hS _; have e0 := hS.2.cell 0 rfl; clear hS; go_simp
   try simp only [Act.put, List.getElem_toArray, List.getElem_cons_succ, List.getElem_cons_zero, List.setIfInBounds_toArray, List.set_cons_zero, List.set_cons_succ]
   have hd : Below wa.heap.size wa wa.drew := (Below.refl _ _).drew; refine stg_oneS 7 _ (by kernel_rfl) (by kernel_rfl) (by kernel_rfl) rfl rfl (fun K hK => ?_); go_step; refine (HPK.out wa.drew hd).mono ?_; rintro e wb ⟨p2, pc2, rfl, q1, q2, q3, q6, q4, q5, hbb⟩; have hab := hd.trans (hbb.mono hd.size); have kB2 := kB.keep hab; have kA2 := kA.keep hab; refine hK.out _ _ ⟨kB2.cell 0 rfl, kA2⟩ trivial ?_; clear hK K HS
   try simp only [Act.put, List.getElem_toArray, List.getElem_cons_succ, List.getElem_cons_zero, List.setIfInBounds_toArray, List.set_cons_zero, List.set_cons_succ]
   (refine stg_free 8 _ ?_ (by kernel_rfl) (by kernel_rfl) (by kernel_rfl) rfl rfl ?_ trivial ?_; rotate_left; · (intro w' _; go_simp; with_reducible rfl)); try simp only [Act.put, List.getElem_toArray, List.getElem_cons_succ, List.getElem_cons_zero, List.setIfInBounds_toArray, List.set_cons_zero, List.set_cons_succ]
   (refine stg_free 9 _ ?_ (by kernel_rfl) (by kernel_rfl) (by kernel_rfl) rfl rfl ?_ trivial ?_; rotate_left; · (intro w' _; go_simp; with_reducible rfl)); try simp only [Act.put, List.getElem_toArray, List.getElem_cons_succ, List.getElem_cons_zero, List.setIfInBounds_toArray, List.set_cons_zero, List.set_cons_succ]
   (refine stg_free 10 _ ?_ (by kernel_rfl) (by kernel_rfl) (by kernel_rfl) rfl rfl ?_ trivial ?_; rotate_left; · (intro w' _; go_simp; with_reducible rfl)); try simp only [Act.put, List.getElem_toArray, List.getElem_cons_succ, List.getElem_cons_zero, List.setIfInBounds_toArray, List.set_cons_zero, List.set_cons_succ]
   (refine stg_free 11 _ ?_ (by kernel_rfl) (by kernel_rfl) (by kernel_rfl) rfl rfl ?_ trivial ?_; rotate_left; · (intro w' _; go_simp; with_reducible rfl)); try simp only [Act.put, List.getElem_toArray, List.getElem_cons_succ, List.getElem_cons_zero, List.setIfInBounds_toArray, List.set_cons_zero, List.set_cons_succ]
   (refine stg_free 12 _ ?_ (by kernel_rfl) (by kernel_rfl) (by kernel_rfl) rfl rfl ?_ trivial ?_; rotate_left; · (intro w' _; go_simp; with_reducible rfl)); try simp only [Act.put, List.getElem_toArray, List.getElem_cons_succ, List.getElem_cons_zero, List.setIfInBounds_toArray, List.set_cons_zero, List.set_cons_succ]
   have fB := kB2.free 0; have cB := kB2.cell 0 rfl; refine stg_one 13 _ (by kernel_rfl) (by kernel_rfl) (by kernel_rfl) rfl rfl (fun K hK => ?_); go_step; refine hK.out _ _ trivial ?_; clear hK K
   try simp only [Act.put, List.getElem_toArray, List.getElem_cons_succ, List.getElem_cons_zero, List.setIfInBounds_toArray, List.set_cons_zero, List.set_cons_succ]
   (refine stg_free 14 _ ?_ (by kernel_rfl) (by kernel_rfl) (by kernel_rfl) rfl rfl ?_ trivial ?_; rotate_left; · (intro w' _; go_simp; with_reducible rfl)); try simp only [Act.put, List.getElem_toArray, List.getElem_cons_succ, List.getElem_cons_zero, List.setIfInBounds_toArray, List.set_cons_zero, List.set_cons_succ]
   refine stg_end (by kernel_rfl) ?_
   try simp only [Act.put, List.getElem_toArray, List.getElem_cons_succ, List.getElem_cons_zero, List.setIfInBounds_toArray, List.set_cons_zero, List.set_cons_succ]
   have kB3 := kB2.set 0 (.slice p2 K1.length pc2); have kA3 := kA2.set_at (o := 0) hAB (.slice p2 K1.length pc2); have hKr := q5.set_off (B := B) (o := 0) (u := .slice p2 K1.length pc2) (fun b hb => by
    rcases q4 b hb with h | h
    ·exact r5 b h
    ·have := kB.lt; have := hd.size; intro e; subst e; omega)
   have hVr := (s1.keep hab).set_off (B := B) (o := 0) (u := .slice p2 K1.length pc2) s5; have hVt := typB_grown (typB_below s6 hab) (grown_set wb B 0 (.slice p2 K1.length pc2)) (fun b hb e => s5 b hb (by simpa using e)); have ho2 := (ho.below hab).kept (grown_set wb B 0 (.slice p2 K1.length pc2)) (.inr (fun e => by have := (ho.lt _ e).1; omega)); have hg2 := grown_into (grown_into hg (grown_of hab none) (fun k h => by cases h)) (grown_set wb B 0 (.slice p2 K1.length pc2)) (fun k h => .inr (by simpa using h.symm)); have hqK : ∀ b, p2.map (·.block) = some b → b ≠ B := fun b hb => by
    rcases q4 b hb with h | h
    ·exact r5 b h
    ·have := kB.lt; have := hd.size; intro e; subst e; omega
   have hqT := typB_grown q6 (grown_set wb B 0 (.slice p2 K1.length pc2)) (fun b hb e => hqK b hb (by simpa using e)); generalize wb.setCell ⟨B, 0, none⟩ (.slice p2 K1.length pc2) = wc at *; have r3' := q2; have r2' := q1; have r4' := q3; clear kB kA kB2 kA2 r1 s1 ho hg hab hd hbb q1 q2 q3 q4 q5 q6 r6 s6 fB cB HPK r2 r3 r4 r5 wb; have kB : Blk wc B [.slice p2 K1.length pc2, .slice vp n2 vc] := kB3; have kA := kA3; have hg := hg2; have ho := ho2; have HPV := Lib.hid (fun (W : World) (hW : Below wc.heap.size wc W) => HPVr.out W (hVr.keep hW) (typB_below hVt hW)); clear kB3 kA3 hg2 ho2 HPVr hVr; go_wp2; refine wp_region_stage 15 [0, 1, 2, 3, 4, 5, 6, 8, 9, 10, 11, 12, 14] [13] [0, 1, 2, 3, 5, 8, 9, 10, 11, 12, 14] (fun W => W.cell? ⟨B, 1, none⟩ = some (.slice vp n2 vc) ∧ Blk W A9 [.string ky, .int .i64 kd, .string tx, .int .i64 nn]) (fun _ => True) rfl (by kernel_rfl) (by kernel_rfl) ?_; have HS := Lib.hid (⟨kB.cell 1 rfl, kA⟩ : wc.drew.cell? ⟨B, 1, none⟩ = some (.slice vp n2 vc) ∧ Blk wc.drew A9 [.string ky, .int .i64 kd, .string tx, .int .i64 nn])
   (refine stg_free 0 _ ?_ (by kernel_rfl) (by kernel_rfl) (by kernel_rfl) rfl rfl ?_ trivial ?_; rotate_left; · (intro w' _; go_simp; with_reducible rfl)); try simp only [Act.put, List.getElem_toArray, List.getElem_cons_succ, List.getElem_cons_zero, List.setIfInBounds_toArray, List.set_cons_zero, List.set_cons_succ]
   (refine stg_free 1 _ ?_ (by kernel_rfl) (by kernel_rfl) (by kernel_rfl) rfl rfl ?_ trivial ?_; rotate_left; · (intro w' _; go_simp; with_reducible rfl)); try simp only [Act.put, List.getElem_toArray, List.getElem_cons_succ, List.getElem_cons_zero, List.setIfInBounds_toArray, List.set_cons_zero, List.set_cons_succ]
   (refine stg_free 2 _ ?_ (by kernel_rfl) (by kernel_rfl) (by kernel_rfl) rfl rfl ?_ trivial ?_; rotate_left; · (intro w' _; go_simp; with_reducible rfl)); try simp only [Act.put, List.getElem_toArray, List.getElem_cons_succ, List.getElem_cons_zero, List.setIfInBounds_toArray, List.set_cons_zero, List.set_cons_succ]
   (refine stg_free 3 _ ?_ (by kernel_rfl) (by kernel_rfl) (by kernel_rfl) rfl rfl ?_ trivial ?_; rotate_left; · (intro w' _; go_simp; with_reducible rfl)); try simp only [Act.put, List.getElem_toArray, List.getElem_cons_succ, List.getElem_cons_zero, List.setIfInBounds_toArray, List.set_cons_zero, List.set_cons_succ]
   refine stg_light 4 _ (.slice vp n2 vc) (by kernel_rfl) (by kernel_rfl) (by kernel_rfl) rfl rfl ?_ HS.out trivial ?_
   ·intro w' hS _; have e0 := hS.1; clear hS; go_simp
   try simp only [Act.put, List.getElem_toArray, List.getElem_cons_succ, List.getElem_cons_zero, List.setIfInBounds_toArray, List.set_cons_zero, List.set_cons_succ]
   (refine stg_free 5 _ ?_ (by kernel_rfl) (by kernel_rfl) (by kernel_rfl) rfl rfl ?_ trivial ?_; rotate_left; · (intro w' _; go_simp; with_reducible rfl)); try simp only [Act.put, List.getElem_toArray, List.getElem_cons_succ, List.getElem_cons_zero, List.setIfInBounds_toArray, List.set_cons_zero, List.set_cons_succ]
   refine stg_light 6 _ (.agg #[.int .i64 kd, .string tx, .int .i64 nn]) (by kernel_rfl) (by kernel_rfl) (by kernel_rfl) rfl rfl ?_ HS.out trivial ?_
   ·intro w' hS _; have e0 := hS.2.cell 1 rfl; have e1 := hS.2.cell 2 rfl; have e2 := hS.2.cell 3 rfl; clear hS; go_simp
   try simp only [Act.put, List.getElem_toArray, List.getElem_cons_succ, List.getElem_cons_zero, List.setIfInBounds_toArray, List.set_cons_zero, List.set_cons_succ]
   have hd : Below wc.heap.size wc wc.drew := (Below.refl _ _).drew; refine stg_oneS 7 _ (by kernel_rfl) (by kernel_rfl) (by kernel_rfl) rfl rfl (fun K hK => ?_); go_step; refine (HPV.out wc.drew hd).mono ?_; rintro e wd ⟨v2, vc2, rfl, q1, q2, q3, q6, q4, q5, hbb⟩; have hab := hd.trans (hbb.mono hd.size); have kB2 := kB.keep hab; have kA2 := kA.keep hab; refine hK.out _ _ ⟨kB2.cell 1 rfl, kA2⟩ trivial ?_; clear hK K HS
   try simp only [Act.put, List.getElem_toArray, List.getElem_cons_succ, List.getElem_cons_zero, List.setIfInBounds_toArray, List.set_cons_zero, List.set_cons_succ]
   (refine stg_free 8 _ ?_ (by kernel_rfl) (by kernel_rfl) (by kernel_rfl) rfl rfl ?_ trivial ?_; rotate_left; · (intro w' _; go_simp; with_reducible rfl)); try simp only [Act.put, List.getElem_toArray, List.getElem_cons_succ, List.getElem_cons_zero, List.setIfInBounds_toArray, List.set_cons_zero, List.set_cons_succ]
   (refine stg_free 9 _ ?_ (by kernel_rfl) (by kernel_rfl) (by kernel_rfl) rfl rfl ?_ trivial ?_; rotate_left; · (intro w' _; go_simp; with_reducible rfl)); try simp only [Act.put, List.getElem_toArray, List.getElem_cons_succ, List.getElem_cons_zero, List.setIfInBounds_toArray, List.set_cons_zero, List.set_cons_succ]
   (refine stg_free 10 _ ?_ (by kernel_rfl) (by kernel_rfl) (by kernel_rfl) rfl rfl ?_ trivial ?_; rotate_left; · (intro w' _; go_simp; with_reducible rfl)); try simp only [Act.put, List.getElem_toArray, List.getElem_cons_succ, List.getElem_cons_zero, List.setIfInBounds_toArray, List.set_cons_zero, List.set_cons_succ]
   (refine stg_free 11 _ ?_ (by kernel_rfl) (by kernel_rfl) (by kernel_rfl) rfl rfl ?_ trivial ?_; rotate_left; · (intro w' _; go_simp; with_reducible rfl)); try simp only [Act.put, List.getElem_toArray, List.getElem_cons_succ, List.getElem_cons_zero, List.setIfInBounds_toArray, List.set_cons_zero, List.set_cons_succ]
   (refine stg_free 12 _ ?_ (by kernel_rfl) (by kernel_rfl) (by kernel_rfl) rfl rfl ?_ trivial ?_; rotate_left; · (intro w' _; go_simp; with_reducible rfl)); try simp only [Act.put, List.getElem_toArray, List.getElem_cons_succ, List.getElem_cons_zero, List.setIfInBounds_toArray, List.set_cons_zero, List.set_cons_succ]
   have fB := kB2.free 1; have cB := kB2.cell 1 rfl; refine stg_one 13 _ (by kernel_rfl) (by kernel_rfl) (by kernel_rfl) rfl rfl (fun K hK => ?_); go_step; refine hK.out _ _ trivial ?_; clear hK K
   try simp only [Act.put, List.getElem_toArray, List.getElem_cons_succ, List.getElem_cons_zero, List.setIfInBounds_toArray, List.set_cons_zero, List.set_cons_succ]
   (refine stg_free 14 _ ?_ (by kernel_rfl) (by kernel_rfl) (by kernel_rfl) rfl rfl ?_ trivial ?_; rotate_left; · (intro w' _; go_simp; with_reducible rfl)); try simp only [Act.put, List.getElem_toArray, List.getElem_cons_succ, List.getElem_cons_zero, List.setIfInBounds_toArray, List.set_cons_zero, List.set_cons_succ]
   refine stg_end (by kernel_rfl) ?_
   try simp only [Act.put, List.getElem_toArray, List.getElem_cons_succ, List.getElem_cons_zero, List.setIfInBounds_toArray, List.set_cons_zero, List.set_cons_succ]
   have kB3 := kB2.set 1 (.slice v2 V1.length vc2); have hVr := q5.set_off (B := B) (o := 1) (u := .slice v2 V1.length vc2) (fun b hb => by
    rcases q4 b hb with h | h
    ·exact s5 b h
    ·have := kB.lt; have := hd.size; intro e; subst e; omega)
   have hKr2 := (hKr.keep hab).set_off (B := B) (o := 1) (u := .slice v2 V1.length vc2) hqK; have ho2 := (ho.below hab).kept (grown_set wd B 1 (.slice v2 V1.length vc2)) (.inr (fun e => by have := (ho.lt _ e).1; omega)); have hg2 := grown_into (grown_into hg (grown_of hab none) (fun k h => by cases h)) (grown_set wd B 1 (.slice v2 V1.length vc2)) (fun k h => .inr (by simpa using h.symm)); have hqV : ∀ b, v2.map (·.block) = some b → b ≠ B := fun b hb => by
    rcases q4 b hb with h | h
    ·exact s5 b h
    ·have := kB.lt; have := hd.size; intro e; subst e; omega
   have hqVT := typB_grown q6 (grown_set wd B 1 (.slice v2 V1.length vc2)) (fun b hb e => hqV b hb (by simpa using e)); have hqT2 := typB_grown (typB_below hqT hab) (grown_set wd B 1 (.slice v2 V1.length vc2)) (fun b hb e => hqK b hb (by simpa using e)); generalize wd.setCell ⟨B, 1, none⟩ (.slice v2 V1.length vc2) = we at *; have kBf : Blk we B [.slice p2 K1.length pc2, .slice v2 V1.length vc2] := kB3; have hwe := hg2.size; clear kB kA kB2 kA2 ho hg hab hd hbb fB cB HPV kB3 hKr q5 q6 hqT hVt wd; have htot : TbIn we B (K1, V1) := ⟨p2, pc2, v2, vc2, kBf, ⟨hKr2, r2', r3', r4', hqK, hqT2⟩, ⟨hVr, q1, q2, q3, hqV, hqVT⟩⟩
   go_wp2_with (at_builtin; go_must (refine wpList_appLit rfl (.tmp 51) (.tmp 54) 106 rfl w.heap.size 3 (.int .i64 0) 1 8 Tryz.underlying106 Tryz.infoInt rfl (by decide) (by decide) u7 g1.length (g1.map (Value.int .i64)) rfl ho2 2 2 [.int .i64 (k1 : Int), .int .i64 (v1 : Int)] 3 rfl rfl (by simp [Value.oneCell']) (by omega) hwe ?_); intro v7 w7 hown7 hg7)
   have hlL := Below.new we (.cells #[.int .i64 (k1 : Int), .int .i64 (v1 : Int)] 3); have htot7 := htot.row ho2 (by decide) (by decide) HB hg7; have hg8 := grown_into hg2 hg7 (fun k h => .inl ((ho2.lt _ h).1)); have hl7 : ((tagL t (ls.take (k + 1))).map (Value.int .i64)) = g1.map (Value.int .i64) ++ [.int .i64 (k1 : Int), .int .i64 (v1 : Int)] := by rw [HTS.out, HPT.out, List.map_append]; rfl
   have hl8 : (tagL t (ls.take (k + 1))).length = g1.length + 2 := by rw [HTS.out, HPT.out, List.length_append]; rfl
   go_wp2; go_roundw
   case rel => exact ⟨k + 1, by omega, by go_num, by rw [hl7, hl8]; exact hown7, by rw [HAS.out, HPA.out]; exact htot7, hg8⟩
   case measure => simp [intOf]; omega
  ·obtain rfl : k = N := by omega
   have hlt' : ¬ (k : Int) < (k : Int) := by omega
   rw [← HT0.out] at ho; rw [← HA0.out] at htb; go_wp2; refine bodyPost_ret (v := .tuple #[u7, .int .i64 0]) (by simp [results, Tryz.results79, go_sem]) rfl ⟨u7, rfl, ho, htb, hg⟩
end Go.Proofs.YtjggoajfilnfjaaGreat
namespace Go
open Go.RowKit
theorem rcs_map (l : List PC) : rcs l = l.map PC.val := by
 induction l with
 | nil => rfl
 | cons x l ih => simp only [rcs, List.flatMap_cons, List.map_cons, PC.cells, List.cons_append, List.nil_append] at ih ⊢; rw [ih]
structure Ft where
 id : Int
 kind : Int
 ls : List At
 aa : Option Addr
 ac : Nat
 rs : List PC
 ra : Option Addr
 rc : Nat
instance : Inhabited Ft := ⟨⟨0, 0, [], none, 0, [], none, 0⟩⟩
abbrev FtC := Int × Int × List At × List (List Pt)
abbrev LyC := ByteArray × List FtC
def Ft.rings (f : Ft) : List (List Pt) := f.rs.map (·.l)
def Ft.core (f : Ft) : FtC := (f.id, f.kind, f.ls, f.rings)
def Ft.aval (f : Ft) : Value := .slice f.aa f.ls.length f.ac
def Ft.rval (f : Ft) : Value := .slice f.ra f.rs.length f.rc
def Ft.cells (f : Ft) : List Value := [.int .i64 f.id, .int .i64 f.kind, f.aval, f.rval]
def Ft.val (f : Ft) : Value := .agg #[.int .i64 f.id, .int .i64 f.kind, f.aval, f.rval]
def fts (l : List Ft) : List Value := l.flatMap Ft.cells
theorem fts_snoc (l : List Ft) (x : Ft) : fts (l ++ [x]) = fts l ++ x.cells := by simp [fts]
def Ft.Ok (W : World) (f : Ft) : Prop :=
 (Rd W f.aa (ats f.ls) ∧ f.ls.length ≤ f.ac ∧ f.ac ≤ maxLen ∧ (f.aa = none → f.ac = 0)) ∧ (Rd W f.ra (rcs f.rs) ∧ f.rs.length ≤ f.rc ∧ f.rc ≤ maxLen ∧ (f.ra = none → f.rc = 0)) ∧ (∀ r ∈ f.rs, r.Ok W)
theorem Ft.Ok.keep {w w' : World} {f : Ft} (h : f.Ok w) (hb : Below w.heap.size w w') : f.Ok w' :=
 ⟨⟨h.1.1.keep hb, h.1.2⟩, ⟨h.2.1.1.keep hb, h.2.1.2⟩, fun r hr => (h.2.2 r hr).keep hb⟩
theorem Rd.ft {w : World} {a : Option Addr} {l : List Ft} (h : Rd w a (fts l)) (i : Nat) (hi : i < l.length) :
  ∃ b off, a = some ⟨b, off, none⟩ ∧ b < w.heap.size ∧ w.cell? ⟨b, off + i * 4, none⟩ = some (.int .i64 l[i].id) ∧ w.cell? ⟨b, off + i * 4 + 1, none⟩ = some (.int .i64 l[i].kind) ∧ w.cell? ⟨b, off + i * 4 + 2, none⟩ = some l[i].aval ∧ w.cell? ⟨b, off + i * 4 + 3, none⟩ = some l[i].rval := by
 have g : ∀ j, j < 4 → (fts l)[i * 4 + j]? = (l[i]).cells[j]? := fun j hj => flatMap_get Ft.cells 4 (fun _ => rfl) l i j hi hj; obtain ⟨b, off, rfl, h0, hb⟩ := h.at (i := i * 4 + 0) (v := .int .i64 l[i].id) (by rw [g 0 (by omega)]; rfl); obtain ⟨b', off', e, h1, -⟩ := h.at (i := i * 4 + 1) (v := .int .i64 l[i].kind) (by rw [g 1 (by omega)]; rfl)
 cases e
 obtain ⟨b', off', e, h2, -⟩ := h.at (i := i * 4 + 2) (v := l[i].aval) (by rw [g 2 (by omega)]; rfl)
 cases e
 obtain ⟨b', off', e, h3, -⟩ := h.at (i := i * 4 + 3) (v := l[i].rval) (by rw [g 3 (by omega)]; rfl)
 cases e
 simp only [← Nat.add_assoc] at h0 h1 h2 h3; exact ⟨b, off, rfl, hb, h0, h1, h2, h3⟩
structure Ly where
 name : ByteArray
 fs : List Ft
 fa : Option Addr
 fc : Nat
instance : Inhabited Ly := ⟨⟨ByteArray.empty, [], none, 0⟩⟩
def Ly.core (y : Ly) : LyC := (y.name, y.fs.map Ft.core)
def Ly.fval (y : Ly) : Value := .slice y.fa y.fs.length y.fc
def Ly.cells (y : Ly) : List Value := [.string y.name, y.fval]
def Ly.val (y : Ly) : Value := .agg #[.string y.name, y.fval]
def lys (l : List Ly) : List Value := l.flatMap Ly.cells
theorem lys_snoc (l : List Ly) (x : Ly) : lys (l ++ [x]) = lys l ++ x.cells := by simp [lys]
def Ly.Ok (W : World) (y : Ly) : Prop :=
 (Rd W y.fa (fts y.fs) ∧ y.fs.length ≤ y.fc ∧ y.fc ≤ maxLen ∧ (y.fa = none → y.fc = 0)) ∧ ∀ f ∈ y.fs, f.Ok W
theorem Ly.Ok.keep {w w' : World} {y : Ly} (h : y.Ok w) (hb : Below w.heap.size w w') : y.Ok w' := ⟨⟨h.1.1.keep hb, h.1.2⟩, fun f hf => (h.2 f hf).keep hb⟩
theorem Rd.ly {w : World} {a : Option Addr} {l : List Ly} (h : Rd w a (lys l)) (i : Nat) (hi : i < l.length) :
  ∃ b off, a = some ⟨b, off, none⟩ ∧ b < w.heap.size ∧ w.cell? ⟨b, off + i * 2, none⟩ = some (.string l[i].name) ∧ w.cell? ⟨b, off + i * 2 + 1, none⟩ = some l[i].fval := by
 have g : ∀ j, j < 2 → (lys l)[i * 2 + j]? = (l[i]).cells[j]? := fun j hj => flatMap_get Ly.cells 2 (fun _ => rfl) l i j hi hj; obtain ⟨b, off, rfl, h0, hb⟩ := h.at (i := i * 2 + 0) (v := .string l[i].name) (by rw [g 0 (by omega)]; rfl); obtain ⟨b', off', e, h1, -⟩ := h.at (i := i * 2 + 1) (v := l[i].fval) (by rw [g 1 (by omega)]; rfl)
 cases e
 simp only [← Nat.add_assoc] at h0 h1; exact ⟨b, off, rfl, hb, h0, h1⟩
end Go
namespace Go.Proofs.YtjggoajfilnfjaaGreat
open Go.RowKit Go.Vint

theorem only_any (n : Int) (w : World) :
  Calls Tryz.prog 130 #[.int .u64 n] w fun e w' => e = .returned (.func (.func 134) #[] #[.pointer (some ⟨w.heap.size, 0, none⟩)]) ∧ w' = w.alloc (.cells #[.int .u64 n] 70) := by
 go_enter Tryz.func130, Tryz.ntmps130
 go_wp2; go_ret; exact ⟨rfl, rfl⟩

theorem only1_any (n : Int) (C : Nat) (w : World) (hc : Cell1 w C (.int .u64 n)) :
  Calls Tryz.prog 134 #[.int .u64 n, .pointer (some ⟨C, 0, none⟩)] w fun e w' => e = .returned (.bool true) ∧ w = w' := by
 have c0 := hc.cell
 go_enter Tryz.func134, Tryz.ntmps134
 go_wp2; go_ret; exact ⟨rfl, rfl⟩

theorem part1_any (m kind : Int) (C : Nat) (w : World) (hm : kind - 1 ≤ m ∧ m ≤ 1000000) (hk : 1 ≤ kind) (hc : Cell1 w C (.int .i64 kind)) :
  Calls Tryz.prog 132 #[.int .u64 (m * 8 + 2), .pointer (some ⟨C, 0, none⟩)] w fun e w' => e = .returned (.bool true) ∧ w = w' := by
 have c0 := hc.cell; have h7 : bits BinOp.and IntKind.u64 (m * 8 + 2) 7 = 2 := by rw [u64_and7 _ (by omega) (by omega)]; omega
 have h3 : (m * 8 + 2) / 8 = m := by omega
 have hd : decide (kind - 1 ≤ m) = true := decide_eq_true hm.1
 go_enter Tryz.func132, Tryz.ntmps132
 go_wp2; go_ret; exact ⟨rfl, rfl⟩

set_option maxHeartbeats 800000 in
theorem command_only (w0 w : World) (B b off c : Nat) (L : List Int) (k : Nat) (p : Pt) (C : Nat) (v : Int) (hv : L[k]? = some v) (hv1 : v ≤ 4294967295) (hL : L.length ≤ 1000000) (hc : L.length ≤ c) (hC : Cell1 w C (.int .u64 v)) (hCB : C ≠ B) (h : RdS w0 w B b off c L k p) :
  Calls Tryz.prog 129 #[.pointer (some ⟨B, 0, none⟩), .func (.func 134) #[] #[.pointer (some ⟨C, 0, none⟩)]] w fun e w' => e = .returned (.tuple #[.int .u64 v, .int .i64 0]) ∧ RdS w0 w' B b off c L (k + 1) p ∧ w.grownBy w' (some B) := by
 have ht := take_ok w0 w B b off c L k p v hv hv1 hL hc h; have HT := Lib.hid ht; clear ht hv hL hc h
 go_enter Tryz.func129, Tryz.ntmps129
 go_wp2_with fail
 refine HT.out.mono ?_; rintro e w1 ⟨rfl, h1, hg1⟩; have hC1 := hC.grown hg1 (by simpa using hCB); clear HT
 go_wp2_with fail
 refine (only1_any v C w1 hC1).mono ?_; rintro e w2 ⟨rfl, rfl⟩; go_wp2; refine bodyPost_ret (v := .tuple #[.int .u64 v, .int .i64 0]) (by simp [results, Tryz.results129, go_sem]) rfl ⟨rfl, h1, hg1⟩

set_option maxHeartbeats 800000 in
theorem command_part (w0 w : World) (B b off c : Nat) (L : List Int) (k : Nat) (p : Pt) (C : Nat) (m kind : Int) (hv : L[k]? = some (m * 8 + 2)) (hm : kind - 1 ≤ m ∧ m ≤ 1000000) (hk : 1 ≤ kind) (hL : L.length ≤ 1000000) (hc : L.length ≤ c) (hC : Cell1 w C (.int .i64 kind)) (hCB : C ≠ B) (h : RdS w0 w B b off c L k p) :
  Calls Tryz.prog 129 #[.pointer (some ⟨B, 0, none⟩), .func (.func 132) #[] #[.pointer (some ⟨C, 0, none⟩)]] w fun e w' => e = .returned (.tuple #[.int .u64 (m * 8 + 2), .int .i64 0]) ∧ RdS w0 w' B b off c L (k + 1) p ∧ w.grownBy w' (some B) := by
 have ht := take_ok w0 w B b off c L k p _ hv (by omega) hL hc h; have hp := fun W h => part1_any m kind C W hm hk h; have HT := Lib.hid ht; have HP := Lib.hid hp; clear ht hp hv hL hc h; generalize m * 8 + 2 = v at *
 go_enter Tryz.func129, Tryz.ntmps129
 go_wp2_with fail
 refine HT.out.mono ?_; rintro e w1 ⟨rfl, h1, hg1⟩; have hC1 := hC.grown hg1 (by simpa using hCB); clear HT
 go_wp2_with fail
 refine (HP.out w1 hC1).mono ?_; rintro e w2 ⟨rfl, rfl⟩; go_wp2; refine bodyPost_ret (v := .tuple #[.int .u64 v, .int .i64 0]) (by simp [results, Tryz.results129, go_sem]) rfl ⟨rfl, h1, hg1⟩
end Go.Proofs.YtjggoajfilnfjaaGreat
