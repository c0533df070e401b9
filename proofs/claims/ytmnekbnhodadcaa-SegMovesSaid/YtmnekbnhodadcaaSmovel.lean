/-
  SegMoves: the walk.
-/
import Derived.Test.YtmnekbnhodadcaaSknown
import Derived.Test.YtmnekbnhodadcaaSmovep
import Derived.Test.YtmnekbnhodadcaaOpenP
import Derived.Test.YtmnekbnhodadcaaAppL
import Derived.Test.YtmnekbnhodadcaaSched
import Derived.Test.YtmnekbnhodadcaaSbox
set_option linter.unusedVariables false
set_option linter.unusedSimpArgs false
set_option maxRecDepth 100000
namespace Go
open Go.RowKit
def okN (n : Int) : Bool := decide (n ≤ 1048576) && decide (-1048576 ≤ n)
theorem near_iff (p : Pt) : Near p ↔ max p.x p.y ≤ 1048576 ∧ -1048576 ≤ min p.x p.y := by unfold Near; omega
/-- The points while they are moved. -/
def movedK (v a b c d : Pt) (k : Nat) : List Pt := [if 0 < k then Pt.mv v a else a, if 1 < k then Pt.mv v b else b, if 2 < k then Pt.mv v c else c, if 3 < k then Pt.mv v d else d, v]
end Go
namespace Go.Proofs.Ytmnekbnhodadcaa
open Go.RowKit
theorem Try.infoI : (Try.prog.info? 3).map (fun i => (i.zero, i.size, i.bytes)) = some (some (.int .i64 0), 1, 8) := by kernel_rfl
set_option maxHeartbeats 6400000 in
theorem smoves_walk (a b c d v : Pt) (xa ya : Option Addr) (xc yc : Nat) (XS YS : List Int) (hxm : XS.length ≤ maxLen) (hym : YS.length ≤ maxLen) (w : World) (hxr : Rd w xa (XS.map (Value.int .i64))) (hyr : Rd w ya (YS.map (Value.int .i64))) :
    Calls Try.prog 5 #[a.val, b.val, c.val, d.val, v.val, .slice xa XS.length xc, .slice ya YS.length yc] w fun e w' => e = .returned (.bool true) ∧ Below w.heap.size w w' := by
  unfold maxLen at hxm hym
  have S1 := Lib.hid (fun w => sclass_any a b c d w)
  have S2 := Lib.hid (fun w => sclass_any (Pt.mv v a) (Pt.mv v b) (Pt.mv v c) (Pt.mv v d) w)
  have C1 := Lib.hid (fun xa ya xc yc xs ys hn w hx hy => cuts_any a b xa ya xc yc xs ys hn w hx hy)
  have C2 := Lib.hid (fun xa ya xc yc xs ys hn w hx hy => cuts_any (Pt.mv v a) (Pt.mv v b) xa ya xc yc xs ys hn w hx hy)
  have RE := Lib.hid (fun (hv : Near v) ha hb hc hd => clsR_mv v a b c d hv ha hb hc hd)
  have CE := Lib.hid (fun (hv : Near v) (ha : Near a) (hb : Near b) xs ys => cutsF_mv hv ha hb xs ys)
  have CL := Lib.hid (fun xs ys => cutsF_len a b xs ys)
  have CB := Lib.hid (fun xs ys p (h : p ∈ cutsF a b xs ys) => cutsF_box h)
  have LN := Lib.hid (fun (h : ∀ p ∈ [a, b, c, d, v], Near p) => (⟨h a (by simp), h b (by simp), h c (by simp), h d (by simp), h v (by simp)⟩ : Near a ∧ Near b ∧ Near c ∧ Near d ∧ Near v))
  generalize clsR a b c d = R at *
  generalize clsR (Pt.mv v a) (Pt.mv v b) (Pt.mv v c) (Pt.mv v d) = R' at *
  generalize hCF : cutsF a b = CF at *
  generalize hCF' : cutsF (Pt.mv v a) (Pt.mv v b) = CF' at *
  clear hCF hCF'
  obtain ⟨ax, ay⟩ := a
  obtain ⟨bx, bY⟩ := b
  obtain ⟨cx, cy⟩ := c
  obtain ⟨dx, dy⟩ := d
  obtain ⟨vx, vy⟩ := v
  obtain ⟨R1, R2⟩ := R
  obtain ⟨R1', R2'⟩ := R'
  dsimp only [Pt.val]
  have ka := (((((Blk.lit w w.heap.size [.int .i64 ax, .int .i64 ay] 23 rfl).alloc (.cells #[.int .i64 bx, .int .i64 bY] 23)).alloc (.cells #[.int .i64 cx, .int .i64 cy] 23)).alloc (.cells #[.int .i64 dx, .int .i64 dy] 23)).alloc (.cells #[.int .i64 vx, .int .i64 vy] 23))
  have kb := ((((Blk.lit (w.alloc (.cells #[.int .i64 ax, .int .i64 ay] 23)) (w.heap.size + 1) [.int .i64 bx, .int .i64 bY] 23 (by simp)).alloc (.cells #[.int .i64 cx, .int .i64 cy] 23)).alloc (.cells #[.int .i64 dx, .int .i64 dy] 23)).alloc (.cells #[.int .i64 vx, .int .i64 vy] 23))
  have kc := (((Blk.lit ((w.alloc (.cells #[.int .i64 ax, .int .i64 ay] 23)).alloc (.cells #[.int .i64 bx, .int .i64 bY] 23)) (w.heap.size + 1 + 1) [.int .i64 cx, .int .i64 cy] 23 (by simp)).alloc (.cells #[.int .i64 dx, .int .i64 dy] 23)).alloc (.cells #[.int .i64 vx, .int .i64 vy] 23))
  have kd := ((Blk.lit (((w.alloc (.cells #[.int .i64 ax, .int .i64 ay] 23)).alloc (.cells #[.int .i64 bx, .int .i64 bY] 23)).alloc (.cells #[.int .i64 cx, .int .i64 cy] 23)) (w.heap.size + 1 + 1 + 1) [.int .i64 dx, .int .i64 dy] 23 (by simp)).alloc (.cells #[.int .i64 vx, .int .i64 vy] 23))
  have kv := (Blk.lit ((((w.alloc (.cells #[.int .i64 ax, .int .i64 ay] 23)).alloc (.cells #[.int .i64 bx, .int .i64 bY] 23)).alloc (.cells #[.int .i64 cx, .int .i64 cy] 23)).alloc (.cells #[.int .i64 dx, .int .i64 dy] 23)) (w.heap.size + 1 + 1 + 1 + 1) [.int .i64 vx, .int .i64 vy] 23 (by simp))
  have hb0 := (((((Below.new w (.cells #[.int .i64 ax, .int .i64 ay] 23)).alloc (by simp) (.cells #[.int .i64 bx, .int .i64 bY] 23)).alloc (by simp; omega) (.cells #[.int .i64 cx, .int .i64 cy] 23)).alloc (by simp; omega) (.cells #[.int .i64 dx, .int .i64 dy] 23)).alloc (by simp; omega) (.cells #[.int .i64 vx, .int .i64 vy] 23))
  go_enter Try.func5, Try.ntmps5
  obtain ⟨wA, hwA⟩ : ∃ wA, (((((w.alloc (.cells #[.int .i64 ax, .int .i64 ay] 23)).alloc (.cells #[.int .i64 bx, .int .i64 bY] 23)).alloc (.cells #[.int .i64 cx, .int .i64 cy] 23)).alloc (.cells #[.int .i64 dx, .int .i64 dy] 23)).alloc (.cells #[.int .i64 vx, .int .i64 vy] 23)) = wA := ⟨_, rfl⟩
  rw [hwA] at ka kb kc kd kv hb0
  have hs0 := hb0.size
  go_step
  go_step
  rename_i K0 hK0
  replace hK0 := Lib.hid hK0
  go_wp2
  refine hK0.out _ _ ?_
  clear hK0
  try rw [hwA]
  clear hwA
  have ca0 := ka.cell 0 rfl
  have ca1 := ka.cell 1 rfl
  have cb0 := kb.cell 0 rfl
  have cb1 := kb.cell 1 rfl
  have cc0 := kc.cell 0 rfl
  have cc1 := kc.cell 1 rfl
  have cd0 := kd.cell 0 rfl
  have cd1 := kd.cell 1 rfl
  have cv0 := kv.cell 0 rfl
  have cv1 := kv.cell 1 rfl
  go_step
  go_step
  rename_i K1 hK1
  replace hK1 := Lib.hid hK1
  go_wp2
  refine hK1.out _ _ ?_
  clear hK1
  clear ca0 ca1 cb0 cb1 cc0 cc1 cd0 cd1 cv0 cv1
  have kv0 := kv
  have kl := Blk.new wA [.int .i64 ax, .int .i64 ay, .int .i64 bx, .int .i64 bY, .int .i64 cx, .int .i64 cy, .int .i64 dx, .int .i64 dy, .int .i64 vx, .int .i64 vy] 23
  have ka := ka.alloc (.cells #[.int .i64 ax, .int .i64 ay, .int .i64 bx, .int .i64 bY, .int .i64 cx, .int .i64 cy, .int .i64 dx, .int .i64 dy, .int .i64 vx, .int .i64 vy] 23)
  have kb := kb.alloc (.cells #[.int .i64 ax, .int .i64 ay, .int .i64 bx, .int .i64 bY, .int .i64 cx, .int .i64 cy, .int .i64 dx, .int .i64 dy, .int .i64 vx, .int .i64 vy] 23)
  have kc := kc.alloc (.cells #[.int .i64 ax, .int .i64 ay, .int .i64 bx, .int .i64 bY, .int .i64 cx, .int .i64 cy, .int .i64 dx, .int .i64 dy, .int .i64 vx, .int .i64 vy] 23)
  have kd := kd.alloc (.cells #[.int .i64 ax, .int .i64 ay, .int .i64 bx, .int .i64 bY, .int .i64 cx, .int .i64 cy, .int .i64 dx, .int .i64 dy, .int .i64 vx, .int .i64 vy] 23)
  have kv := kv.alloc (.cells #[.int .i64 ax, .int .i64 ay, .int .i64 bx, .int .i64 bY, .int .i64 cx, .int .i64 cy, .int .i64 dx, .int .i64 dy, .int .i64 vx, .int .i64 vy] 23)
  have hb1 := hb0.alloc hs0 (.cells #[.int .i64 ax, .int .i64 ay, .int .i64 bx, .int .i64 bY, .int .i64 cx, .int .i64 cy, .int .i64 dx, .int .i64 dy, .int .i64 vx, .int .i64 vy] 23)
  have hLBs : w.heap.size + 1 + 1 + 1 + 1 < wA.heap.size := kv0.lt
  obtain ⟨LB, hLB⟩ : ∃ B, wA.heap.size = B := ⟨_, rfl⟩
  rw [hLB] at kl hLBs ⊢
  generalize wA.alloc (.cells #[.int .i64 ax, .int .i64 ay, .int .i64 bx, .int .i64 bY, .int .i64 cx, .int .i64 cy, .int .i64 dx, .int .i64 dy, .int .i64 vx, .int .i64 vy] 23) = wB at *
  clear hb0 hs0 hLB kv0
  have hs1 := hb1.size
  have hrl : Rd wB (some ⟨LB, 0, none⟩) (pts [⟨ax, ay⟩, ⟨bx, bY⟩, ⟨cx, cy⟩, ⟨dx, dy⟩, ⟨vx, vy⟩]) := Rd.of_blk kl
  have hLL : [(⟨ax, ay⟩ : Pt), ⟨bx, bY⟩, ⟨cx, cy⟩, ⟨dx, dy⟩, ⟨vx, vy⟩].length = 5 := rfl
  obtain ⟨LL, hLLe⟩ : ∃ L, [(⟨ax, ay⟩ : Pt), ⟨bx, bY⟩, ⟨cx, cy⟩, ⟨dx, dy⟩, ⟨vx, vy⟩] = L := ⟨_, rfl⟩
  rw [hLLe] at hrl hLL LN
  clear hLLe
  go_wp2
  go_loopw [16] (fun ii wr => ∃ k n : Nat, k ≤ 5 ∧ ii = .int .i64 (k : Int) ∧ Hid (∀ j (h : j < LL.length), j < k → Near LL[j]) ∧ wr = wB.drewN n) (fun ii _ => 5 - (intOf ii).toNat)
  case atStart => exact ⟨0, 0, Nat.zero_le _, rfl, Lib.hid (fun j _ h => by omega), rfl⟩
  case round =>
    obtain ⟨k, n, hk, rfl, HNR, rfl⟩ := hrel
    by_cases hlt : k < 5
    · obtain ⟨b1, o1, e1, hbb1, q0, q1⟩ := hrl.pt k (by omega)
      cases e1
      rw [Nat.zero_add] at q0 q1
      obtain ⟨pk, hpk⟩ : ∃ p, LL[k] = p := ⟨_, rfl⟩
      rw [hpk] at q0 q1
      have hNK : Hid (Near pk → ∀ j (h : j < LL.length), j < k + 1 → Near LL[j]) := Lib.hid (fun hp j h hj => by
        by_cases h2 : j = k
        · subst h2; rw [hpk]; exact hp
        · exact HNR.out j h (by omega))
      clear hpk HNR
      have hkk : (k : Int) < 5 := by omega
      have q0 : (wB.drewN n).cell? _ = _ := q0
      have q1 : (wB.drewN n).cell? _ = _ := q1
      obtain ⟨px, py⟩ := pk
      dsimp only at q0 q1
      rcases Int.lt_trichotomy px py with h | h | h
      ·
        have h1 : ¬ py < px := by omega
        by_cases hA : (1048576 : Int) < py
        ·
          go_wp2
          go_quiet (fail)
          have hb8 := below_drewN (below_drewN hb1 n) nq
          generalize (wB.drewN n).drewN nq = w7 at *
          clear q0 q1
          go_wp2_with fail
          refine (sknown_any _).mono ?_
          rintro e w8 ⟨rfl, hb9⟩
          have hbE := hb8.trans (hb9.mono hb8.size)
          go_wp2
          go_ret
          exact ⟨rfl, hbE⟩
        · by_cases hB : px < (-1048576 : Int)
          ·
            go_wp2
            go_quiet (fail)
            have hb8 := below_drewN (below_drewN hb1 n) nq
            generalize (wB.drewN n).drewN nq = w7 at *
            clear q0 q1
            go_wp2_with fail
            refine (sknown_any _).mono ?_
            rintro e w8 ⟨rfl, hb9⟩
            have hbE := hb8.trans (hb9.mono hb8.size)
            go_wp2
            go_ret
            exact ⟨rfl, hbE⟩
          · have hNN := Lib.hid (hNK.out (by unfold Near; dsimp only; omega))
            go_wp2
            go_quiet (fail)
            go_wp2
            go_roundw
            case rel => exact ⟨k + 1, n + nq, by omega, by go_num, hNN, by simp⟩
            case measure => simp [intOf]; omega
      ·
        subst h
        have h1 : ¬ px < px := by omega
        by_cases hA : (1048576 : Int) < px
        ·
          go_wp2
          go_quiet (fail)
          have hb8 := below_drewN (below_drewN hb1 n) nq
          generalize (wB.drewN n).drewN nq = w7 at *
          clear q0 q1
          go_wp2_with fail
          refine (sknown_any _).mono ?_
          rintro e w8 ⟨rfl, hb9⟩
          have hbE := hb8.trans (hb9.mono hb8.size)
          go_wp2
          go_ret
          exact ⟨rfl, hbE⟩
        · by_cases hB : px < (-1048576 : Int)
          ·
            go_wp2
            go_quiet (fail)
            have hb8 := below_drewN (below_drewN hb1 n) nq
            generalize (wB.drewN n).drewN nq = w7 at *
            clear q0 q1
            go_wp2_with fail
            refine (sknown_any _).mono ?_
            rintro e w8 ⟨rfl, hb9⟩
            have hbE := hb8.trans (hb9.mono hb8.size)
            go_wp2
            go_ret
            exact ⟨rfl, hbE⟩
          · have hNN := Lib.hid (hNK.out (by unfold Near; dsimp only; omega))
            go_wp2
            go_quiet (fail)
            go_wp2
            go_roundw
            case rel => exact ⟨k + 1, n + nq, by omega, by go_num, hNN, by simp⟩
            case measure => simp [intOf]; omega
      ·
        have h1 : (px < py) = False := eq_false (by omega)
        have h2 : decide (px < py) = false := decide_eq_false (by omega)
        have h3 : ¬ px < py := by omega
        by_cases hA : (1048576 : Int) < px
        ·
          go_wp2
          go_quiet (fail)
          have hb8 := below_drewN (below_drewN hb1 n) nq
          generalize (wB.drewN n).drewN nq = w7 at *
          clear q0 q1
          go_wp2_with fail
          refine (sknown_any _).mono ?_
          rintro e w8 ⟨rfl, hb9⟩
          have hbE := hb8.trans (hb9.mono hb8.size)
          go_wp2
          go_ret
          exact ⟨rfl, hbE⟩
        · by_cases hB : py < (-1048576 : Int)
          ·
            go_wp2
            go_quiet (fail)
            have hb8 := below_drewN (below_drewN hb1 n) nq
            generalize (wB.drewN n).drewN nq = w7 at *
            clear q0 q1
            go_wp2_with fail
            refine (sknown_any _).mono ?_
            rintro e w8 ⟨rfl, hb9⟩
            have hbE := hb8.trans (hb9.mono hb8.size)
            go_wp2
            go_ret
            exact ⟨rfl, hbE⟩
          · have hNN := Lib.hid (hNK.out (by unfold Near; dsimp only; omega))
            go_wp2
            go_quiet (fail)
            go_wp2
            go_roundw
            case rel => exact ⟨k + 1, n + nq, by omega, by go_num, hNN, by simp⟩
            case measure => simp [intOf]; omega
    · obtain rfl : k = 5 := by omega
      have hNall := LN.out (fun p hp => by
        obtain ⟨j, hj, rfl⟩ := List.getElem_of_mem hp
        exact HNR.out j hj (by omega))
      clear LN HNR hLL hrl
      obtain ⟨na, nb, nc, nd, nv⟩ := hNall
      have ka := ka.drewN n
      have kb := kb.drewN n
      have kc := kc.drewN n
      have kd := kd.drewN n
      have kv := kv.drewN n
      have kl := kl.drewN n
      have hb2 := below_drewN hb1 n
      generalize wB.drewN n = wC at *
      clear hb1 hs1
      have hs2 := hb2.size
      have HNA := Lib.hid na
      have HNB := Lib.hid nb
      have HNV := Lib.hid nv
      have REQ := Lib.hid (RE.out nv na nb nc nd)
      unfold Near at na nb nc nd nv
      dsimp only at na nb nc nd nv
      clear RE hk
      go_wp2
      go_loopw [17] (fun ii wr => ∃ k : Nat, k ≤ 4 ∧ ii = .int .i64 (k : Int) ∧ Blk wr LB (pts (movedK ⟨vx, vy⟩ ⟨ax, ay⟩ ⟨bx, bY⟩ ⟨cx, cy⟩ ⟨dx, dy⟩ k)) ∧ (Blk wr (w.heap.size) [.int .i64 ax, .int .i64 ay] ∧ Blk wr (w.heap.size + 1) [.int .i64 bx, .int .i64 bY] ∧ Blk wr (w.heap.size + 1 + 1) [.int .i64 cx, .int .i64 cy] ∧ Blk wr (w.heap.size + 1 + 1 + 1) [.int .i64 dx, .int .i64 dy] ∧ Blk wr (w.heap.size + 1 + 1 + 1 + 1) [.int .i64 vx, .int .i64 vy]) ∧ Below w.heap.size w wr) (fun ii _ => 4 - (intOf ii).toNat)
      case atStart => exact ⟨0, by omega, rfl, kl, ⟨ka, kb, kc, kd, kv⟩, hb2⟩
      case round =>
        clear kl ka kb kc kd kv hb2 hs2
        obtain ⟨k, hk, rfl, kl, ⟨ka, kb, kc, kd, kv⟩, hb2⟩ := hrel
        have hs2 := hb2.size
        have hk4 : k = 0 ∨ k = 1 ∨ k = 2 ∨ k = 3 ∨ k = 4 := by omega
        clear hk
        rcases hk4 with rfl | rfl | rfl | rfl | rfl
        · have kl : Blk wr LB [.int .i64 ax, .int .i64 ay, .int .i64 bx, .int .i64 bY, .int .i64 cx, .int .i64 cy, .int .i64 dx, .int .i64 dy, .int .i64 vx, .int .i64 vy] := kl
          have w1 : IntKind.i64.wrap (ax + vx) = ax + vx := IntWalk.i64_in _ (by omega)
          have w2 : IntKind.i64.wrap (ay + vy) = ay + vy := IntWalk.i64_in _ (by omega)
          go_wp2_with fail
          refine wp_region_lit_txtZ (some 20) [0, 1, 2, 3, 4, 5, 6, 7, 8, 9, 10, 11, 12, 13, 14, 15, 16, 17, 18, 19] (fun W => Blk W LB [.int .i64 ax, .int .i64 ay, .int .i64 bx, .int .i64 bY, .int .i64 cx, .int .i64 cy, .int .i64 dx, .int .i64 dy, .int .i64 vx, .int .i64 vy] ∧ Blk W (w.heap.size + 1 + 1 + 1 + 1) [.int .i64 vx, .int .i64 vy]) (by kernel_rfl) (by kernel_rfl) (by kernel_rfl) (by kernel_rfl) ⟨kl.drew, kv.drew⟩ ?_
          (refine txt_light ?_ rfl rfl ?_ ?_; rotate_left; · (intro w' hS; (try dsimp only at hS); go_simp; with_reducible rfl)); try simp only [Act.put, List.setIfInBounds_toArray, List.set_cons_zero, List.set_cons_succ]
          (refine txt_light ?_ rfl rfl ?_ ?_; rotate_left; · (intro w' hS; (try dsimp only at hS); go_simp; with_reducible rfl)); try simp only [Act.put, List.setIfInBounds_toArray, List.set_cons_zero, List.set_cons_succ]
          (refine txt_light ?_ rfl rfl ?_ ?_; rotate_left; · (intro w' hS; (try dsimp only at hS); go_simp; with_reducible rfl)); try simp only [Act.put, List.setIfInBounds_toArray, List.set_cons_zero, List.set_cons_succ]
          (refine txt_light ?_ rfl rfl ?_ ?_; rotate_left; · (intro w' hS; (try dsimp only at hS); go_simp; with_reducible rfl)); try simp only [Act.put, List.setIfInBounds_toArray, List.set_cons_zero, List.set_cons_succ]
          (refine txt_light ?_ rfl rfl ?_ ?_; rotate_left; · (intro w' hS; (try dsimp only at hS); go_simp; with_reducible rfl)); try simp only [Act.put, List.setIfInBounds_toArray, List.set_cons_zero, List.set_cons_succ]
          (refine txt_light ?_ rfl rfl ?_ ?_; rotate_left; · (intro w' hS; (try dsimp only at hS); go_simp; with_reducible rfl)); try simp only [Act.put, List.setIfInBounds_toArray, List.set_cons_zero, List.set_cons_succ]
          refine txt_light (.int .i64 ax) rfl rfl ?_ ?_
          · intro w' hS
            have c0 := hS.1.cell 0 rfl
            go_simp
          try simp only [Act.put, List.setIfInBounds_toArray, List.set_cons_zero, List.set_cons_succ]
          (refine txt_light ?_ rfl rfl ?_ ?_; rotate_left; · (intro w' hS; (try dsimp only at hS); go_simp; with_reducible rfl)); try simp only [Act.put, List.setIfInBounds_toArray, List.set_cons_zero, List.set_cons_succ]
          refine txt_light (.int .i64 vx) rfl rfl ?_ ?_
          · intro w' hS
            have c0 := hS.2.cell 0 rfl
            go_simp
          try simp only [Act.put, List.setIfInBounds_toArray, List.set_cons_zero, List.set_cons_succ]
          (refine txt_light ?_ rfl rfl ?_ ?_; rotate_left; · (intro w' hS; (try dsimp only at hS); go_simp; with_reducible rfl)); try simp only [Act.put, List.setIfInBounds_toArray, List.set_cons_zero, List.set_cons_succ]
          (refine txt_light ?_ rfl rfl ?_ ?_; rotate_left; · (intro w' hS; (try dsimp only at hS); go_simp; with_reducible rfl)); try simp only [Act.put, List.setIfInBounds_toArray, List.set_cons_zero, List.set_cons_succ]
          (refine txt_light ?_ rfl rfl ?_ ?_; rotate_left; · (intro w' hS; (try dsimp only at hS); go_simp; with_reducible rfl)); try simp only [Act.put, List.setIfInBounds_toArray, List.set_cons_zero, List.set_cons_succ]
          (refine txt_light ?_ rfl rfl ?_ ?_; rotate_left; · (intro w' hS; (try dsimp only at hS); go_simp; with_reducible rfl)); try simp only [Act.put, List.setIfInBounds_toArray, List.set_cons_zero, List.set_cons_succ]
          (refine txt_light ?_ rfl rfl ?_ ?_; rotate_left; · (intro w' hS; (try dsimp only at hS); go_simp; with_reducible rfl)); try simp only [Act.put, List.setIfInBounds_toArray, List.set_cons_zero, List.set_cons_succ]
          refine txt_light (.int .i64 ay) rfl rfl ?_ ?_
          · intro w' hS
            have c0 := hS.1.cell 1 rfl
            go_simp
          try simp only [Act.put, List.setIfInBounds_toArray, List.set_cons_zero, List.set_cons_succ]
          (refine txt_light ?_ rfl rfl ?_ ?_; rotate_left; · (intro w' hS; (try dsimp only at hS); go_simp; with_reducible rfl)); try simp only [Act.put, List.setIfInBounds_toArray, List.set_cons_zero, List.set_cons_succ]
          refine txt_light (.int .i64 vy) rfl rfl ?_ ?_
          · intro w' hS
            have c0 := hS.2.cell 1 rfl
            go_simp
          try simp only [Act.put, List.setIfInBounds_toArray, List.set_cons_zero, List.set_cons_succ]
          (refine txt_light ?_ rfl rfl ?_ ?_; rotate_left; · (intro w' hS; (try dsimp only at hS); go_simp; with_reducible rfl)); try simp only [Act.put, List.setIfInBounds_toArray, List.set_cons_zero, List.set_cons_succ]
          (refine txt_light ?_ rfl rfl ?_ ?_; rotate_left; · (intro w' hS; (try dsimp only at hS); go_simp; with_reducible rfl)); try simp only [Act.put, List.setIfInBounds_toArray, List.set_cons_zero, List.set_cons_succ]
          (refine txt_light ?_ rfl rfl ?_ ?_; rotate_left; · (intro w' hS; (try dsimp only at hS); go_simp; with_reducible rfl)); try simp only [Act.put, List.setIfInBounds_toArray, List.set_cons_zero, List.set_cons_succ]
          have f0 := kl.free 0
          have f1 := kl.free 1
          have hkl := kl.lt
          have g0 := kl.cell 0 rfl
          have g1 := kl.cell 1 rfl
          refine txt_last rfl rfl rfl (fun K hK => ?_)
          go_step
          refine hK.out _ _ ?_
          refine txt_nil ?_
          clear hK K
          have kl2 := ((kl.set 0 (.int .i64 (ax + vx))).set 1 (.int .i64 (ay + vy))).drew
          have ka2 := ((ka.set_at (b' := LB) (o := 0) (by omega) (.int .i64 (ax + vx))).set_at (b' := LB) (o := 1) (by omega) (.int .i64 (ay + vy))).drew
          have kb2 := ((kb.set_at (b' := LB) (o := 0) (by omega) (.int .i64 (ax + vx))).set_at (b' := LB) (o := 1) (by omega) (.int .i64 (ay + vy))).drew
          have kc2 := ((kc.set_at (b' := LB) (o := 0) (by omega) (.int .i64 (ax + vx))).set_at (b' := LB) (o := 1) (by omega) (.int .i64 (ay + vy))).drew
          have kd2 := ((kd.set_at (b' := LB) (o := 0) (by omega) (.int .i64 (ax + vx))).set_at (b' := LB) (o := 1) (by omega) (.int .i64 (ay + vy))).drew
          have kv2 := ((kv.set_at (b' := LB) (o := 0) (by omega) (.int .i64 (ax + vx))).set_at (b' := LB) (o := 1) (by omega) (.int .i64 (ay + vy))).drew
          have hb3 := ((hb2.set_at (b := LB) (o := 0) (by omega) (.int .i64 (ax + vx))).set_at (b := LB) (o := 1) (by omega) (.int .i64 (ay + vy))).drew
          generalize ((wr.setCell ⟨LB, 0, none⟩ (.int .i64 (ax + vx))).setCell ⟨LB, 1, none⟩ (.int .i64 (ay + vy))).drew = wD at *
          clear f0 f1 g0 g1 w1 w2 kl ka kb kc kd kv hb2 hs2
          go_wp2
          exact ⟨⟨1, by omega, rfl, kl2, ⟨ka2, kb2, kc2, kd2, kv2⟩, hb3⟩, by simp [intOf]⟩
        · have kl : Blk wr LB [.int .i64 (ax + vx), .int .i64 (ay + vy), .int .i64 bx, .int .i64 bY, .int .i64 cx, .int .i64 cy, .int .i64 dx, .int .i64 dy, .int .i64 vx, .int .i64 vy] := kl
          have w1 : IntKind.i64.wrap (bx + vx) = bx + vx := IntWalk.i64_in _ (by omega)
          have w2 : IntKind.i64.wrap (bY + vy) = bY + vy := IntWalk.i64_in _ (by omega)
          go_wp2_with fail
          refine wp_region_lit_txtZ (some 20) [0, 1, 2, 3, 4, 5, 6, 7, 8, 9, 10, 11, 12, 13, 14, 15, 16, 17, 18, 19] (fun W => Blk W LB [.int .i64 (ax + vx), .int .i64 (ay + vy), .int .i64 bx, .int .i64 bY, .int .i64 cx, .int .i64 cy, .int .i64 dx, .int .i64 dy, .int .i64 vx, .int .i64 vy] ∧ Blk W (w.heap.size + 1 + 1 + 1 + 1) [.int .i64 vx, .int .i64 vy]) (by kernel_rfl) (by kernel_rfl) (by kernel_rfl) (by kernel_rfl) ⟨kl.drew, kv.drew⟩ ?_
          (refine txt_light ?_ rfl rfl ?_ ?_; rotate_left; · (intro w' hS; (try dsimp only at hS); go_simp; with_reducible rfl)); try simp only [Act.put, List.setIfInBounds_toArray, List.set_cons_zero, List.set_cons_succ]
          (refine txt_light ?_ rfl rfl ?_ ?_; rotate_left; · (intro w' hS; (try dsimp only at hS); go_simp; with_reducible rfl)); try simp only [Act.put, List.setIfInBounds_toArray, List.set_cons_zero, List.set_cons_succ]
          (refine txt_light ?_ rfl rfl ?_ ?_; rotate_left; · (intro w' hS; (try dsimp only at hS); go_simp; with_reducible rfl)); try simp only [Act.put, List.setIfInBounds_toArray, List.set_cons_zero, List.set_cons_succ]
          (refine txt_light ?_ rfl rfl ?_ ?_; rotate_left; · (intro w' hS; (try dsimp only at hS); go_simp; with_reducible rfl)); try simp only [Act.put, List.setIfInBounds_toArray, List.set_cons_zero, List.set_cons_succ]
          (refine txt_light ?_ rfl rfl ?_ ?_; rotate_left; · (intro w' hS; (try dsimp only at hS); go_simp; with_reducible rfl)); try simp only [Act.put, List.setIfInBounds_toArray, List.set_cons_zero, List.set_cons_succ]
          (refine txt_light ?_ rfl rfl ?_ ?_; rotate_left; · (intro w' hS; (try dsimp only at hS); go_simp; with_reducible rfl)); try simp only [Act.put, List.setIfInBounds_toArray, List.set_cons_zero, List.set_cons_succ]
          refine txt_light (.int .i64 bx) rfl rfl ?_ ?_
          · intro w' hS
            have c0 := hS.1.cell 2 rfl
            go_simp
          try simp only [Act.put, List.setIfInBounds_toArray, List.set_cons_zero, List.set_cons_succ]
          (refine txt_light ?_ rfl rfl ?_ ?_; rotate_left; · (intro w' hS; (try dsimp only at hS); go_simp; with_reducible rfl)); try simp only [Act.put, List.setIfInBounds_toArray, List.set_cons_zero, List.set_cons_succ]
          refine txt_light (.int .i64 vx) rfl rfl ?_ ?_
          · intro w' hS
            have c0 := hS.2.cell 0 rfl
            go_simp
          try simp only [Act.put, List.setIfInBounds_toArray, List.set_cons_zero, List.set_cons_succ]
          (refine txt_light ?_ rfl rfl ?_ ?_; rotate_left; · (intro w' hS; (try dsimp only at hS); go_simp; with_reducible rfl)); try simp only [Act.put, List.setIfInBounds_toArray, List.set_cons_zero, List.set_cons_succ]
          (refine txt_light ?_ rfl rfl ?_ ?_; rotate_left; · (intro w' hS; (try dsimp only at hS); go_simp; with_reducible rfl)); try simp only [Act.put, List.setIfInBounds_toArray, List.set_cons_zero, List.set_cons_succ]
          (refine txt_light ?_ rfl rfl ?_ ?_; rotate_left; · (intro w' hS; (try dsimp only at hS); go_simp; with_reducible rfl)); try simp only [Act.put, List.setIfInBounds_toArray, List.set_cons_zero, List.set_cons_succ]
          (refine txt_light ?_ rfl rfl ?_ ?_; rotate_left; · (intro w' hS; (try dsimp only at hS); go_simp; with_reducible rfl)); try simp only [Act.put, List.setIfInBounds_toArray, List.set_cons_zero, List.set_cons_succ]
          (refine txt_light ?_ rfl rfl ?_ ?_; rotate_left; · (intro w' hS; (try dsimp only at hS); go_simp; with_reducible rfl)); try simp only [Act.put, List.setIfInBounds_toArray, List.set_cons_zero, List.set_cons_succ]
          refine txt_light (.int .i64 bY) rfl rfl ?_ ?_
          · intro w' hS
            have c0 := hS.1.cell 3 rfl
            go_simp
          try simp only [Act.put, List.setIfInBounds_toArray, List.set_cons_zero, List.set_cons_succ]
          (refine txt_light ?_ rfl rfl ?_ ?_; rotate_left; · (intro w' hS; (try dsimp only at hS); go_simp; with_reducible rfl)); try simp only [Act.put, List.setIfInBounds_toArray, List.set_cons_zero, List.set_cons_succ]
          refine txt_light (.int .i64 vy) rfl rfl ?_ ?_
          · intro w' hS
            have c0 := hS.2.cell 1 rfl
            go_simp
          try simp only [Act.put, List.setIfInBounds_toArray, List.set_cons_zero, List.set_cons_succ]
          (refine txt_light ?_ rfl rfl ?_ ?_; rotate_left; · (intro w' hS; (try dsimp only at hS); go_simp; with_reducible rfl)); try simp only [Act.put, List.setIfInBounds_toArray, List.set_cons_zero, List.set_cons_succ]
          (refine txt_light ?_ rfl rfl ?_ ?_; rotate_left; · (intro w' hS; (try dsimp only at hS); go_simp; with_reducible rfl)); try simp only [Act.put, List.setIfInBounds_toArray, List.set_cons_zero, List.set_cons_succ]
          (refine txt_light ?_ rfl rfl ?_ ?_; rotate_left; · (intro w' hS; (try dsimp only at hS); go_simp; with_reducible rfl)); try simp only [Act.put, List.setIfInBounds_toArray, List.set_cons_zero, List.set_cons_succ]
          have f0 := kl.free 2
          have f1 := kl.free 3
          have hkl := kl.lt
          have g0 := kl.cell 2 rfl
          have g1 := kl.cell 3 rfl
          refine txt_last rfl rfl rfl (fun K hK => ?_)
          go_step
          refine hK.out _ _ ?_
          refine txt_nil ?_
          clear hK K
          have kl2 := ((kl.set 2 (.int .i64 (bx + vx))).set 3 (.int .i64 (bY + vy))).drew
          have ka2 := ((ka.set_at (b' := LB) (o := 2) (by omega) (.int .i64 (bx + vx))).set_at (b' := LB) (o := 3) (by omega) (.int .i64 (bY + vy))).drew
          have kb2 := ((kb.set_at (b' := LB) (o := 2) (by omega) (.int .i64 (bx + vx))).set_at (b' := LB) (o := 3) (by omega) (.int .i64 (bY + vy))).drew
          have kc2 := ((kc.set_at (b' := LB) (o := 2) (by omega) (.int .i64 (bx + vx))).set_at (b' := LB) (o := 3) (by omega) (.int .i64 (bY + vy))).drew
          have kd2 := ((kd.set_at (b' := LB) (o := 2) (by omega) (.int .i64 (bx + vx))).set_at (b' := LB) (o := 3) (by omega) (.int .i64 (bY + vy))).drew
          have kv2 := ((kv.set_at (b' := LB) (o := 2) (by omega) (.int .i64 (bx + vx))).set_at (b' := LB) (o := 3) (by omega) (.int .i64 (bY + vy))).drew
          have hb3 := ((hb2.set_at (b := LB) (o := 2) (by omega) (.int .i64 (bx + vx))).set_at (b := LB) (o := 3) (by omega) (.int .i64 (bY + vy))).drew
          generalize ((wr.setCell ⟨LB, 2, none⟩ (.int .i64 (bx + vx))).setCell ⟨LB, 3, none⟩ (.int .i64 (bY + vy))).drew = wD at *
          clear f0 f1 g0 g1 w1 w2 kl ka kb kc kd kv hb2 hs2
          go_wp2
          exact ⟨⟨2, by omega, rfl, kl2, ⟨ka2, kb2, kc2, kd2, kv2⟩, hb3⟩, by simp [intOf]⟩
        · have kl : Blk wr LB [.int .i64 (ax + vx), .int .i64 (ay + vy), .int .i64 (bx + vx), .int .i64 (bY + vy), .int .i64 cx, .int .i64 cy, .int .i64 dx, .int .i64 dy, .int .i64 vx, .int .i64 vy] := kl
          have w1 : IntKind.i64.wrap (cx + vx) = cx + vx := IntWalk.i64_in _ (by omega)
          have w2 : IntKind.i64.wrap (cy + vy) = cy + vy := IntWalk.i64_in _ (by omega)
          go_wp2_with fail
          refine wp_region_lit_txtZ (some 20) [0, 1, 2, 3, 4, 5, 6, 7, 8, 9, 10, 11, 12, 13, 14, 15, 16, 17, 18, 19] (fun W => Blk W LB [.int .i64 (ax + vx), .int .i64 (ay + vy), .int .i64 (bx + vx), .int .i64 (bY + vy), .int .i64 cx, .int .i64 cy, .int .i64 dx, .int .i64 dy, .int .i64 vx, .int .i64 vy] ∧ Blk W (w.heap.size + 1 + 1 + 1 + 1) [.int .i64 vx, .int .i64 vy]) (by kernel_rfl) (by kernel_rfl) (by kernel_rfl) (by kernel_rfl) ⟨kl.drew, kv.drew⟩ ?_
          (refine txt_light ?_ rfl rfl ?_ ?_; rotate_left; · (intro w' hS; (try dsimp only at hS); go_simp; with_reducible rfl)); try simp only [Act.put, List.setIfInBounds_toArray, List.set_cons_zero, List.set_cons_succ]
          (refine txt_light ?_ rfl rfl ?_ ?_; rotate_left; · (intro w' hS; (try dsimp only at hS); go_simp; with_reducible rfl)); try simp only [Act.put, List.setIfInBounds_toArray, List.set_cons_zero, List.set_cons_succ]
          (refine txt_light ?_ rfl rfl ?_ ?_; rotate_left; · (intro w' hS; (try dsimp only at hS); go_simp; with_reducible rfl)); try simp only [Act.put, List.setIfInBounds_toArray, List.set_cons_zero, List.set_cons_succ]
          (refine txt_light ?_ rfl rfl ?_ ?_; rotate_left; · (intro w' hS; (try dsimp only at hS); go_simp; with_reducible rfl)); try simp only [Act.put, List.setIfInBounds_toArray, List.set_cons_zero, List.set_cons_succ]
          (refine txt_light ?_ rfl rfl ?_ ?_; rotate_left; · (intro w' hS; (try dsimp only at hS); go_simp; with_reducible rfl)); try simp only [Act.put, List.setIfInBounds_toArray, List.set_cons_zero, List.set_cons_succ]
          (refine txt_light ?_ rfl rfl ?_ ?_; rotate_left; · (intro w' hS; (try dsimp only at hS); go_simp; with_reducible rfl)); try simp only [Act.put, List.setIfInBounds_toArray, List.set_cons_zero, List.set_cons_succ]
          refine txt_light (.int .i64 cx) rfl rfl ?_ ?_
          · intro w' hS
            have c0 := hS.1.cell 4 rfl
            go_simp
          try simp only [Act.put, List.setIfInBounds_toArray, List.set_cons_zero, List.set_cons_succ]
          (refine txt_light ?_ rfl rfl ?_ ?_; rotate_left; · (intro w' hS; (try dsimp only at hS); go_simp; with_reducible rfl)); try simp only [Act.put, List.setIfInBounds_toArray, List.set_cons_zero, List.set_cons_succ]
          refine txt_light (.int .i64 vx) rfl rfl ?_ ?_
          · intro w' hS
            have c0 := hS.2.cell 0 rfl
            go_simp
          try simp only [Act.put, List.setIfInBounds_toArray, List.set_cons_zero, List.set_cons_succ]
          (refine txt_light ?_ rfl rfl ?_ ?_; rotate_left; · (intro w' hS; (try dsimp only at hS); go_simp; with_reducible rfl)); try simp only [Act.put, List.setIfInBounds_toArray, List.set_cons_zero, List.set_cons_succ]
          (refine txt_light ?_ rfl rfl ?_ ?_; rotate_left; · (intro w' hS; (try dsimp only at hS); go_simp; with_reducible rfl)); try simp only [Act.put, List.setIfInBounds_toArray, List.set_cons_zero, List.set_cons_succ]
          (refine txt_light ?_ rfl rfl ?_ ?_; rotate_left; · (intro w' hS; (try dsimp only at hS); go_simp; with_reducible rfl)); try simp only [Act.put, List.setIfInBounds_toArray, List.set_cons_zero, List.set_cons_succ]
          (refine txt_light ?_ rfl rfl ?_ ?_; rotate_left; · (intro w' hS; (try dsimp only at hS); go_simp; with_reducible rfl)); try simp only [Act.put, List.setIfInBounds_toArray, List.set_cons_zero, List.set_cons_succ]
          (refine txt_light ?_ rfl rfl ?_ ?_; rotate_left; · (intro w' hS; (try dsimp only at hS); go_simp; with_reducible rfl)); try simp only [Act.put, List.setIfInBounds_toArray, List.set_cons_zero, List.set_cons_succ]
          refine txt_light (.int .i64 cy) rfl rfl ?_ ?_
          · intro w' hS
            have c0 := hS.1.cell 5 rfl
            go_simp
          try simp only [Act.put, List.setIfInBounds_toArray, List.set_cons_zero, List.set_cons_succ]
          (refine txt_light ?_ rfl rfl ?_ ?_; rotate_left; · (intro w' hS; (try dsimp only at hS); go_simp; with_reducible rfl)); try simp only [Act.put, List.setIfInBounds_toArray, List.set_cons_zero, List.set_cons_succ]
          refine txt_light (.int .i64 vy) rfl rfl ?_ ?_
          · intro w' hS
            have c0 := hS.2.cell 1 rfl
            go_simp
          try simp only [Act.put, List.setIfInBounds_toArray, List.set_cons_zero, List.set_cons_succ]
          (refine txt_light ?_ rfl rfl ?_ ?_; rotate_left; · (intro w' hS; (try dsimp only at hS); go_simp; with_reducible rfl)); try simp only [Act.put, List.setIfInBounds_toArray, List.set_cons_zero, List.set_cons_succ]
          (refine txt_light ?_ rfl rfl ?_ ?_; rotate_left; · (intro w' hS; (try dsimp only at hS); go_simp; with_reducible rfl)); try simp only [Act.put, List.setIfInBounds_toArray, List.set_cons_zero, List.set_cons_succ]
          (refine txt_light ?_ rfl rfl ?_ ?_; rotate_left; · (intro w' hS; (try dsimp only at hS); go_simp; with_reducible rfl)); try simp only [Act.put, List.setIfInBounds_toArray, List.set_cons_zero, List.set_cons_succ]
          have f0 := kl.free 4
          have f1 := kl.free 5
          have hkl := kl.lt
          have g0 := kl.cell 4 rfl
          have g1 := kl.cell 5 rfl
          refine txt_last rfl rfl rfl (fun K hK => ?_)
          go_step
          refine hK.out _ _ ?_
          refine txt_nil ?_
          clear hK K
          have kl2 := ((kl.set 4 (.int .i64 (cx + vx))).set 5 (.int .i64 (cy + vy))).drew
          have ka2 := ((ka.set_at (b' := LB) (o := 4) (by omega) (.int .i64 (cx + vx))).set_at (b' := LB) (o := 5) (by omega) (.int .i64 (cy + vy))).drew
          have kb2 := ((kb.set_at (b' := LB) (o := 4) (by omega) (.int .i64 (cx + vx))).set_at (b' := LB) (o := 5) (by omega) (.int .i64 (cy + vy))).drew
          have kc2 := ((kc.set_at (b' := LB) (o := 4) (by omega) (.int .i64 (cx + vx))).set_at (b' := LB) (o := 5) (by omega) (.int .i64 (cy + vy))).drew
          have kd2 := ((kd.set_at (b' := LB) (o := 4) (by omega) (.int .i64 (cx + vx))).set_at (b' := LB) (o := 5) (by omega) (.int .i64 (cy + vy))).drew
          have kv2 := ((kv.set_at (b' := LB) (o := 4) (by omega) (.int .i64 (cx + vx))).set_at (b' := LB) (o := 5) (by omega) (.int .i64 (cy + vy))).drew
          have hb3 := ((hb2.set_at (b := LB) (o := 4) (by omega) (.int .i64 (cx + vx))).set_at (b := LB) (o := 5) (by omega) (.int .i64 (cy + vy))).drew
          generalize ((wr.setCell ⟨LB, 4, none⟩ (.int .i64 (cx + vx))).setCell ⟨LB, 5, none⟩ (.int .i64 (cy + vy))).drew = wD at *
          clear f0 f1 g0 g1 w1 w2 kl ka kb kc kd kv hb2 hs2
          go_wp2
          exact ⟨⟨3, by omega, rfl, kl2, ⟨ka2, kb2, kc2, kd2, kv2⟩, hb3⟩, by simp [intOf]⟩
        · have kl : Blk wr LB [.int .i64 (ax + vx), .int .i64 (ay + vy), .int .i64 (bx + vx), .int .i64 (bY + vy), .int .i64 (cx + vx), .int .i64 (cy + vy), .int .i64 dx, .int .i64 dy, .int .i64 vx, .int .i64 vy] := kl
          have w1 : IntKind.i64.wrap (dx + vx) = dx + vx := IntWalk.i64_in _ (by omega)
          have w2 : IntKind.i64.wrap (dy + vy) = dy + vy := IntWalk.i64_in _ (by omega)
          go_wp2_with fail
          refine wp_region_lit_txtZ (some 20) [0, 1, 2, 3, 4, 5, 6, 7, 8, 9, 10, 11, 12, 13, 14, 15, 16, 17, 18, 19] (fun W => Blk W LB [.int .i64 (ax + vx), .int .i64 (ay + vy), .int .i64 (bx + vx), .int .i64 (bY + vy), .int .i64 (cx + vx), .int .i64 (cy + vy), .int .i64 dx, .int .i64 dy, .int .i64 vx, .int .i64 vy] ∧ Blk W (w.heap.size + 1 + 1 + 1 + 1) [.int .i64 vx, .int .i64 vy]) (by kernel_rfl) (by kernel_rfl) (by kernel_rfl) (by kernel_rfl) ⟨kl.drew, kv.drew⟩ ?_
          (refine txt_light ?_ rfl rfl ?_ ?_; rotate_left; · (intro w' hS; (try dsimp only at hS); go_simp; with_reducible rfl)); try simp only [Act.put, List.setIfInBounds_toArray, List.set_cons_zero, List.set_cons_succ]
          (refine txt_light ?_ rfl rfl ?_ ?_; rotate_left; · (intro w' hS; (try dsimp only at hS); go_simp; with_reducible rfl)); try simp only [Act.put, List.setIfInBounds_toArray, List.set_cons_zero, List.set_cons_succ]
          (refine txt_light ?_ rfl rfl ?_ ?_; rotate_left; · (intro w' hS; (try dsimp only at hS); go_simp; with_reducible rfl)); try simp only [Act.put, List.setIfInBounds_toArray, List.set_cons_zero, List.set_cons_succ]
          (refine txt_light ?_ rfl rfl ?_ ?_; rotate_left; · (intro w' hS; (try dsimp only at hS); go_simp; with_reducible rfl)); try simp only [Act.put, List.setIfInBounds_toArray, List.set_cons_zero, List.set_cons_succ]
          (refine txt_light ?_ rfl rfl ?_ ?_; rotate_left; · (intro w' hS; (try dsimp only at hS); go_simp; with_reducible rfl)); try simp only [Act.put, List.setIfInBounds_toArray, List.set_cons_zero, List.set_cons_succ]
          (refine txt_light ?_ rfl rfl ?_ ?_; rotate_left; · (intro w' hS; (try dsimp only at hS); go_simp; with_reducible rfl)); try simp only [Act.put, List.setIfInBounds_toArray, List.set_cons_zero, List.set_cons_succ]
          refine txt_light (.int .i64 dx) rfl rfl ?_ ?_
          · intro w' hS
            have c0 := hS.1.cell 6 rfl
            go_simp
          try simp only [Act.put, List.setIfInBounds_toArray, List.set_cons_zero, List.set_cons_succ]
          (refine txt_light ?_ rfl rfl ?_ ?_; rotate_left; · (intro w' hS; (try dsimp only at hS); go_simp; with_reducible rfl)); try simp only [Act.put, List.setIfInBounds_toArray, List.set_cons_zero, List.set_cons_succ]
          refine txt_light (.int .i64 vx) rfl rfl ?_ ?_
          · intro w' hS
            have c0 := hS.2.cell 0 rfl
            go_simp
          try simp only [Act.put, List.setIfInBounds_toArray, List.set_cons_zero, List.set_cons_succ]
          (refine txt_light ?_ rfl rfl ?_ ?_; rotate_left; · (intro w' hS; (try dsimp only at hS); go_simp; with_reducible rfl)); try simp only [Act.put, List.setIfInBounds_toArray, List.set_cons_zero, List.set_cons_succ]
          (refine txt_light ?_ rfl rfl ?_ ?_; rotate_left; · (intro w' hS; (try dsimp only at hS); go_simp; with_reducible rfl)); try simp only [Act.put, List.setIfInBounds_toArray, List.set_cons_zero, List.set_cons_succ]
          (refine txt_light ?_ rfl rfl ?_ ?_; rotate_left; · (intro w' hS; (try dsimp only at hS); go_simp; with_reducible rfl)); try simp only [Act.put, List.setIfInBounds_toArray, List.set_cons_zero, List.set_cons_succ]
          (refine txt_light ?_ rfl rfl ?_ ?_; rotate_left; · (intro w' hS; (try dsimp only at hS); go_simp; with_reducible rfl)); try simp only [Act.put, List.setIfInBounds_toArray, List.set_cons_zero, List.set_cons_succ]
          (refine txt_light ?_ rfl rfl ?_ ?_; rotate_left; · (intro w' hS; (try dsimp only at hS); go_simp; with_reducible rfl)); try simp only [Act.put, List.setIfInBounds_toArray, List.set_cons_zero, List.set_cons_succ]
          refine txt_light (.int .i64 dy) rfl rfl ?_ ?_
          · intro w' hS
            have c0 := hS.1.cell 7 rfl
            go_simp
          try simp only [Act.put, List.setIfInBounds_toArray, List.set_cons_zero, List.set_cons_succ]
          (refine txt_light ?_ rfl rfl ?_ ?_; rotate_left; · (intro w' hS; (try dsimp only at hS); go_simp; with_reducible rfl)); try simp only [Act.put, List.setIfInBounds_toArray, List.set_cons_zero, List.set_cons_succ]
          refine txt_light (.int .i64 vy) rfl rfl ?_ ?_
          · intro w' hS
            have c0 := hS.2.cell 1 rfl
            go_simp
          try simp only [Act.put, List.setIfInBounds_toArray, List.set_cons_zero, List.set_cons_succ]
          (refine txt_light ?_ rfl rfl ?_ ?_; rotate_left; · (intro w' hS; (try dsimp only at hS); go_simp; with_reducible rfl)); try simp only [Act.put, List.setIfInBounds_toArray, List.set_cons_zero, List.set_cons_succ]
          (refine txt_light ?_ rfl rfl ?_ ?_; rotate_left; · (intro w' hS; (try dsimp only at hS); go_simp; with_reducible rfl)); try simp only [Act.put, List.setIfInBounds_toArray, List.set_cons_zero, List.set_cons_succ]
          (refine txt_light ?_ rfl rfl ?_ ?_; rotate_left; · (intro w' hS; (try dsimp only at hS); go_simp; with_reducible rfl)); try simp only [Act.put, List.setIfInBounds_toArray, List.set_cons_zero, List.set_cons_succ]
          have f0 := kl.free 6
          have f1 := kl.free 7
          have hkl := kl.lt
          have g0 := kl.cell 6 rfl
          have g1 := kl.cell 7 rfl
          refine txt_last rfl rfl rfl (fun K hK => ?_)
          go_step
          refine hK.out _ _ ?_
          refine txt_nil ?_
          clear hK K
          have kl2 := ((kl.set 6 (.int .i64 (dx + vx))).set 7 (.int .i64 (dy + vy))).drew
          have ka2 := ((ka.set_at (b' := LB) (o := 6) (by omega) (.int .i64 (dx + vx))).set_at (b' := LB) (o := 7) (by omega) (.int .i64 (dy + vy))).drew
          have kb2 := ((kb.set_at (b' := LB) (o := 6) (by omega) (.int .i64 (dx + vx))).set_at (b' := LB) (o := 7) (by omega) (.int .i64 (dy + vy))).drew
          have kc2 := ((kc.set_at (b' := LB) (o := 6) (by omega) (.int .i64 (dx + vx))).set_at (b' := LB) (o := 7) (by omega) (.int .i64 (dy + vy))).drew
          have kd2 := ((kd.set_at (b' := LB) (o := 6) (by omega) (.int .i64 (dx + vx))).set_at (b' := LB) (o := 7) (by omega) (.int .i64 (dy + vy))).drew
          have kv2 := ((kv.set_at (b' := LB) (o := 6) (by omega) (.int .i64 (dx + vx))).set_at (b' := LB) (o := 7) (by omega) (.int .i64 (dy + vy))).drew
          have hb3 := ((hb2.set_at (b := LB) (o := 6) (by omega) (.int .i64 (dx + vx))).set_at (b := LB) (o := 7) (by omega) (.int .i64 (dy + vy))).drew
          generalize ((wr.setCell ⟨LB, 6, none⟩ (.int .i64 (dx + vx))).setCell ⟨LB, 7, none⟩ (.int .i64 (dy + vy))).drew = wD at *
          clear f0 f1 g0 g1 w1 w2 kl ka kb kc kd kv hb2 hs2
          go_wp2
          exact ⟨⟨4, by omega, rfl, kl2, ⟨ka2, kb2, kc2, kd2, kv2⟩, hb3⟩, by simp [intOf]⟩
        · have kl : Blk wr LB [.int .i64 (ax + vx), .int .i64 (ay + vy), .int .i64 (bx + vx), .int .i64 (bY + vy), .int .i64 (cx + vx), .int .i64 (cy + vy), .int .i64 (dx + vx), .int .i64 (dy + vy), .int .i64 vx, .int .i64 vy] := kl
          obtain ⟨RQ1, RQ2⟩ : R1' = R1 ∧ R2' = R2 := by have := REQ.out; simpa using this
          subst RQ1 RQ2
          clear REQ
          have hWS : Hid (∀ W : World, Below wr.heap.size wr W → Below w.heap.size w W) := Lib.hid (fun W h => hb2.trans (h.mono hs2))
          generalize wr = wE at *
          have hsEw := hs2
          go_wp2
          rename_i K3 hK3
          replace hK3 := Lib.hid hK3
          have main3 : ∀ {u0 u1 u2 u3 u4 u12 u13 u14 u16 u17 u22 u23 u24 u25 u26 u27 u28 u29 u30 u31 u32 u33 u34 u35 u36 u37 u38 u39 u40 u41 u42 u43 u44 u45 u46 u47 u48 u49 u50 u51 u52 u53 u54 u55 u56 u57 u58 u59 u60 u61 u62 u63 u64 u65 u66 u67 u68 u69 u70 u71 u72 u73 u74 u75 u76 u77 u78 u79 u80 u81 u82 u83 u84 u85 u86 u87 u88 u89 u90 u91 u92 u93 u94 u95 u96 u97 u98 u99 u100 u101 u102 u103 u104 u105 u106 u107 u108 u109 u110 u111 u112 u113 u114 u115 u116 u117 u118 u119 u120 u121 u122 u123 u124 u125 u126 u127 u128 u129 u130 u131 u132 u133 u134 u135 u136 u137 u138 u139 u140 u141 u142 u143 u144 u145 u146 u147 u148 u149 u150 u151 u152 u153 u154 u155 u156 u157 u158 u159 u160 u161 u162 u163 u164 u165 u166 u167 u168 u169 u170 u171 u172 u173 u174 u175 u176 u177 u178 u179 u180 u181 u182 u183 u184 u185 u186 u187 u188 u189 u190 u191 u192 u193 u194 u195 u196 u197 u198 u199 u200 u201 u202 u203 u204 u205 u206 u207 u208 u209 u210 u211 u212 u213 u214 u215 u216 u217 u218 u219 u220 u221 u222 u223 u224 u225 u226 u227 u228 u229 u230 u231 u232 u233 u234 u235 u236 u237 u238 u239 u240 u241 u242 u243 u244 u245 u246 u247 u248 u249 u250 u251 u252 u253 u254 u255 u256 u257 u258 u259 u260 u261 oo uu : Value} {T : List Int} {W : World}, T.length ≤ 20 → Hid (T = (XS.take 20).filter okN) → W.ownsRow wE.heap.size 3 1 oo T.length (T.map (Value.int .i64)) → W.ownsRow wE.heap.size 3 1 uu T.length ((T.map (· + vx)).map (Value.int .i64)) → Below wE.heap.size wE W → K3 { tmps := List.toArray (u0 :: u1 :: u2 :: u3 :: u4 :: (.slice xa XS.length xc) :: (.slice ya YS.length yc) :: (.pointer (some ⟨w.heap.size, 0, none⟩)) :: (.pointer (some ⟨w.heap.size + 1, 0, none⟩)) :: (.pointer (some ⟨w.heap.size + 1 + 1, 0, none⟩)) :: (.pointer (some ⟨w.heap.size + 1 + 1 + 1, 0, none⟩)) :: (.pointer (some ⟨w.heap.size + 1 + 1 + 1 + 1, 0, none⟩)) :: u12 :: u13 :: u14 :: (.slice (some ⟨LB, 0, none⟩) 5 5) :: u16 :: u17 :: (uu) :: (.slice none 0 0) :: (oo) :: (.slice none 0 0) :: u22 :: u23 :: u24 :: u25 :: u26 :: u27 :: u28 :: u29 :: u30 :: u31 :: u32 :: u33 :: u34 :: u35 :: u36 :: u37 :: u38 :: u39 :: u40 :: u41 :: u42 :: u43 :: u44 :: u45 :: u46 :: u47 :: u48 :: u49 :: u50 :: u51 :: u52 :: u53 :: u54 :: u55 :: u56 :: u57 :: u58 :: u59 :: u60 :: u61 :: u62 :: u63 :: u64 :: u65 :: u66 :: u67 :: u68 :: u69 :: u70 :: u71 :: u72 :: u73 :: u74 :: u75 :: u76 :: u77 :: u78 :: u79 :: u80 :: u81 :: u82 :: u83 :: u84 :: u85 :: u86 :: u87 :: u88 :: u89 :: u90 :: u91 :: u92 :: u93 :: u94 :: u95 :: u96 :: u97 :: u98 :: u99 :: u100 :: u101 :: u102 :: u103 :: u104 :: u105 :: u106 :: u107 :: u108 :: u109 :: u110 :: u111 :: u112 :: u113 :: u114 :: u115 :: u116 :: u117 :: u118 :: u119 :: u120 :: u121 :: u122 :: u123 :: u124 :: u125 :: u126 :: u127 :: u128 :: u129 :: u130 :: u131 :: u132 :: u133 :: u134 :: u135 :: u136 :: u137 :: u138 :: u139 :: u140 :: u141 :: u142 :: u143 :: u144 :: u145 :: u146 :: u147 :: u148 :: u149 :: u150 :: u151 :: u152 :: u153 :: u154 :: u155 :: u156 :: u157 :: u158 :: u159 :: u160 :: u161 :: u162 :: u163 :: u164 :: u165 :: u166 :: u167 :: u168 :: u169 :: u170 :: u171 :: u172 :: u173 :: u174 :: u175 :: u176 :: u177 :: u178 :: u179 :: u180 :: u181 :: u182 :: u183 :: u184 :: u185 :: u186 :: u187 :: u188 :: u189 :: u190 :: u191 :: u192 :: u193 :: u194 :: u195 :: u196 :: u197 :: u198 :: u199 :: u200 :: u201 :: u202 :: u203 :: u204 :: u205 :: u206 :: u207 :: u208 :: u209 :: u210 :: u211 :: u212 :: u213 :: u214 :: u215 :: u216 :: u217 :: u218 :: u219 :: u220 :: u221 :: u222 :: u223 :: u224 :: u225 :: u226 :: u227 :: u228 :: u229 :: u230 :: u231 :: u232 :: u233 :: u234 :: u235 :: u236 :: u237 :: u238 :: u239 :: u240 :: u241 :: u242 :: u243 :: u244 :: u245 :: u246 :: u247 :: u248 :: u249 :: u250 :: u251 :: u252 :: u253 :: u254 :: u255 :: u256 :: u257 :: u258 :: u259 :: u260 :: u261 :: []), defers := [] } W := by
            intro u0 u1 u2 u3 u4 u12 u13 u14 u16 u17 u22 u23 u24 u25 u26 u27 u28 u29 u30 u31 u32 u33 u34 u35 u36 u37 u38 u39 u40 u41 u42 u43 u44 u45 u46 u47 u48 u49 u50 u51 u52 u53 u54 u55 u56 u57 u58 u59 u60 u61 u62 u63 u64 u65 u66 u67 u68 u69 u70 u71 u72 u73 u74 u75 u76 u77 u78 u79 u80 u81 u82 u83 u84 u85 u86 u87 u88 u89 u90 u91 u92 u93 u94 u95 u96 u97 u98 u99 u100 u101 u102 u103 u104 u105 u106 u107 u108 u109 u110 u111 u112 u113 u114 u115 u116 u117 u118 u119 u120 u121 u122 u123 u124 u125 u126 u127 u128 u129 u130 u131 u132 u133 u134 u135 u136 u137 u138 u139 u140 u141 u142 u143 u144 u145 u146 u147 u148 u149 u150 u151 u152 u153 u154 u155 u156 u157 u158 u159 u160 u161 u162 u163 u164 u165 u166 u167 u168 u169 u170 u171 u172 u173 u174 u175 u176 u177 u178 u179 u180 u181 u182 u183 u184 u185 u186 u187 u188 u189 u190 u191 u192 u193 u194 u195 u196 u197 u198 u199 u200 u201 u202 u203 u204 u205 u206 u207 u208 u209 u210 u211 u212 u213 u214 u215 u216 u217 u218 u219 u220 u221 u222 u223 u224 u225 u226 u227 u228 u229 u230 u231 u232 u233 u234 u235 u236 u237 u238 u239 u240 u241 u242 u243 u244 u245 u246 u247 u248 u249 u250 u251 u252 u253 u254 u255 u256 u257 u258 u259 u260 u261 oo uu T wF hT20 HT1 ho hu hbE
            refine hK3.out _ _ ?_
            clear hK3
            have hsE := hbE.size
            have hWS2 : Hid (∀ W : World, Below wF.heap.size wF W → Below w.heap.size w W) := Lib.hid (fun W h => hWS.out W (hbE.trans (h.mono hsE)))
            clear hWS
            have ka := ka.keep hbE
            have kb := kb.keep hbE
            have kc := kc.keep hbE
            have kd := kd.keep hbE
            have kv := kv.keep hbE
            have kl := kl.keep hbE
            have hsF : w.heap.size ≤ wF.heap.size := by omega
            have ho := ho.mono (show w.heap.size ≤ wE.heap.size from hsEw)
            have hu := hu.mono (show w.heap.size ≤ wE.heap.size from hsEw)
            clear hbE hsE hsEw hb2 hs2
            go_wp2
            rename_i K4 hK4
            replace hK4 := Lib.hid hK4
            have main4 : ∀ {u0 u1 u2 u3 u4 u12 u13 u14 u16 u17 u22 u23 u24 u25 u26 u27 u28 u29 u30 u31 u32 u33 u34 u35 u36 u37 u38 u39 u40 u41 u42 u43 u44 u45 u46 u47 u48 u49 u50 u51 u52 u53 u54 u55 u56 u57 u58 u59 u60 u61 u62 u63 u64 u65 u66 u67 u68 u69 u70 u71 u72 u73 u74 u75 u76 u77 u78 u79 u80 u81 u82 u83 u84 u85 u86 u87 u88 u89 u90 u91 u92 u93 u94 u95 u96 u97 u98 u99 u100 u101 u102 u103 u104 u105 u106 u107 u108 u109 u110 u111 u112 u113 u114 u115 u116 u117 u118 u119 u120 u121 u122 u123 u124 u125 u126 u127 u128 u129 u130 u131 u132 u133 u134 u135 u136 u137 u138 u139 u140 u141 u142 u143 u144 u145 u146 u147 u148 u149 u150 u151 u152 u153 u154 u155 u156 u157 u158 u159 u160 u161 u162 u163 u164 u165 u166 u167 u168 u169 u170 u171 u172 u173 u174 u175 u176 u177 u178 u179 u180 u181 u182 u183 u184 u185 u186 u187 u188 u189 u190 u191 u192 u193 u194 u195 u196 u197 u198 u199 u200 u201 u202 u203 u204 u205 u206 u207 u208 u209 u210 u211 u212 u213 u214 u215 u216 u217 u218 u219 u220 u221 u222 u223 u224 u225 u226 u227 u228 u229 u230 u231 u232 u233 u234 u235 u236 u237 u238 u239 u240 u241 u242 u243 u244 u245 u246 u247 u248 u249 u250 u251 u252 u253 u254 u255 u256 u257 u258 u259 u260 u261 oo2 uu2 : Value} {T2 : List Int} {W : World}, T2.length ≤ 20 → Hid (T2 = (YS.take 20).filter okN) → W.ownsRow wF.heap.size 3 1 oo2 T2.length (T2.map (Value.int .i64)) → W.ownsRow wF.heap.size 3 1 uu2 T2.length ((T2.map (· + vy)).map (Value.int .i64)) → Below wF.heap.size wF W → K4 { tmps := List.toArray (u0 :: u1 :: u2 :: u3 :: u4 :: (.slice xa XS.length xc) :: (.slice ya YS.length yc) :: (.pointer (some ⟨w.heap.size, 0, none⟩)) :: (.pointer (some ⟨w.heap.size + 1, 0, none⟩)) :: (.pointer (some ⟨w.heap.size + 1 + 1, 0, none⟩)) :: (.pointer (some ⟨w.heap.size + 1 + 1 + 1, 0, none⟩)) :: (.pointer (some ⟨w.heap.size + 1 + 1 + 1 + 1, 0, none⟩)) :: u12 :: u13 :: u14 :: (.slice (some ⟨LB, 0, none⟩) 5 5) :: u16 :: u17 :: (uu) :: (uu2) :: (oo) :: (oo2) :: u22 :: u23 :: u24 :: u25 :: u26 :: u27 :: u28 :: u29 :: u30 :: u31 :: u32 :: u33 :: u34 :: u35 :: u36 :: u37 :: u38 :: u39 :: u40 :: u41 :: u42 :: u43 :: u44 :: u45 :: u46 :: u47 :: u48 :: u49 :: u50 :: u51 :: u52 :: u53 :: u54 :: u55 :: u56 :: u57 :: u58 :: u59 :: u60 :: u61 :: u62 :: u63 :: u64 :: u65 :: u66 :: u67 :: u68 :: u69 :: u70 :: u71 :: u72 :: u73 :: u74 :: u75 :: u76 :: u77 :: u78 :: u79 :: u80 :: u81 :: u82 :: u83 :: u84 :: u85 :: u86 :: u87 :: u88 :: u89 :: u90 :: u91 :: u92 :: u93 :: u94 :: u95 :: u96 :: u97 :: u98 :: u99 :: u100 :: u101 :: u102 :: u103 :: u104 :: u105 :: u106 :: u107 :: u108 :: u109 :: u110 :: u111 :: u112 :: u113 :: u114 :: u115 :: u116 :: u117 :: u118 :: u119 :: u120 :: u121 :: u122 :: u123 :: u124 :: u125 :: u126 :: u127 :: u128 :: u129 :: u130 :: u131 :: u132 :: u133 :: u134 :: u135 :: u136 :: u137 :: u138 :: u139 :: u140 :: u141 :: u142 :: u143 :: u144 :: u145 :: u146 :: u147 :: u148 :: u149 :: u150 :: u151 :: u152 :: u153 :: u154 :: u155 :: u156 :: u157 :: u158 :: u159 :: u160 :: u161 :: u162 :: u163 :: u164 :: u165 :: u166 :: u167 :: u168 :: u169 :: u170 :: u171 :: u172 :: u173 :: u174 :: u175 :: u176 :: u177 :: u178 :: u179 :: u180 :: u181 :: u182 :: u183 :: u184 :: u185 :: u186 :: u187 :: u188 :: u189 :: u190 :: u191 :: u192 :: u193 :: u194 :: u195 :: u196 :: u197 :: u198 :: u199 :: u200 :: u201 :: u202 :: u203 :: u204 :: u205 :: u206 :: u207 :: u208 :: u209 :: u210 :: u211 :: u212 :: u213 :: u214 :: u215 :: u216 :: u217 :: u218 :: u219 :: u220 :: u221 :: u222 :: u223 :: u224 :: u225 :: u226 :: u227 :: u228 :: u229 :: u230 :: u231 :: u232 :: u233 :: u234 :: u235 :: u236 :: u237 :: u238 :: u239 :: u240 :: u241 :: u242 :: u243 :: u244 :: u245 :: u246 :: u247 :: u248 :: u249 :: u250 :: u251 :: u252 :: u253 :: u254 :: u255 :: u256 :: u257 :: u258 :: u259 :: u260 :: u261 :: []), defers := [] } W := by
              intro u0 u1 u2 u3 u4 u12 u13 u14 u16 u17 u22 u23 u24 u25 u26 u27 u28 u29 u30 u31 u32 u33 u34 u35 u36 u37 u38 u39 u40 u41 u42 u43 u44 u45 u46 u47 u48 u49 u50 u51 u52 u53 u54 u55 u56 u57 u58 u59 u60 u61 u62 u63 u64 u65 u66 u67 u68 u69 u70 u71 u72 u73 u74 u75 u76 u77 u78 u79 u80 u81 u82 u83 u84 u85 u86 u87 u88 u89 u90 u91 u92 u93 u94 u95 u96 u97 u98 u99 u100 u101 u102 u103 u104 u105 u106 u107 u108 u109 u110 u111 u112 u113 u114 u115 u116 u117 u118 u119 u120 u121 u122 u123 u124 u125 u126 u127 u128 u129 u130 u131 u132 u133 u134 u135 u136 u137 u138 u139 u140 u141 u142 u143 u144 u145 u146 u147 u148 u149 u150 u151 u152 u153 u154 u155 u156 u157 u158 u159 u160 u161 u162 u163 u164 u165 u166 u167 u168 u169 u170 u171 u172 u173 u174 u175 u176 u177 u178 u179 u180 u181 u182 u183 u184 u185 u186 u187 u188 u189 u190 u191 u192 u193 u194 u195 u196 u197 u198 u199 u200 u201 u202 u203 u204 u205 u206 u207 u208 u209 u210 u211 u212 u213 u214 u215 u216 u217 u218 u219 u220 u221 u222 u223 u224 u225 u226 u227 u228 u229 u230 u231 u232 u233 u234 u235 u236 u237 u238 u239 u240 u241 u242 u243 u244 u245 u246 u247 u248 u249 u250 u251 u252 u253 u254 u255 u256 u257 u258 u259 u260 u261 oo2 uu2 T2 wG hT220 HT2 ho2 hu2 hbF
              refine hK4.out _ _ ?_
              clear hK4
              have hsFG := hbF.size
              have hbG : Below w.heap.size w wG := hWS2.out _ hbF
              have hsG := hbG.size
              obtain ⟨po, co, rfl, -, -, -, ro, -⟩ := ho.form
              obtain ⟨pu, cu, rfl, -, -, -, ru, -⟩ := hu.form
              obtain ⟨po2, co2, rfl, -, -, -, ro2, -⟩ := ho2.form
              obtain ⟨pu2, cu2, rfl, -, -, -, ru2, -⟩ := hu2.form
              have ro := ro.keep hbF
              have ru := ru.keep hbF
              have ka := ka.keep hbF
              have kb := kb.keep hbF
              have kc := kc.keep hbF
              have kd := kd.keep hbF
              have kv := kv.keep hbF
              have kl := kl.keep hbF
              clear ho hu ho2 hu2 hWS2 hbF hsF hsFG
              dsimp only [Pt.mv, Pt.val] at S1 S2 C1 C2
              have ca0 := ka.cell 0 rfl
              have ca1 := ka.cell 1 rfl
              have cb0 := kb.cell 0 rfl
              have cb1 := kb.cell 1 rfl
              have cc0 := kc.cell 0 rfl
              have cc1 := kc.cell 1 rfl
              have cd0 := kd.cell 0 rfl
              have cd1 := kd.cell 1 rfl
              have cv0 := kv.cell 0 rfl
              have cv1 := kv.cell 1 rfl
              go_wp2_with fail
              refine (S1.out _).mono ?_
              rintro e w1 ⟨rfl, hx1⟩
              have hb3 := hbG.trans (hx1.mono hsG)
              have hs3 := hb3.size
              clear ca0 ca1 cb0 cb1 cc0 cc1 cd0 cd1 cv0 cv1
              have ka := ka.keep hx1
              have kb := kb.keep hx1
              have kc := kc.keep hx1
              have kd := kd.keep hx1
              have kv := kv.keep hx1
              have kl := kl.keep hx1
              have ro := ro.keep hx1
              have ru := ru.keep hx1
              have ro2 := ro2.keep hx1
              have ru2 := ru2.keep hx1
              clear S1 hbG hsG hx1
              go_wp2_with fail
              have hrr : Below w1.heap.size w1 w1.drew := (Below.refl _ _).drew
              refine wp_region_lit_txt [0, 1, 2, 3, 4, 5, 6, 7, 8, 9, 10, 11, 13, 14, 15, 16, 17] (fun W => Below w1.heap.size w1 W) (by kernel_rfl) (by kernel_rfl) (by kernel_rfl) hrr ?_
              (refine txt_light ?_ rfl rfl ?_ ?_; rotate_left; · (intro w' hS; (try dsimp only at hS); go_simp; with_reducible rfl)); try simp only [Act.put, List.setIfInBounds_toArray, List.set_cons_zero, List.set_cons_succ]
              (refine txt_light ?_ rfl rfl ?_ ?_; rotate_left; · (intro w' hS; (try dsimp only at hS); go_simp; with_reducible rfl)); try simp only [Act.put, List.setIfInBounds_toArray, List.set_cons_zero, List.set_cons_succ]
              refine txt_light (.agg #[.int .i64 (ax + vx), .int .i64 (ay + vy)]) rfl rfl ?_ ?_
              · intro w' hS
                have c0 := (kl.keep hS).cell 0 rfl
                have c1 := (kl.keep hS).cell 1 rfl
                go_simp
              try simp only [Act.put, List.setIfInBounds_toArray, List.set_cons_zero, List.set_cons_succ]
              (refine txt_light ?_ rfl rfl ?_ ?_; rotate_left; · (intro w' hS; (try dsimp only at hS); go_simp; with_reducible rfl)); try simp only [Act.put, List.setIfInBounds_toArray, List.set_cons_zero, List.set_cons_succ]
              (refine txt_light ?_ rfl rfl ?_ ?_; rotate_left; · (intro w' hS; (try dsimp only at hS); go_simp; with_reducible rfl)); try simp only [Act.put, List.setIfInBounds_toArray, List.set_cons_zero, List.set_cons_succ]
              refine txt_light (.agg #[.int .i64 (bx + vx), .int .i64 (bY + vy)]) rfl rfl ?_ ?_
              · intro w' hS
                have c0 := (kl.keep hS).cell 2 rfl
                have c1 := (kl.keep hS).cell 3 rfl
                go_simp
              try simp only [Act.put, List.setIfInBounds_toArray, List.set_cons_zero, List.set_cons_succ]
              (refine txt_light ?_ rfl rfl ?_ ?_; rotate_left; · (intro w' hS; (try dsimp only at hS); go_simp; with_reducible rfl)); try simp only [Act.put, List.setIfInBounds_toArray, List.set_cons_zero, List.set_cons_succ]
              (refine txt_light ?_ rfl rfl ?_ ?_; rotate_left; · (intro w' hS; (try dsimp only at hS); go_simp; with_reducible rfl)); try simp only [Act.put, List.setIfInBounds_toArray, List.set_cons_zero, List.set_cons_succ]
              refine txt_light (.agg #[.int .i64 (cx + vx), .int .i64 (cy + vy)]) rfl rfl ?_ ?_
              · intro w' hS
                have c0 := (kl.keep hS).cell 4 rfl
                have c1 := (kl.keep hS).cell 5 rfl
                go_simp
              try simp only [Act.put, List.setIfInBounds_toArray, List.set_cons_zero, List.set_cons_succ]
              (refine txt_light ?_ rfl rfl ?_ ?_; rotate_left; · (intro w' hS; (try dsimp only at hS); go_simp; with_reducible rfl)); try simp only [Act.put, List.setIfInBounds_toArray, List.set_cons_zero, List.set_cons_succ]
              (refine txt_light ?_ rfl rfl ?_ ?_; rotate_left; · (intro w' hS; (try dsimp only at hS); go_simp; with_reducible rfl)); try simp only [Act.put, List.setIfInBounds_toArray, List.set_cons_zero, List.set_cons_succ]
              refine txt_light (.agg #[.int .i64 (dx + vx), .int .i64 (dy + vy)]) rfl rfl ?_ ?_
              · intro w' hS
                have c0 := (kl.keep hS).cell 6 rfl
                have c1 := (kl.keep hS).cell 7 rfl
                go_simp
              try simp only [Act.put, List.setIfInBounds_toArray, List.set_cons_zero, List.set_cons_succ]
              refine txt_call [.agg #[.int .i64 (ax + vx), .int .i64 (ay + vy)], .agg #[.int .i64 (bx + vx), .int .i64 (bY + vy)], .agg #[.int .i64 (cx + vx), .int .i64 (cy + vy)], .agg #[.int .i64 (dx + vx), .int .i64 (dy + vy)]] Try.f15 rfl rfl Try.func15 (by kernel_rfl) (by kernel_rfl) rfl ((S2.out _).mono ?_)
              rintro e w2 ⟨rfl, hx2⟩
              have hz2 := hrr.trans (hx2.mono hrr.size)
              refine ⟨_, rfl, hz2, ?_⟩
              try simp only [Act.put, List.setIfInBounds_toArray, List.set_cons_zero, List.set_cons_succ]
              (refine txt_light ?_ rfl rfl ?_ ?_; rotate_left; · (intro w' hS; (try dsimp only at hS); go_simp; with_reducible rfl)); try simp only [Act.put, List.setIfInBounds_toArray, List.set_cons_zero, List.set_cons_succ]
              (refine txt_light ?_ rfl rfl ?_ ?_; rotate_left; · (intro w' hS; (try dsimp only at hS); go_simp; with_reducible rfl)); try simp only [Act.put, List.setIfInBounds_toArray, List.set_cons_zero, List.set_cons_succ]
              (refine txt_light ?_ rfl rfl ?_ ?_; rotate_left; · (intro w' hS; (try dsimp only at hS); go_simp; with_reducible rfl)); try simp only [Act.put, List.setIfInBounds_toArray, List.set_cons_zero, List.set_cons_succ]
              (refine txt_light ?_ rfl rfl ?_ ?_; rotate_left; · (intro w' hS; (try dsimp only at hS); go_simp; with_reducible rfl)); try simp only [Act.put, List.setIfInBounds_toArray, List.set_cons_zero, List.set_cons_succ]
              (refine txt_light ?_ rfl rfl ?_ ?_; rotate_left; · (intro w' hS; (try dsimp only at hS); go_simp; with_reducible rfl)); try simp only [Act.put, List.setIfInBounds_toArray, List.set_cons_zero, List.set_cons_succ]
              refine txt_nil ?_
              have hb4 := hb3.trans (hz2.mono hs3)
              have hs4 := hb4.size
              have ka := ka.keep hz2
              have kb := kb.keep hz2
              have kc := kc.keep hz2
              have kd := kd.keep hz2
              have kv := kv.keep hz2
              have kl := kl.keep hz2
              have ro := ro.keep hz2
              have ru := ru.keep hz2
              have ro2 := ro2.keep hz2
              have ru2 := ru2.keep hz2
              clear S2 hb3 hs3 hz2 hx2 hrr
              have c1 := C1.out po po2 co co2 T T2 (by unfold sortMax; omega)
              have c2 := C2.out pu pu2 cu cu2 (T.map (· + vx)) (T2.map (· + vy)) (by simp; unfold sortMax; omega)
              have hce : CF' (T.map (· + vx)) (T2.map (· + vy)) = (CF T T2).map (Pt.mv ⟨vx, vy⟩) := CE.out HNV.out HNA.out HNB.out T T2
              rw [hce] at c2
              simp only [List.length_map] at c2
              have hlen := CL.out T T2
              have hbox := CB.out T T2
              generalize CF T T2 = CU at *
              have HC1 := Lib.hid c1
              have HC2 := Lib.hid c2
              have HBX := Lib.hid hbox
              clear c1 c2 hce hbox C1 C2 CE CL CB
              go_wp2_with fail
              have hrr : Below w2.heap.size w2 w2.drew := (Below.refl _ _).drew
              refine wp_region_lit_txt [0, 1, 2, 3, 5, 6, 7, 8, 9, 10, 11, 12, 14, 15] (fun W => Below w2.heap.size w2 W) (by kernel_rfl) (by kernel_rfl) (by kernel_rfl) hrr ?_
              refine txt_light (.agg #[.int .i64 ax, .int .i64 ay]) rfl rfl ?_ ?_
              · intro w' hS
                have c0 := (ka.keep hS).cell 0 rfl
                have c1 := (ka.keep hS).cell 1 rfl
                go_simp
              try simp only [Act.put, List.setIfInBounds_toArray, List.set_cons_zero, List.set_cons_succ]
              refine txt_light (.agg #[.int .i64 bx, .int .i64 bY]) rfl rfl ?_ ?_
              · intro w' hS
                have c0 := (kb.keep hS).cell 0 rfl
                have c1 := (kb.keep hS).cell 1 rfl
                go_simp
              try simp only [Act.put, List.setIfInBounds_toArray, List.set_cons_zero, List.set_cons_succ]
              (refine txt_light ?_ rfl rfl ?_ ?_; rotate_left; · (intro w' hS; (try dsimp only at hS); go_simp; with_reducible rfl)); try simp only [Act.put, List.setIfInBounds_toArray, List.set_cons_zero, List.set_cons_succ]
              (refine txt_light ?_ rfl rfl ?_ ?_; rotate_left; · (intro w' hS; (try dsimp only at hS); go_simp; with_reducible rfl)); try simp only [Act.put, List.setIfInBounds_toArray, List.set_cons_zero, List.set_cons_succ]
              refine txt_call [.agg #[.int .i64 ax, .int .i64 ay], .agg #[.int .i64 bx, .int .i64 bY], .slice po T.length co, .slice po2 T2.length co2] Try.f11 rfl rfl Try.func11 (by kernel_rfl) (by kernel_rfl) rfl ((HC1.out _ (ro.keep hrr) (ro2.keep hrr)).mono ?_)
              rintro e w3 ⟨v1, rfl, ho1, hx3⟩
              have hz3 := hrr.trans (hx3.mono hrr.size)
              refine ⟨_, rfl, hz3, ?_⟩
              try simp only [Act.put, List.setIfInBounds_toArray, List.set_cons_zero, List.set_cons_succ]
              (refine txt_light ?_ rfl rfl ?_ ?_; rotate_left; · (intro w' hS; (try dsimp only at hS); go_simp; with_reducible rfl)); try simp only [Act.put, List.setIfInBounds_toArray, List.set_cons_zero, List.set_cons_succ]
              (refine txt_light ?_ rfl rfl ?_ ?_; rotate_left; · (intro w' hS; (try dsimp only at hS); go_simp; with_reducible rfl)); try simp only [Act.put, List.setIfInBounds_toArray, List.set_cons_zero, List.set_cons_succ]
              refine txt_light (.agg #[.int .i64 (ax + vx), .int .i64 (ay + vy)]) rfl rfl ?_ ?_
              · intro w' hS
                have c0 := (kl.keep hS).cell 0 rfl
                have c1 := (kl.keep hS).cell 1 rfl
                go_simp
              try simp only [Act.put, List.setIfInBounds_toArray, List.set_cons_zero, List.set_cons_succ]
              (refine txt_light ?_ rfl rfl ?_ ?_; rotate_left; · (intro w' hS; (try dsimp only at hS); go_simp; with_reducible rfl)); try simp only [Act.put, List.setIfInBounds_toArray, List.set_cons_zero, List.set_cons_succ]
              (refine txt_light ?_ rfl rfl ?_ ?_; rotate_left; · (intro w' hS; (try dsimp only at hS); go_simp; with_reducible rfl)); try simp only [Act.put, List.setIfInBounds_toArray, List.set_cons_zero, List.set_cons_succ]
              refine txt_light (.agg #[.int .i64 (bx + vx), .int .i64 (bY + vy)]) rfl rfl ?_ ?_
              · intro w' hS
                have c0 := (kl.keep hS).cell 2 rfl
                have c1 := (kl.keep hS).cell 3 rfl
                go_simp
              try simp only [Act.put, List.setIfInBounds_toArray, List.set_cons_zero, List.set_cons_succ]
              (refine txt_light ?_ rfl rfl ?_ ?_; rotate_left; · (intro w' hS; (try dsimp only at hS); go_simp; with_reducible rfl)); try simp only [Act.put, List.setIfInBounds_toArray, List.set_cons_zero, List.set_cons_succ]
              (refine txt_light ?_ rfl rfl ?_ ?_; rotate_left; · (intro w' hS; (try dsimp only at hS); go_simp; with_reducible rfl)); try simp only [Act.put, List.setIfInBounds_toArray, List.set_cons_zero, List.set_cons_succ]
              refine txt_call [.agg #[.int .i64 (ax + vx), .int .i64 (ay + vy)], .agg #[.int .i64 (bx + vx), .int .i64 (bY + vy)], .slice pu T.length cu, .slice pu2 T2.length cu2] Try.f11 rfl rfl Try.func11 (by kernel_rfl) (by kernel_rfl) rfl ((HC2.out _ (ru.keep hz3) (ru2.keep hz3)).mono ?_)
              rintro e w4 ⟨v2, rfl, ho2, hx4⟩
              have hz4 := hz3.trans (hx4.mono hz3.size)
              refine ⟨_, rfl, hz4, ?_⟩
              try simp only [Act.put, List.setIfInBounds_toArray, List.set_cons_zero, List.set_cons_succ]
              (refine txt_light ?_ rfl rfl ?_ ?_; rotate_left; · (intro w' hS; (try dsimp only at hS); go_simp; with_reducible rfl)); try simp only [Act.put, List.setIfInBounds_toArray, List.set_cons_zero, List.set_cons_succ]
              (refine txt_light ?_ rfl rfl ?_ ?_; rotate_left; · (intro w' hS; (try dsimp only at hS); go_simp; with_reducible rfl)); try simp only [Act.put, List.setIfInBounds_toArray, List.set_cons_zero, List.set_cons_succ]
              refine txt_nil ?_
              have hb5 := hb4.trans (hz4.mono hs4)
              have hs5 := hb5.size
              obtain ⟨p1, d1, rfl, -, -, -, hr1, -⟩ := ho1.form
              obtain ⟨p2, d2, rfl, -, -, -, hr2, -⟩ := ho2.form
              have hr1 := hr1.keep hx4
              have kv := kv.keep hz4
              clear ho1 ho2 hx3 hx4 hz3 hz4 hrr hb4 hs4 ka kb kc kd kl ro ru ro2 ru2 HC1 HC2
              go_wp2
              go_loopw [30] (fun ii wr => ∃ k nn : Nat, k ≤ CU.length ∧ ii = .int .i64 (k : Int) ∧ wr = w4.drewN nn) (fun ii _ => CU.length - (intOf ii).toNat)
              case atStart => exact ⟨0, 0, Nat.zero_le _, rfl, rfl⟩
              case round =>
                obtain ⟨k, nn, hk, rfl, rfl⟩ := hrel
                by_cases hlt : k < CU.length
                · obtain ⟨b1, o1, rfl, hbb1, q0, q1⟩ := hr1.pt k hlt
                  obtain ⟨b2, o2, rfl, hbb2, t0, t1⟩ := hr2.pt k (by simpa using hlt)
                  have hge : (CU.map (Pt.mv ⟨vx, vy⟩))[k]'(by simpa using hlt) = Pt.mv ⟨vx, vy⟩ CU[k] := by simp
                  rw [hge] at t0 t1
                  have hbx := HBX.out CU[k] (List.getElem_mem _)
                  generalize CU[k] = pk at *
                  obtain ⟨px, py⟩ := pk
                  unfold InBox at hbx
                  dsimp only [Pt.mv] at q0 q1 t0 t1 hbx
                  have hwx : IntKind.i64.wrap (px + vx) = px + vx := IntWalk.i64_in _ (by omega)
                  have hwy : IntKind.i64.wrap (py + vy) = py + vy := IntWalk.i64_in _ (by omega)
                  have kvn := kv.drewN nn
                  have y0 := kv.cell 0 rfl
                  have y1 := kv.cell 1 rfl
                  have hlt3 : (k : Int) < (CU.length : Int) := by omega
                  obtain ⟨sx, hsx⟩ : ∃ s, px + vx = s := ⟨_, rfl⟩
                  obtain ⟨sy, hsy⟩ : ∃ s, py + vy = s := ⟨_, rfl⟩
                  rw [hsx] at hwx t0
                  rw [hsy] at hwy t1
                  have hnx : (sx != sx) = false := by simp
                  have hny : (sy != sy) = false := by simp
                  have HSX := Lib.hid hsx
                  have HSY := Lib.hid hsy
                  have hwx : IntKind.i64.wrap (px + vx) = sx := by rw [hsx]; exact hwx
                  have hwy : IntKind.i64.wrap (py + vy) = sy := by rw [hsy]; exact hwy
                  clear hge hbx hsx hsy
                  go_wp2
                  go_quiet (fail)
                  go_wp2
                  go_roundw
                  case rel => exact ⟨k + 1, nn + nq, by omega, by go_num, by simp⟩
                  case measure => simp [intOf]; omega
                · have hlt' : ¬ (k : Int) < (CU.length : Int) := by omega
                  have hb8 := below_drewN hb5 nn
                  generalize w4.drewN nn = w7 at *
                  go_wp2_with fail
                  refine (sknown_any _).mono ?_
                  rintro e w8 ⟨rfl, hb9⟩
                  have hbE := hb8.trans (hb9.mono hb8.size)
                  go_wp2
                  go_ret
                  exact ⟨rfl, hbE⟩
            clear hK4
            go_loopw [19, 21, 23] (fun u o i wr => Hid (∃ (k : Nat) (T : List Int), k ≤ YS.length ∧ k ≤ 20 ∧ i = .int .i64 (k : Int) ∧ Hid (T = (YS.take k).filter okN) ∧ T.length ≤ k ∧ wr.ownsRow wF.heap.size 3 1 o T.length (T.map (Value.int .i64)) ∧ wr.ownsRow wF.heap.size 3 1 u T.length ((T.map (· + vy)).map (Value.int .i64)) ∧ Disj o u ∧ Below wF.heap.size wF wr)) (fun _ _ i _ => 20 - (intOf i).toNat)
            case atStart => exact Lib.hid ⟨0, [], Nat.zero_le _, by omega, rfl, Lib.hid rfl, Nat.le_refl _, World.ownsRow_nil _ _ _ _, World.ownsRow_nil _ _ _ _, (fun k h => by cases h), Below.refl _ _⟩
            case round =>
              obtain ⟨k, T, hk, hk2, rfl, HT, hTl, ho, hu, hdj, hbE⟩ := hrel.out
              clear hrel
              have hsE := hbE.size
              by_cases hlt : k < YS.length ∧ k < 20
              · have hlt1 : (k : Int) < (YS.length : Int) := by omega
                have hlt2 : (k : Int) < 20 := by omega
                obtain ⟨b1, o1, rfl, q0E, hb1E⟩ := (hyr.keep (hWS2.out _ (Below.refl _ _))).at (i := k) (v := .int .i64 YS[k]) (by simp [hlt.1])
                have q0 := (hbE.cell (p := ⟨b1, o1 + k, none⟩) hb1E).trans q0E
                clear q0E
                have hbb1 := Nat.lt_of_lt_of_le hb1E hsE
                have HTS : Hid ((YS.take (k + 1)).filter okN = T ++ (if okN YS[k] then [YS[k]] else [])) := Lib.hid (by
                  rw [List.take_succ_eq_append_getElem hlt.1, List.filter_append, ← HT.out]
                  congr 1
                  by_cases h : okN YS[k] = true
                  · rw [if_pos h, List.filter_cons_of_pos h]; rfl
                  · rw [if_neg h, List.filter_cons_of_neg h]; rfl)
                generalize YS[k] = c at *
                by_cases hcA : c ≤ 1048576
                · by_cases hcB : -1048576 ≤ c
                  · have hok : okN c = true := by unfold okN; simp [hcA, hcB]
                    have HTS2 : Hid (T ++ [c] = (YS.take (k + 1)).filter okN) := Lib.hid (by rw [HTS.out, if_pos hok])
                    have kvE := kv.keep hbE
                    have hwv : IntKind.i64.wrap (c + vy) = c + vy := IntWalk.i64_in _ (by omega)
                    have hou := ho.lt
                    have huu := hu.lt
                    clear HTS hok
                    go_wp2_with fail
                    refine wp_region_sched 19 [0, 1, 2, 3, 4, 7, 8, 9, 10, 11, 12, 13, 14, 17, 18] (fun W => Blk W (w.heap.size + 1 + 1 + 1 + 1) [.int .i64 vx, .int .i64 vy] ∧ W.cell? ⟨b1, o1 + k, none⟩ = some (.int .i64 c)) rfl (by kernel_rfl) (by kernel_rfl) ?_
                    have kv0 : Blk wr.drew (w.heap.size + 1 + 1 + 1 + 1) [.int .i64 vx, .int .i64 vy] := kvE.drew
                    have q0 : wr.drew.cell? ⟨b1, o1 + k, none⟩ = some (.int .i64 c) := q0
                    have ho0 : wr.drew.ownsRow wF.heap.size 3 1 u21 T.length (T.map (Value.int .i64)) := ho
                    have hu0 : wr.drew.ownsRow wF.heap.size 3 1 u19 T.length ((T.map (· + vy)).map (Value.int .i64)) := hu
                    have hb0 : Below wF.heap.size wF wr.drew := hbE.drew
                    have hz0 : wr.heap.size ≤ wr.drew.heap.size := Nat.le_refl _
                    have hnb : ∀ x, x < wF.heap.size → some x ≠ u21.ownBlock := fun x hx e => by have := (hou x e.symm).1; omega
                    have hnb2 : ∀ x, x < wF.heap.size → some x ≠ u19.ownBlock := fun x hx e => by have := (huu x e.symm).1; omega
                    have hvbE : (w.heap.size + 1 + 1 + 1 + 1) < wF.heap.size := kv.lt
                    generalize wr.drew = w0 at *
                    (refine sched_light 0 _ ?_ (by kernel_rfl) (by kernel_rfl) rfl rfl ?_ ⟨kv0, q0⟩ ?_; rotate_left; · (intro w' hS; (try dsimp only at hS); go_simp; with_reducible rfl)); try simp only [Act.put, List.setIfInBounds_toArray, List.set_cons_zero, List.set_cons_succ]
                    (refine sched_light 1 _ ?_ (by kernel_rfl) (by kernel_rfl) rfl rfl ?_ ⟨kv0, q0⟩ ?_; rotate_left; · (intro w' hS; (try dsimp only at hS); go_simp; with_reducible rfl)); try simp only [Act.put, List.setIfInBounds_toArray, List.set_cons_zero, List.set_cons_succ]
                    (refine sched_light 2 _ ?_ (by kernel_rfl) (by kernel_rfl) rfl rfl ?_ ⟨kv0, q0⟩ ?_; rotate_left; · (intro w' hS; (try dsimp only at hS); go_simp; with_reducible rfl)); try simp only [Act.put, List.setIfInBounds_toArray, List.set_cons_zero, List.set_cons_succ]
                    (refine sched_light 3 _ ?_ (by kernel_rfl) (by kernel_rfl) rfl rfl ?_ ⟨kv0, q0⟩ ?_; rotate_left; · (intro w' hS; (try dsimp only at hS); go_simp; with_reducible rfl)); try simp only [Act.put, List.setIfInBounds_toArray, List.set_cons_zero, List.set_cons_succ]
                    refine sched_light 4 _ (.int .i64 c) (by kernel_rfl) (by kernel_rfl) rfl rfl ?_ ⟨kv0, q0⟩ ?_
                    · intro w' hS
                      have c0 := hS.2
                      go_simp
                    try simp only [Act.put, List.setIfInBounds_toArray, List.set_cons_zero, List.set_cons_succ]
                    (refine sched_light 7 _ ?_ (by kernel_rfl) (by kernel_rfl) rfl rfl ?_ ⟨kv0, q0⟩ ?_; rotate_left; · (intro w' hS; (try dsimp only at hS); go_simp; with_reducible rfl)); try simp only [Act.put, List.setIfInBounds_toArray, List.set_cons_zero, List.set_cons_succ]
                    (refine sched_light 8 _ ?_ (by kernel_rfl) (by kernel_rfl) rfl rfl ?_ ⟨kv0, q0⟩ ?_; rotate_left; · (intro w' hS; (try dsimp only at hS); go_simp; with_reducible rfl)); try simp only [Act.put, List.setIfInBounds_toArray, List.set_cons_zero, List.set_cons_succ]
                    (refine sched_light 9 _ ?_ (by kernel_rfl) (by kernel_rfl) rfl rfl ?_ ⟨kv0, q0⟩ ?_; rotate_left; · (intro w' hS; (try dsimp only at hS); go_simp; with_reducible rfl)); try simp only [Act.put, List.setIfInBounds_toArray, List.set_cons_zero, List.set_cons_succ]
                    (refine sched_light 10 _ ?_ (by kernel_rfl) (by kernel_rfl) rfl rfl ?_ ⟨kv0, q0⟩ ?_; rotate_left; · (intro w' hS; (try dsimp only at hS); go_simp; with_reducible rfl)); try simp only [Act.put, List.setIfInBounds_toArray, List.set_cons_zero, List.set_cons_succ]
                    refine sched_light 11 _ (.int .i64 c) (by kernel_rfl) (by kernel_rfl) rfl rfl ?_ ⟨kv0, q0⟩ ?_
                    · intro w' hS
                      have c0 := hS.2
                      go_simp
                    try simp only [Act.put, List.setIfInBounds_toArray, List.set_cons_zero, List.set_cons_succ]
                    (refine sched_light 12 _ ?_ (by kernel_rfl) (by kernel_rfl) rfl rfl ?_ ⟨kv0, q0⟩ ?_; rotate_left; · (intro w' hS; (try dsimp only at hS); go_simp; with_reducible rfl)); try simp only [Act.put, List.setIfInBounds_toArray, List.set_cons_zero, List.set_cons_succ]
                    refine sched_light 13 _ (.int .i64 vy) (by kernel_rfl) (by kernel_rfl) rfl rfl ?_ ⟨kv0, q0⟩ ?_
                    · intro w' hS
                      have c0 := hS.1.cell 1 rfl
                      go_simp
                    try simp only [Act.put, List.setIfInBounds_toArray, List.set_cons_zero, List.set_cons_succ]
                    (refine sched_light 14 _ ?_ (by kernel_rfl) (by kernel_rfl) rfl rfl ?_ ⟨kv0, q0⟩ ?_; rotate_left; · (intro w' hS; (try dsimp only at hS); go_simp; with_reducible rfl)); try simp only [Act.put, List.setIfInBounds_toArray, List.set_cons_zero, List.set_cons_succ]
                    refine sched_fork [5, 15] (by kernel_rfl) (by kernel_rfl) (by decide) ?_
                    intro i hi
                    simp only [List.mem_cons, List.not_mem_nil, or_false] at hi
                    rcases hi with rfl | rfl
                    ·
                      refine sched_heavy 5 _ rfl rfl (fun K hK => ?_)
                      go_step
                      have kv1 := kv0.alloc (.cells #[.int .i64 c] 3)
                      have q1 : (w0.alloc (.cells #[.int .i64 c] 3)).cell? ⟨b1, o1 + k, none⟩ = some (.int .i64 c) := ((Below.new w0 (.cells #[.int .i64 c] 3)).cell (p := ⟨b1, o1 + k, none⟩) (by show b1 < _; omega)).trans q0
                      have ho1 := World.ownsRow.below ho0 (Below.new w0 (.cells #[.int .i64 c] 3))
                      have hu1 := World.ownsRow.below hu0 (Below.new w0 (.cells #[.int .i64 c] 3))
                      have hb1 := hb0.alloc hb0.size (.cells #[.int .i64 c] 3)
                      have rd1a := Rd.lit w0 w0.heap.size [.int .i64 c] 3 rfl
                      have hz1 : wr.heap.size ≤ (w0.alloc (.cells #[.int .i64 c] 3)).heap.size := by simp; omega
                      refine hK.out _ _ ⟨kv1, q1⟩ ?_
                      clear hK K
                      generalize w0.alloc (.cells #[.int .i64 c] 3) = w1 at *
                      try simp only [Act.put, List.setIfInBounds_toArray, List.set_cons_zero, List.set_cons_succ]
                      refine sched_fork [6, 15] (by kernel_rfl) (by kernel_rfl) (by decide) ?_
                      intro i hi
                      simp only [List.mem_cons, List.not_mem_nil, or_false] at hi
                      rcases hi with rfl | rfl
                      ·
                        refine sched_heavy 6 _ rfl rfl (fun K hK => ?_)
                        refine wp_app_at (.tmp 155) (.tmp 160) 24 rfl wF.heap.size 3 (.int .i64 0) 1 8 Try.underlying24 Try.infoI rfl (by decide) u21 T.length (T.map (Value.int .i64)) rfl ho1 ⟨w0.heap.size, 0, none⟩ 1 1 [.int .i64 c] rfl rd1a rfl (by simp [Value.oneCell']) (by omega) (by decide) hb1.size ?_
                        intro v2 w2 ho2 hg hloc
                        have hz2 : wr.heap.size ≤ w2.heap.size := Nat.le_trans hz1 hg.size
                        have kv2 := kv1.grown hg (hnb _ hvbE)
                        have q2 := hg.cell q1 (hnb _ hb1E)
                        have hb2 := hb1.grown hg hb1.size (fun x hx => (hou x hx).1)
                        have hu2 := hu1.kept hg hdj.kept
                        have hdj2 : Disj v2 u19 := hdj.left hloc (fun x hx => by have := (huu x hx).2; omega)
                        refine hK.out _ _ ⟨kv2, q2⟩ ?_
                        clear hK K hg hloc
                        try simp only [Act.put, List.setIfInBounds_toArray, List.set_cons_zero, List.set_cons_succ]
                        refine sched_fork [15] (by kernel_rfl) (by kernel_rfl) (by decide) ?_
                        intro i hi
                        simp only [List.mem_cons, List.not_mem_nil, or_false] at hi
                        subst hi
                        refine sched_heavy 15 _ rfl rfl (fun K hK => ?_)
                        go_step
                        have kv3 := kv2.alloc (.cells #[.int .i64 (c + vy)] 3)
                        have q3 : (w2.alloc (.cells #[.int .i64 (c + vy)] 3)).cell? ⟨b1, o1 + k, none⟩ = some (.int .i64 c) := ((Below.new w2 (.cells #[.int .i64 (c + vy)] 3)).cell (p := ⟨b1, o1 + k, none⟩) (by show b1 < _; omega)).trans q2
                        have ho3 := World.ownsRow.below ho2 (Below.new w2 (.cells #[.int .i64 (c + vy)] 3))
                        have hu3 := World.ownsRow.below hu2 (Below.new w2 (.cells #[.int .i64 (c + vy)] 3))
                        have hb3 := hb2.alloc hb2.size (.cells #[.int .i64 (c + vy)] 3)
                        have rd3b := Rd.lit w2 w2.heap.size [.int .i64 (c + vy)] 3 rfl
                        have hz3 : wr.heap.size ≤ (w2.alloc (.cells #[.int .i64 (c + vy)] 3)).heap.size := by simp; omega
                        refine hK.out _ _ ⟨kv3, q3⟩ ?_
                        clear hK K
                        generalize w2.alloc (.cells #[.int .i64 (c + vy)] 3) = w3 at *
                        try simp only [Act.put, List.setIfInBounds_toArray, List.set_cons_zero, List.set_cons_succ]
                        refine sched_fork [16] (by kernel_rfl) (by kernel_rfl) (by decide) ?_
                        intro i hi
                        simp only [List.mem_cons, List.not_mem_nil, or_false] at hi
                        subst hi
                        refine sched_heavy 16 _ rfl rfl (fun K hK => ?_)
                        refine wp_app_at (.tmp 162) (.tmp 170) 24 rfl wF.heap.size 3 (.int .i64 0) 1 8 Try.underlying24 Try.infoI rfl (by decide) u19 T.length ((T.map (· + vy)).map (Value.int .i64)) rfl hu3 ⟨w2.heap.size, 0, none⟩ 1 1 [.int .i64 (c + vy)] rfl rd3b rfl (by simp [Value.oneCell']) (by omega) (by decide) hb3.size ?_
                        intro v4 w4 hu4 hg hloc
                        have hz4 : wr.heap.size ≤ w4.heap.size := Nat.le_trans hz3 hg.size
                        have kv4 := kv3.grown hg (hnb2 _ hvbE)
                        have q4 := hg.cell q3 (hnb2 _ hb1E)
                        have hb4 := hb3.grown hg hb3.size (fun x hx => (huu x hx).1)
                        have hov := ho3.lt
                        have ho4 := ho3.kept hg hdj2.symm.kept
                        have hdj3 : Disj v2 v4 := (hdj2.symm.left hloc (fun x hx => (hov x hx).2)).symm
                        refine hK.out _ _ ⟨kv4, q4⟩ ?_
                        clear hK K hg hloc
                        try simp only [Act.put, List.setIfInBounds_toArray, List.set_cons_zero, List.set_cons_succ]
                        (refine sched_light 17 _ ?_ (by kernel_rfl) (by kernel_rfl) rfl rfl ?_ ⟨kv4, q4⟩ ?_; rotate_left; · (intro w' hS; (try dsimp only at hS); go_simp; with_reducible rfl)); try simp only [Act.put, List.setIfInBounds_toArray, List.set_cons_zero, List.set_cons_succ]
                        (refine sched_light 18 _ ?_ (by kernel_rfl) (by kernel_rfl) rfl rfl ?_ ⟨kv4, q4⟩ ?_; rotate_left; · (intro w' hS; (try dsimp only at hS); go_simp; with_reducible rfl)); try simp only [Act.put, List.setIfInBounds_toArray, List.set_cons_zero, List.set_cons_succ]
                        refine sched_end (by kernel_rfl) ?_
                        have e1 : (T ++ [c]).map (Value.int .i64) = T.map (Value.int .i64) ++ [.int .i64 c] := by simp
                        have e2 : ((T ++ [c]).map (· + vy)).map (Value.int .i64) = (T.map (· + vy)).map (Value.int .i64) ++ [.int .i64 (c + vy)] := by simp
                        have hbF := hb4
                        have hoF := ho4
                        have huF := hu4
                        clear kv0 q0 ho0 hu0 hb0 kv1 q1 ho1 hu1 hb1 kv2 q2 ho2 hu2 hb2 kv3 q3 ho3 hu3 hb3 kv4 q4 ho4 hu4 hb4
                        have HREL : Hid (∃ (k' : Nat) (T' : List Int), k' ≤ YS.length ∧ k' ≤ 20 ∧ Value.int .i64 ((k : Int) + 1) = .int .i64 (k' : Int) ∧ Hid (T' = (YS.take k').filter okN) ∧ T'.length ≤ k' ∧ w4.ownsRow wF.heap.size 3 1 v2 T'.length (T'.map (Value.int .i64)) ∧ w4.ownsRow wF.heap.size 3 1 v4 T'.length ((T'.map (· + vy)).map (Value.int .i64)) ∧ Disj v2 v4 ∧ Below wF.heap.size wF w4) := Lib.hid ⟨k + 1, T ++ [c], by omega, by omega, by first | rfl | go_num, HTS2, by simp; omega, by rw [e1, List.length_append]; exact hoF, by rw [e2, List.length_append]; exact huF, hdj3, hbF⟩
                        clear e1 e2 hoF huF hbF hdj3
                        go_wp2
                        first
                        | exact ⟨HREL, by simp [intOf]; omega⟩
                        | exact ⟨⟨_, _, _, HREL, rfl, rfl, rfl⟩, by simp [intOf]; omega⟩
                        | (go_roundw
                           case rel => repeat' (first | exact ⟨HREL, rfl⟩ | apply Exists.intro)
                           case measure => simp [intOf]; omega)
                      ·
                        refine sched_heavy 15 _ rfl rfl (fun K hK => ?_)
                        go_step
                        have kv2 := kv1.alloc (.cells #[.int .i64 (c + vy)] 3)
                        have q2 : (w1.alloc (.cells #[.int .i64 (c + vy)] 3)).cell? ⟨b1, o1 + k, none⟩ = some (.int .i64 c) := ((Below.new w1 (.cells #[.int .i64 (c + vy)] 3)).cell (p := ⟨b1, o1 + k, none⟩) (by show b1 < _; omega)).trans q1
                        have ho2 := World.ownsRow.below ho1 (Below.new w1 (.cells #[.int .i64 (c + vy)] 3))
                        have hu2 := World.ownsRow.below hu1 (Below.new w1 (.cells #[.int .i64 (c + vy)] 3))
                        have hb2 := hb1.alloc hb1.size (.cells #[.int .i64 (c + vy)] 3)
                        have rd2b := Rd.lit w1 w1.heap.size [.int .i64 (c + vy)] 3 rfl
                        have hz2 : wr.heap.size ≤ (w1.alloc (.cells #[.int .i64 (c + vy)] 3)).heap.size := by simp; omega
                        have rd2a := rd1a.alloc (.cells #[.int .i64 (c + vy)] 3)
                        refine hK.out _ _ ⟨kv2, q2⟩ ?_
                        clear hK K
                        generalize w1.alloc (.cells #[.int .i64 (c + vy)] 3) = w2 at *
                        try simp only [Act.put, List.setIfInBounds_toArray, List.set_cons_zero, List.set_cons_succ]
                        refine sched_fork [6] (by kernel_rfl) (by kernel_rfl) (by decide) ?_
                        intro i hi
                        simp only [List.mem_cons, List.not_mem_nil, or_false] at hi
                        subst hi
                        refine sched_heavy 6 _ rfl rfl (fun K hK => ?_)
                        refine wp_app_at (.tmp 155) (.tmp 160) 24 rfl wF.heap.size 3 (.int .i64 0) 1 8 Try.underlying24 Try.infoI rfl (by decide) u21 T.length (T.map (Value.int .i64)) rfl ho2 ⟨w0.heap.size, 0, none⟩ 1 1 [.int .i64 c] rfl rd2a rfl (by simp [Value.oneCell']) (by omega) (by decide) hb2.size ?_
                        intro v3 w3 ho3 hg hloc
                        have hz3 : wr.heap.size ≤ w3.heap.size := Nat.le_trans hz2 hg.size
                        have kv3 := kv2.grown hg (hnb _ hvbE)
                        have q3 := hg.cell q2 (hnb _ hb1E)
                        have hb3 := hb2.grown hg hb2.size (fun x hx => (hou x hx).1)
                        have hu3 := hu2.kept hg hdj.kept
                        have hdj2 : Disj v3 u19 := hdj.left hloc (fun x hx => by have := (huu x hx).2; omega)
                        have rd3b := rd2b.grown hg (fun x hx => by simp at hx; subst hx; intro e; have := (hou _ e.symm).2; omega)
                        refine hK.out _ _ ⟨kv3, q3⟩ ?_
                        clear hK K hg hloc
                        try simp only [Act.put, List.setIfInBounds_toArray, List.set_cons_zero, List.set_cons_succ]
                        refine sched_fork [16] (by kernel_rfl) (by kernel_rfl) (by decide) ?_
                        intro i hi
                        simp only [List.mem_cons, List.not_mem_nil, or_false] at hi
                        subst hi
                        refine sched_heavy 16 _ rfl rfl (fun K hK => ?_)
                        refine wp_app_at (.tmp 162) (.tmp 170) 24 rfl wF.heap.size 3 (.int .i64 0) 1 8 Try.underlying24 Try.infoI rfl (by decide) u19 T.length ((T.map (· + vy)).map (Value.int .i64)) rfl hu3 ⟨w1.heap.size, 0, none⟩ 1 1 [.int .i64 (c + vy)] rfl rd3b rfl (by simp [Value.oneCell']) (by omega) (by decide) hb3.size ?_
                        intro v4 w4 hu4 hg hloc
                        have hz4 : wr.heap.size ≤ w4.heap.size := Nat.le_trans hz3 hg.size
                        have kv4 := kv3.grown hg (hnb2 _ hvbE)
                        have q4 := hg.cell q3 (hnb2 _ hb1E)
                        have hb4 := hb3.grown hg hb3.size (fun x hx => (huu x hx).1)
                        have hov := ho3.lt
                        have ho4 := ho3.kept hg hdj2.symm.kept
                        have hdj3 : Disj v3 v4 := (hdj2.symm.left hloc (fun x hx => (hov x hx).2)).symm
                        refine hK.out _ _ ⟨kv4, q4⟩ ?_
                        clear hK K hg hloc
                        try simp only [Act.put, List.setIfInBounds_toArray, List.set_cons_zero, List.set_cons_succ]
                        (refine sched_light 17 _ ?_ (by kernel_rfl) (by kernel_rfl) rfl rfl ?_ ⟨kv4, q4⟩ ?_; rotate_left; · (intro w' hS; (try dsimp only at hS); go_simp; with_reducible rfl)); try simp only [Act.put, List.setIfInBounds_toArray, List.set_cons_zero, List.set_cons_succ]
                        (refine sched_light 18 _ ?_ (by kernel_rfl) (by kernel_rfl) rfl rfl ?_ ⟨kv4, q4⟩ ?_; rotate_left; · (intro w' hS; (try dsimp only at hS); go_simp; with_reducible rfl)); try simp only [Act.put, List.setIfInBounds_toArray, List.set_cons_zero, List.set_cons_succ]
                        refine sched_end (by kernel_rfl) ?_
                        have e1 : (T ++ [c]).map (Value.int .i64) = T.map (Value.int .i64) ++ [.int .i64 c] := by simp
                        have e2 : ((T ++ [c]).map (· + vy)).map (Value.int .i64) = (T.map (· + vy)).map (Value.int .i64) ++ [.int .i64 (c + vy)] := by simp
                        have hbF := hb4
                        have hoF := ho4
                        have huF := hu4
                        clear kv0 q0 ho0 hu0 hb0 kv1 q1 ho1 hu1 hb1 kv2 q2 ho2 hu2 hb2 kv3 q3 ho3 hu3 hb3 kv4 q4 ho4 hu4 hb4
                        have HREL : Hid (∃ (k' : Nat) (T' : List Int), k' ≤ YS.length ∧ k' ≤ 20 ∧ Value.int .i64 ((k : Int) + 1) = .int .i64 (k' : Int) ∧ Hid (T' = (YS.take k').filter okN) ∧ T'.length ≤ k' ∧ w4.ownsRow wF.heap.size 3 1 v3 T'.length (T'.map (Value.int .i64)) ∧ w4.ownsRow wF.heap.size 3 1 v4 T'.length ((T'.map (· + vy)).map (Value.int .i64)) ∧ Disj v3 v4 ∧ Below wF.heap.size wF w4) := Lib.hid ⟨k + 1, T ++ [c], by omega, by omega, by first | rfl | go_num, HTS2, by simp; omega, by rw [e1, List.length_append]; exact hoF, by rw [e2, List.length_append]; exact huF, hdj3, hbF⟩
                        clear e1 e2 hoF huF hbF hdj3
                        go_wp2
                        first
                        | exact ⟨HREL, by simp [intOf]; omega⟩
                        | exact ⟨⟨_, _, _, HREL, rfl, rfl, rfl⟩, by simp [intOf]; omega⟩
                        | (go_roundw
                           case rel => repeat' (first | exact ⟨HREL, rfl⟩ | apply Exists.intro)
                           case measure => simp [intOf]; omega)
                    ·
                      refine sched_heavy 15 _ rfl rfl (fun K hK => ?_)
                      go_step
                      have kv1 := kv0.alloc (.cells #[.int .i64 (c + vy)] 3)
                      have q1 : (w0.alloc (.cells #[.int .i64 (c + vy)] 3)).cell? ⟨b1, o1 + k, none⟩ = some (.int .i64 c) := ((Below.new w0 (.cells #[.int .i64 (c + vy)] 3)).cell (p := ⟨b1, o1 + k, none⟩) (by show b1 < _; omega)).trans q0
                      have ho1 := World.ownsRow.below ho0 (Below.new w0 (.cells #[.int .i64 (c + vy)] 3))
                      have hu1 := World.ownsRow.below hu0 (Below.new w0 (.cells #[.int .i64 (c + vy)] 3))
                      have hb1 := hb0.alloc hb0.size (.cells #[.int .i64 (c + vy)] 3)
                      have rd1b := Rd.lit w0 w0.heap.size [.int .i64 (c + vy)] 3 rfl
                      have hz1 : wr.heap.size ≤ (w0.alloc (.cells #[.int .i64 (c + vy)] 3)).heap.size := by simp; omega
                      refine hK.out _ _ ⟨kv1, q1⟩ ?_
                      clear hK K
                      generalize w0.alloc (.cells #[.int .i64 (c + vy)] 3) = w1 at *
                      try simp only [Act.put, List.setIfInBounds_toArray, List.set_cons_zero, List.set_cons_succ]
                      refine sched_fork [5] (by kernel_rfl) (by kernel_rfl) (by decide) ?_
                      intro i hi
                      simp only [List.mem_cons, List.not_mem_nil, or_false] at hi
                      subst hi
                      refine sched_heavy 5 _ rfl rfl (fun K hK => ?_)
                      go_step
                      have kv2 := kv1.alloc (.cells #[.int .i64 c] 3)
                      have q2 : (w1.alloc (.cells #[.int .i64 c] 3)).cell? ⟨b1, o1 + k, none⟩ = some (.int .i64 c) := ((Below.new w1 (.cells #[.int .i64 c] 3)).cell (p := ⟨b1, o1 + k, none⟩) (by show b1 < _; omega)).trans q1
                      have ho2 := World.ownsRow.below ho1 (Below.new w1 (.cells #[.int .i64 c] 3))
                      have hu2 := World.ownsRow.below hu1 (Below.new w1 (.cells #[.int .i64 c] 3))
                      have hb2 := hb1.alloc hb1.size (.cells #[.int .i64 c] 3)
                      have rd2a := Rd.lit w1 w1.heap.size [.int .i64 c] 3 rfl
                      have hz2 : wr.heap.size ≤ (w1.alloc (.cells #[.int .i64 c] 3)).heap.size := by simp; omega
                      have rd2b := rd1b.alloc (.cells #[.int .i64 c] 3)
                      refine hK.out _ _ ⟨kv2, q2⟩ ?_
                      clear hK K
                      generalize w1.alloc (.cells #[.int .i64 c] 3) = w2 at *
                      try simp only [Act.put, List.setIfInBounds_toArray, List.set_cons_zero, List.set_cons_succ]
                      refine sched_fork [6] (by kernel_rfl) (by kernel_rfl) (by decide) ?_
                      intro i hi
                      simp only [List.mem_cons, List.not_mem_nil, or_false] at hi
                      subst hi
                      refine sched_heavy 6 _ rfl rfl (fun K hK => ?_)
                      refine wp_app_at (.tmp 155) (.tmp 160) 24 rfl wF.heap.size 3 (.int .i64 0) 1 8 Try.underlying24 Try.infoI rfl (by decide) u21 T.length (T.map (Value.int .i64)) rfl ho2 ⟨w1.heap.size, 0, none⟩ 1 1 [.int .i64 c] rfl rd2a rfl (by simp [Value.oneCell']) (by omega) (by decide) hb2.size ?_
                      intro v3 w3 ho3 hg hloc
                      have hz3 : wr.heap.size ≤ w3.heap.size := Nat.le_trans hz2 hg.size
                      have kv3 := kv2.grown hg (hnb _ hvbE)
                      have q3 := hg.cell q2 (hnb _ hb1E)
                      have hb3 := hb2.grown hg hb2.size (fun x hx => (hou x hx).1)
                      have hu3 := hu2.kept hg hdj.kept
                      have hdj2 : Disj v3 u19 := hdj.left hloc (fun x hx => by have := (huu x hx).2; omega)
                      have rd3b := rd2b.grown hg (fun x hx => by simp at hx; subst hx; intro e; have := (hou _ e.symm).2; omega)
                      refine hK.out _ _ ⟨kv3, q3⟩ ?_
                      clear hK K hg hloc
                      try simp only [Act.put, List.setIfInBounds_toArray, List.set_cons_zero, List.set_cons_succ]
                      refine sched_fork [16] (by kernel_rfl) (by kernel_rfl) (by decide) ?_
                      intro i hi
                      simp only [List.mem_cons, List.not_mem_nil, or_false] at hi
                      subst hi
                      refine sched_heavy 16 _ rfl rfl (fun K hK => ?_)
                      refine wp_app_at (.tmp 162) (.tmp 170) 24 rfl wF.heap.size 3 (.int .i64 0) 1 8 Try.underlying24 Try.infoI rfl (by decide) u19 T.length ((T.map (· + vy)).map (Value.int .i64)) rfl hu3 ⟨w0.heap.size, 0, none⟩ 1 1 [.int .i64 (c + vy)] rfl rd3b rfl (by simp [Value.oneCell']) (by omega) (by decide) hb3.size ?_
                      intro v4 w4 hu4 hg hloc
                      have hz4 : wr.heap.size ≤ w4.heap.size := Nat.le_trans hz3 hg.size
                      have kv4 := kv3.grown hg (hnb2 _ hvbE)
                      have q4 := hg.cell q3 (hnb2 _ hb1E)
                      have hb4 := hb3.grown hg hb3.size (fun x hx => (huu x hx).1)
                      have hov := ho3.lt
                      have ho4 := ho3.kept hg hdj2.symm.kept
                      have hdj3 : Disj v3 v4 := (hdj2.symm.left hloc (fun x hx => (hov x hx).2)).symm
                      refine hK.out _ _ ⟨kv4, q4⟩ ?_
                      clear hK K hg hloc
                      try simp only [Act.put, List.setIfInBounds_toArray, List.set_cons_zero, List.set_cons_succ]
                      (refine sched_light 17 _ ?_ (by kernel_rfl) (by kernel_rfl) rfl rfl ?_ ⟨kv4, q4⟩ ?_; rotate_left; · (intro w' hS; (try dsimp only at hS); go_simp; with_reducible rfl)); try simp only [Act.put, List.setIfInBounds_toArray, List.set_cons_zero, List.set_cons_succ]
                      (refine sched_light 18 _ ?_ (by kernel_rfl) (by kernel_rfl) rfl rfl ?_ ⟨kv4, q4⟩ ?_; rotate_left; · (intro w' hS; (try dsimp only at hS); go_simp; with_reducible rfl)); try simp only [Act.put, List.setIfInBounds_toArray, List.set_cons_zero, List.set_cons_succ]
                      refine sched_end (by kernel_rfl) ?_
                      have e1 : (T ++ [c]).map (Value.int .i64) = T.map (Value.int .i64) ++ [.int .i64 c] := by simp
                      have e2 : ((T ++ [c]).map (· + vy)).map (Value.int .i64) = (T.map (· + vy)).map (Value.int .i64) ++ [.int .i64 (c + vy)] := by simp
                      have hbF := hb4
                      have hoF := ho4
                      have huF := hu4
                      clear kv0 q0 ho0 hu0 hb0 kv1 q1 ho1 hu1 hb1 kv2 q2 ho2 hu2 hb2 kv3 q3 ho3 hu3 hb3 kv4 q4 ho4 hu4 hb4
                      have HREL : Hid (∃ (k' : Nat) (T' : List Int), k' ≤ YS.length ∧ k' ≤ 20 ∧ Value.int .i64 ((k : Int) + 1) = .int .i64 (k' : Int) ∧ Hid (T' = (YS.take k').filter okN) ∧ T'.length ≤ k' ∧ w4.ownsRow wF.heap.size 3 1 v3 T'.length (T'.map (Value.int .i64)) ∧ w4.ownsRow wF.heap.size 3 1 v4 T'.length ((T'.map (· + vy)).map (Value.int .i64)) ∧ Disj v3 v4 ∧ Below wF.heap.size wF w4) := Lib.hid ⟨k + 1, T ++ [c], by omega, by omega, by first | rfl | go_num, HTS2, by simp; omega, by rw [e1, List.length_append]; exact hoF, by rw [e2, List.length_append]; exact huF, hdj3, hbF⟩
                      clear e1 e2 hoF huF hbF hdj3
                      go_wp2
                      first
                      | exact ⟨HREL, by simp [intOf]; omega⟩
                      | exact ⟨⟨_, _, _, HREL, rfl, rfl, rfl⟩, by simp [intOf]; omega⟩
                      | (go_roundw
                         case rel => repeat' (first | exact ⟨HREL, rfl⟩ | apply Exists.intro)
                         case measure => simp [intOf]; omega)
                  ·
                    have hok : ¬ okN c = true := by unfold okN; simp; omega
                    have HTS2 : Hid (T = (YS.take (k + 1)).filter okN) := Lib.hid (by rw [HTS.out, if_neg hok, List.append_nil])
                    clear HTS hok
                    go_wp2
                    exact ⟨Lib.hid ⟨k + 1, T, by omega, by omega, by first | rfl | go_num, HTS2, by omega, ho, hu, hdj, hbE⟩, by simp [intOf]; omega⟩
                ·
                  have hok : ¬ okN c = true := by unfold okN; simp; omega
                  have HTS2 : Hid (T = (YS.take (k + 1)).filter okN) := Lib.hid (by rw [HTS.out, if_neg hok, List.append_nil])
                  clear HTS hok
                  go_wp2
                  exact ⟨Lib.hid ⟨k + 1, T, by omega, by omega, by first | rfl | go_num, HTS2, by omega, ho, hu, hdj, hbE⟩, by simp [intOf]; omega⟩
              · have hTT : T = (YS.take 20).filter okN := by
                  rw [HT.out]
                  congr 1
                  by_cases h : k = 20
                  · rw [h]
                  · rw [show k = YS.length by omega, List.take_length, List.take_of_length_le (by omega)]
                clear HT
                have hT20 : T.length ≤ 20 := by omega
                have HT1 := Lib.hid hTT
                clear hTT
                by_cases hkl : k < YS.length
                ·
                  have hk20 : k = 20 := by omega
                  subst hk20
                  have hkl' : (20 : Int) < (YS.length : Int) := by omega
                  go_wp2
                  exact main4 hT20 HT1 ho hu hbE
                ·
                  have hkl' : ¬ (k : Int) < (YS.length : Int) := by omega
                  go_wp2
                  exact main4 hT20 HT1 ho hu hbE
          clear hK3
          go_loopw [18, 20, 22] (fun u o i wr => Hid (∃ (k : Nat) (T : List Int), k ≤ XS.length ∧ k ≤ 20 ∧ i = .int .i64 (k : Int) ∧ Hid (T = (XS.take k).filter okN) ∧ T.length ≤ k ∧ wr.ownsRow wE.heap.size 3 1 o T.length (T.map (Value.int .i64)) ∧ wr.ownsRow wE.heap.size 3 1 u T.length ((T.map (· + vx)).map (Value.int .i64)) ∧ Disj o u ∧ Below wE.heap.size wE wr)) (fun _ _ i _ => 20 - (intOf i).toNat)
          case atStart => exact Lib.hid ⟨0, [], Nat.zero_le _, by omega, rfl, Lib.hid rfl, Nat.le_refl _, World.ownsRow_nil _ _ _ _, World.ownsRow_nil _ _ _ _, (fun k h => by cases h), Below.refl _ _⟩
          case round =>
            obtain ⟨k, T, hk, hk2, rfl, HT, hTl, ho, hu, hdj, hbE⟩ := hrel.out
            clear hrel
            have hsE := hbE.size
            by_cases hlt : k < XS.length ∧ k < 20
            · have hlt1 : (k : Int) < (XS.length : Int) := by omega
              have hlt2 : (k : Int) < 20 := by omega
              obtain ⟨b1, o1, rfl, q0E, hb1E⟩ := (hxr.keep (hWS.out _ (Below.refl _ _))).at (i := k) (v := .int .i64 XS[k]) (by simp [hlt.1])
              have q0 := (hbE.cell (p := ⟨b1, o1 + k, none⟩) hb1E).trans q0E
              clear q0E
              have hbb1 := Nat.lt_of_lt_of_le hb1E hsE
              have HTS : Hid ((XS.take (k + 1)).filter okN = T ++ (if okN XS[k] then [XS[k]] else [])) := Lib.hid (by
                rw [List.take_succ_eq_append_getElem hlt.1, List.filter_append, ← HT.out]
                congr 1
                by_cases h : okN XS[k] = true
                · rw [if_pos h, List.filter_cons_of_pos h]; rfl
                · rw [if_neg h, List.filter_cons_of_neg h]; rfl)
              generalize XS[k] = c at *
              by_cases hcA : c ≤ 1048576
              · by_cases hcB : -1048576 ≤ c
                · have hok : okN c = true := by unfold okN; simp [hcA, hcB]
                  have HTS2 : Hid (T ++ [c] = (XS.take (k + 1)).filter okN) := Lib.hid (by rw [HTS.out, if_pos hok])
                  have kvE := kv.keep hbE
                  have hwv : IntKind.i64.wrap (c + vx) = c + vx := IntWalk.i64_in _ (by omega)
                  have hou := ho.lt
                  have huu := hu.lt
                  clear HTS hok
                  go_wp2_with fail
                  refine wp_region_sched 19 [0, 1, 2, 3, 4, 7, 8, 9, 10, 11, 12, 13, 14, 17, 18] (fun W => Blk W (w.heap.size + 1 + 1 + 1 + 1) [.int .i64 vx, .int .i64 vy] ∧ W.cell? ⟨b1, o1 + k, none⟩ = some (.int .i64 c)) rfl (by kernel_rfl) (by kernel_rfl) ?_
                  have kv0 : Blk wr.drew (w.heap.size + 1 + 1 + 1 + 1) [.int .i64 vx, .int .i64 vy] := kvE.drew
                  have q0 : wr.drew.cell? ⟨b1, o1 + k, none⟩ = some (.int .i64 c) := q0
                  have ho0 : wr.drew.ownsRow wE.heap.size 3 1 u20 T.length (T.map (Value.int .i64)) := ho
                  have hu0 : wr.drew.ownsRow wE.heap.size 3 1 u18 T.length ((T.map (· + vx)).map (Value.int .i64)) := hu
                  have hb0 : Below wE.heap.size wE wr.drew := hbE.drew
                  have hz0 : wr.heap.size ≤ wr.drew.heap.size := Nat.le_refl _
                  have hnb : ∀ x, x < wE.heap.size → some x ≠ u20.ownBlock := fun x hx e => by have := (hou x e.symm).1; omega
                  have hnb2 : ∀ x, x < wE.heap.size → some x ≠ u18.ownBlock := fun x hx e => by have := (huu x e.symm).1; omega
                  have hvbE : (w.heap.size + 1 + 1 + 1 + 1) < wE.heap.size := kv.lt
                  generalize wr.drew = w0 at *
                  (refine sched_light 0 _ ?_ (by kernel_rfl) (by kernel_rfl) rfl rfl ?_ ⟨kv0, q0⟩ ?_; rotate_left; · (intro w' hS; (try dsimp only at hS); go_simp; with_reducible rfl)); try simp only [Act.put, List.setIfInBounds_toArray, List.set_cons_zero, List.set_cons_succ]
                  (refine sched_light 1 _ ?_ (by kernel_rfl) (by kernel_rfl) rfl rfl ?_ ⟨kv0, q0⟩ ?_; rotate_left; · (intro w' hS; (try dsimp only at hS); go_simp; with_reducible rfl)); try simp only [Act.put, List.setIfInBounds_toArray, List.set_cons_zero, List.set_cons_succ]
                  (refine sched_light 2 _ ?_ (by kernel_rfl) (by kernel_rfl) rfl rfl ?_ ⟨kv0, q0⟩ ?_; rotate_left; · (intro w' hS; (try dsimp only at hS); go_simp; with_reducible rfl)); try simp only [Act.put, List.setIfInBounds_toArray, List.set_cons_zero, List.set_cons_succ]
                  (refine sched_light 3 _ ?_ (by kernel_rfl) (by kernel_rfl) rfl rfl ?_ ⟨kv0, q0⟩ ?_; rotate_left; · (intro w' hS; (try dsimp only at hS); go_simp; with_reducible rfl)); try simp only [Act.put, List.setIfInBounds_toArray, List.set_cons_zero, List.set_cons_succ]
                  refine sched_light 4 _ (.int .i64 c) (by kernel_rfl) (by kernel_rfl) rfl rfl ?_ ⟨kv0, q0⟩ ?_
                  · intro w' hS
                    have c0 := hS.2
                    go_simp
                  try simp only [Act.put, List.setIfInBounds_toArray, List.set_cons_zero, List.set_cons_succ]
                  (refine sched_light 7 _ ?_ (by kernel_rfl) (by kernel_rfl) rfl rfl ?_ ⟨kv0, q0⟩ ?_; rotate_left; · (intro w' hS; (try dsimp only at hS); go_simp; with_reducible rfl)); try simp only [Act.put, List.setIfInBounds_toArray, List.set_cons_zero, List.set_cons_succ]
                  (refine sched_light 8 _ ?_ (by kernel_rfl) (by kernel_rfl) rfl rfl ?_ ⟨kv0, q0⟩ ?_; rotate_left; · (intro w' hS; (try dsimp only at hS); go_simp; with_reducible rfl)); try simp only [Act.put, List.setIfInBounds_toArray, List.set_cons_zero, List.set_cons_succ]
                  (refine sched_light 9 _ ?_ (by kernel_rfl) (by kernel_rfl) rfl rfl ?_ ⟨kv0, q0⟩ ?_; rotate_left; · (intro w' hS; (try dsimp only at hS); go_simp; with_reducible rfl)); try simp only [Act.put, List.setIfInBounds_toArray, List.set_cons_zero, List.set_cons_succ]
                  (refine sched_light 10 _ ?_ (by kernel_rfl) (by kernel_rfl) rfl rfl ?_ ⟨kv0, q0⟩ ?_; rotate_left; · (intro w' hS; (try dsimp only at hS); go_simp; with_reducible rfl)); try simp only [Act.put, List.setIfInBounds_toArray, List.set_cons_zero, List.set_cons_succ]
                  refine sched_light 11 _ (.int .i64 c) (by kernel_rfl) (by kernel_rfl) rfl rfl ?_ ⟨kv0, q0⟩ ?_
                  · intro w' hS
                    have c0 := hS.2
                    go_simp
                  try simp only [Act.put, List.setIfInBounds_toArray, List.set_cons_zero, List.set_cons_succ]
                  (refine sched_light 12 _ ?_ (by kernel_rfl) (by kernel_rfl) rfl rfl ?_ ⟨kv0, q0⟩ ?_; rotate_left; · (intro w' hS; (try dsimp only at hS); go_simp; with_reducible rfl)); try simp only [Act.put, List.setIfInBounds_toArray, List.set_cons_zero, List.set_cons_succ]
                  refine sched_light 13 _ (.int .i64 vx) (by kernel_rfl) (by kernel_rfl) rfl rfl ?_ ⟨kv0, q0⟩ ?_
                  · intro w' hS
                    have c0 := hS.1.cell 0 rfl
                    go_simp
                  try simp only [Act.put, List.setIfInBounds_toArray, List.set_cons_zero, List.set_cons_succ]
                  (refine sched_light 14 _ ?_ (by kernel_rfl) (by kernel_rfl) rfl rfl ?_ ⟨kv0, q0⟩ ?_; rotate_left; · (intro w' hS; (try dsimp only at hS); go_simp; with_reducible rfl)); try simp only [Act.put, List.setIfInBounds_toArray, List.set_cons_zero, List.set_cons_succ]
                  refine sched_fork [5, 15] (by kernel_rfl) (by kernel_rfl) (by decide) ?_
                  intro i hi
                  simp only [List.mem_cons, List.not_mem_nil, or_false] at hi
                  rcases hi with rfl | rfl
                  ·
                    refine sched_heavy 5 _ rfl rfl (fun K hK => ?_)
                    go_step
                    have kv1 := kv0.alloc (.cells #[.int .i64 c] 3)
                    have q1 : (w0.alloc (.cells #[.int .i64 c] 3)).cell? ⟨b1, o1 + k, none⟩ = some (.int .i64 c) := ((Below.new w0 (.cells #[.int .i64 c] 3)).cell (p := ⟨b1, o1 + k, none⟩) (by show b1 < _; omega)).trans q0
                    have ho1 := World.ownsRow.below ho0 (Below.new w0 (.cells #[.int .i64 c] 3))
                    have hu1 := World.ownsRow.below hu0 (Below.new w0 (.cells #[.int .i64 c] 3))
                    have hb1 := hb0.alloc hb0.size (.cells #[.int .i64 c] 3)
                    have rd1a := Rd.lit w0 w0.heap.size [.int .i64 c] 3 rfl
                    have hz1 : wr.heap.size ≤ (w0.alloc (.cells #[.int .i64 c] 3)).heap.size := by simp; omega
                    refine hK.out _ _ ⟨kv1, q1⟩ ?_
                    clear hK K
                    generalize w0.alloc (.cells #[.int .i64 c] 3) = w1 at *
                    try simp only [Act.put, List.setIfInBounds_toArray, List.set_cons_zero, List.set_cons_succ]
                    refine sched_fork [6, 15] (by kernel_rfl) (by kernel_rfl) (by decide) ?_
                    intro i hi
                    simp only [List.mem_cons, List.not_mem_nil, or_false] at hi
                    rcases hi with rfl | rfl
                    ·
                      refine sched_heavy 6 _ rfl rfl (fun K hK => ?_)
                      refine wp_app_at (.tmp 116) (.tmp 121) 24 rfl wE.heap.size 3 (.int .i64 0) 1 8 Try.underlying24 Try.infoI rfl (by decide) u20 T.length (T.map (Value.int .i64)) rfl ho1 ⟨w0.heap.size, 0, none⟩ 1 1 [.int .i64 c] rfl rd1a rfl (by simp [Value.oneCell']) (by omega) (by decide) hb1.size ?_
                      intro v2 w2 ho2 hg hloc
                      have hz2 : wr.heap.size ≤ w2.heap.size := Nat.le_trans hz1 hg.size
                      have kv2 := kv1.grown hg (hnb _ hvbE)
                      have q2 := hg.cell q1 (hnb _ hb1E)
                      have hb2 := hb1.grown hg hb1.size (fun x hx => (hou x hx).1)
                      have hu2 := hu1.kept hg hdj.kept
                      have hdj2 : Disj v2 u18 := hdj.left hloc (fun x hx => by have := (huu x hx).2; omega)
                      refine hK.out _ _ ⟨kv2, q2⟩ ?_
                      clear hK K hg hloc
                      try simp only [Act.put, List.setIfInBounds_toArray, List.set_cons_zero, List.set_cons_succ]
                      refine sched_fork [15] (by kernel_rfl) (by kernel_rfl) (by decide) ?_
                      intro i hi
                      simp only [List.mem_cons, List.not_mem_nil, or_false] at hi
                      subst hi
                      refine sched_heavy 15 _ rfl rfl (fun K hK => ?_)
                      go_step
                      have kv3 := kv2.alloc (.cells #[.int .i64 (c + vx)] 3)
                      have q3 : (w2.alloc (.cells #[.int .i64 (c + vx)] 3)).cell? ⟨b1, o1 + k, none⟩ = some (.int .i64 c) := ((Below.new w2 (.cells #[.int .i64 (c + vx)] 3)).cell (p := ⟨b1, o1 + k, none⟩) (by show b1 < _; omega)).trans q2
                      have ho3 := World.ownsRow.below ho2 (Below.new w2 (.cells #[.int .i64 (c + vx)] 3))
                      have hu3 := World.ownsRow.below hu2 (Below.new w2 (.cells #[.int .i64 (c + vx)] 3))
                      have hb3 := hb2.alloc hb2.size (.cells #[.int .i64 (c + vx)] 3)
                      have rd3b := Rd.lit w2 w2.heap.size [.int .i64 (c + vx)] 3 rfl
                      have hz3 : wr.heap.size ≤ (w2.alloc (.cells #[.int .i64 (c + vx)] 3)).heap.size := by simp; omega
                      refine hK.out _ _ ⟨kv3, q3⟩ ?_
                      clear hK K
                      generalize w2.alloc (.cells #[.int .i64 (c + vx)] 3) = w3 at *
                      try simp only [Act.put, List.setIfInBounds_toArray, List.set_cons_zero, List.set_cons_succ]
                      refine sched_fork [16] (by kernel_rfl) (by kernel_rfl) (by decide) ?_
                      intro i hi
                      simp only [List.mem_cons, List.not_mem_nil, or_false] at hi
                      subst hi
                      refine sched_heavy 16 _ rfl rfl (fun K hK => ?_)
                      refine wp_app_at (.tmp 123) (.tmp 131) 24 rfl wE.heap.size 3 (.int .i64 0) 1 8 Try.underlying24 Try.infoI rfl (by decide) u18 T.length ((T.map (· + vx)).map (Value.int .i64)) rfl hu3 ⟨w2.heap.size, 0, none⟩ 1 1 [.int .i64 (c + vx)] rfl rd3b rfl (by simp [Value.oneCell']) (by omega) (by decide) hb3.size ?_
                      intro v4 w4 hu4 hg hloc
                      have hz4 : wr.heap.size ≤ w4.heap.size := Nat.le_trans hz3 hg.size
                      have kv4 := kv3.grown hg (hnb2 _ hvbE)
                      have q4 := hg.cell q3 (hnb2 _ hb1E)
                      have hb4 := hb3.grown hg hb3.size (fun x hx => (huu x hx).1)
                      have hov := ho3.lt
                      have ho4 := ho3.kept hg hdj2.symm.kept
                      have hdj3 : Disj v2 v4 := (hdj2.symm.left hloc (fun x hx => (hov x hx).2)).symm
                      refine hK.out _ _ ⟨kv4, q4⟩ ?_
                      clear hK K hg hloc
                      try simp only [Act.put, List.setIfInBounds_toArray, List.set_cons_zero, List.set_cons_succ]
                      (refine sched_light 17 _ ?_ (by kernel_rfl) (by kernel_rfl) rfl rfl ?_ ⟨kv4, q4⟩ ?_; rotate_left; · (intro w' hS; (try dsimp only at hS); go_simp; with_reducible rfl)); try simp only [Act.put, List.setIfInBounds_toArray, List.set_cons_zero, List.set_cons_succ]
                      (refine sched_light 18 _ ?_ (by kernel_rfl) (by kernel_rfl) rfl rfl ?_ ⟨kv4, q4⟩ ?_; rotate_left; · (intro w' hS; (try dsimp only at hS); go_simp; with_reducible rfl)); try simp only [Act.put, List.setIfInBounds_toArray, List.set_cons_zero, List.set_cons_succ]
                      refine sched_end (by kernel_rfl) ?_
                      have e1 : (T ++ [c]).map (Value.int .i64) = T.map (Value.int .i64) ++ [.int .i64 c] := by simp
                      have e2 : ((T ++ [c]).map (· + vx)).map (Value.int .i64) = (T.map (· + vx)).map (Value.int .i64) ++ [.int .i64 (c + vx)] := by simp
                      have hbF := hb4
                      have hoF := ho4
                      have huF := hu4
                      clear kv0 q0 ho0 hu0 hb0 kv1 q1 ho1 hu1 hb1 kv2 q2 ho2 hu2 hb2 kv3 q3 ho3 hu3 hb3 kv4 q4 ho4 hu4 hb4
                      have HREL : Hid (∃ (k' : Nat) (T' : List Int), k' ≤ XS.length ∧ k' ≤ 20 ∧ Value.int .i64 ((k : Int) + 1) = .int .i64 (k' : Int) ∧ Hid (T' = (XS.take k').filter okN) ∧ T'.length ≤ k' ∧ w4.ownsRow wE.heap.size 3 1 v2 T'.length (T'.map (Value.int .i64)) ∧ w4.ownsRow wE.heap.size 3 1 v4 T'.length ((T'.map (· + vx)).map (Value.int .i64)) ∧ Disj v2 v4 ∧ Below wE.heap.size wE w4) := Lib.hid ⟨k + 1, T ++ [c], by omega, by omega, by first | rfl | go_num, HTS2, by simp; omega, by rw [e1, List.length_append]; exact hoF, by rw [e2, List.length_append]; exact huF, hdj3, hbF⟩
                      clear e1 e2 hoF huF hbF hdj3
                      go_wp2
                      first
                      | exact ⟨HREL, by simp [intOf]; omega⟩
                      | exact ⟨⟨_, _, _, HREL, rfl, rfl, rfl⟩, by simp [intOf]; omega⟩
                      | (go_roundw
                         case rel => repeat' (first | exact ⟨HREL, rfl⟩ | apply Exists.intro)
                         case measure => simp [intOf]; omega)
                    ·
                      refine sched_heavy 15 _ rfl rfl (fun K hK => ?_)
                      go_step
                      have kv2 := kv1.alloc (.cells #[.int .i64 (c + vx)] 3)
                      have q2 : (w1.alloc (.cells #[.int .i64 (c + vx)] 3)).cell? ⟨b1, o1 + k, none⟩ = some (.int .i64 c) := ((Below.new w1 (.cells #[.int .i64 (c + vx)] 3)).cell (p := ⟨b1, o1 + k, none⟩) (by show b1 < _; omega)).trans q1
                      have ho2 := World.ownsRow.below ho1 (Below.new w1 (.cells #[.int .i64 (c + vx)] 3))
                      have hu2 := World.ownsRow.below hu1 (Below.new w1 (.cells #[.int .i64 (c + vx)] 3))
                      have hb2 := hb1.alloc hb1.size (.cells #[.int .i64 (c + vx)] 3)
                      have rd2b := Rd.lit w1 w1.heap.size [.int .i64 (c + vx)] 3 rfl
                      have hz2 : wr.heap.size ≤ (w1.alloc (.cells #[.int .i64 (c + vx)] 3)).heap.size := by simp; omega
                      have rd2a := rd1a.alloc (.cells #[.int .i64 (c + vx)] 3)
                      refine hK.out _ _ ⟨kv2, q2⟩ ?_
                      clear hK K
                      generalize w1.alloc (.cells #[.int .i64 (c + vx)] 3) = w2 at *
                      try simp only [Act.put, List.setIfInBounds_toArray, List.set_cons_zero, List.set_cons_succ]
                      refine sched_fork [6] (by kernel_rfl) (by kernel_rfl) (by decide) ?_
                      intro i hi
                      simp only [List.mem_cons, List.not_mem_nil, or_false] at hi
                      subst hi
                      refine sched_heavy 6 _ rfl rfl (fun K hK => ?_)
                      refine wp_app_at (.tmp 116) (.tmp 121) 24 rfl wE.heap.size 3 (.int .i64 0) 1 8 Try.underlying24 Try.infoI rfl (by decide) u20 T.length (T.map (Value.int .i64)) rfl ho2 ⟨w0.heap.size, 0, none⟩ 1 1 [.int .i64 c] rfl rd2a rfl (by simp [Value.oneCell']) (by omega) (by decide) hb2.size ?_
                      intro v3 w3 ho3 hg hloc
                      have hz3 : wr.heap.size ≤ w3.heap.size := Nat.le_trans hz2 hg.size
                      have kv3 := kv2.grown hg (hnb _ hvbE)
                      have q3 := hg.cell q2 (hnb _ hb1E)
                      have hb3 := hb2.grown hg hb2.size (fun x hx => (hou x hx).1)
                      have hu3 := hu2.kept hg hdj.kept
                      have hdj2 : Disj v3 u18 := hdj.left hloc (fun x hx => by have := (huu x hx).2; omega)
                      have rd3b := rd2b.grown hg (fun x hx => by simp at hx; subst hx; intro e; have := (hou _ e.symm).2; omega)
                      refine hK.out _ _ ⟨kv3, q3⟩ ?_
                      clear hK K hg hloc
                      try simp only [Act.put, List.setIfInBounds_toArray, List.set_cons_zero, List.set_cons_succ]
                      refine sched_fork [16] (by kernel_rfl) (by kernel_rfl) (by decide) ?_
                      intro i hi
                      simp only [List.mem_cons, List.not_mem_nil, or_false] at hi
                      subst hi
                      refine sched_heavy 16 _ rfl rfl (fun K hK => ?_)
                      refine wp_app_at (.tmp 123) (.tmp 131) 24 rfl wE.heap.size 3 (.int .i64 0) 1 8 Try.underlying24 Try.infoI rfl (by decide) u18 T.length ((T.map (· + vx)).map (Value.int .i64)) rfl hu3 ⟨w1.heap.size, 0, none⟩ 1 1 [.int .i64 (c + vx)] rfl rd3b rfl (by simp [Value.oneCell']) (by omega) (by decide) hb3.size ?_
                      intro v4 w4 hu4 hg hloc
                      have hz4 : wr.heap.size ≤ w4.heap.size := Nat.le_trans hz3 hg.size
                      have kv4 := kv3.grown hg (hnb2 _ hvbE)
                      have q4 := hg.cell q3 (hnb2 _ hb1E)
                      have hb4 := hb3.grown hg hb3.size (fun x hx => (huu x hx).1)
                      have hov := ho3.lt
                      have ho4 := ho3.kept hg hdj2.symm.kept
                      have hdj3 : Disj v3 v4 := (hdj2.symm.left hloc (fun x hx => (hov x hx).2)).symm
                      refine hK.out _ _ ⟨kv4, q4⟩ ?_
                      clear hK K hg hloc
                      try simp only [Act.put, List.setIfInBounds_toArray, List.set_cons_zero, List.set_cons_succ]
                      (refine sched_light 17 _ ?_ (by kernel_rfl) (by kernel_rfl) rfl rfl ?_ ⟨kv4, q4⟩ ?_; rotate_left; · (intro w' hS; (try dsimp only at hS); go_simp; with_reducible rfl)); try simp only [Act.put, List.setIfInBounds_toArray, List.set_cons_zero, List.set_cons_succ]
                      (refine sched_light 18 _ ?_ (by kernel_rfl) (by kernel_rfl) rfl rfl ?_ ⟨kv4, q4⟩ ?_; rotate_left; · (intro w' hS; (try dsimp only at hS); go_simp; with_reducible rfl)); try simp only [Act.put, List.setIfInBounds_toArray, List.set_cons_zero, List.set_cons_succ]
                      refine sched_end (by kernel_rfl) ?_
                      have e1 : (T ++ [c]).map (Value.int .i64) = T.map (Value.int .i64) ++ [.int .i64 c] := by simp
                      have e2 : ((T ++ [c]).map (· + vx)).map (Value.int .i64) = (T.map (· + vx)).map (Value.int .i64) ++ [.int .i64 (c + vx)] := by simp
                      have hbF := hb4
                      have hoF := ho4
                      have huF := hu4
                      clear kv0 q0 ho0 hu0 hb0 kv1 q1 ho1 hu1 hb1 kv2 q2 ho2 hu2 hb2 kv3 q3 ho3 hu3 hb3 kv4 q4 ho4 hu4 hb4
                      have HREL : Hid (∃ (k' : Nat) (T' : List Int), k' ≤ XS.length ∧ k' ≤ 20 ∧ Value.int .i64 ((k : Int) + 1) = .int .i64 (k' : Int) ∧ Hid (T' = (XS.take k').filter okN) ∧ T'.length ≤ k' ∧ w4.ownsRow wE.heap.size 3 1 v3 T'.length (T'.map (Value.int .i64)) ∧ w4.ownsRow wE.heap.size 3 1 v4 T'.length ((T'.map (· + vx)).map (Value.int .i64)) ∧ Disj v3 v4 ∧ Below wE.heap.size wE w4) := Lib.hid ⟨k + 1, T ++ [c], by omega, by omega, by first | rfl | go_num, HTS2, by simp; omega, by rw [e1, List.length_append]; exact hoF, by rw [e2, List.length_append]; exact huF, hdj3, hbF⟩
                      clear e1 e2 hoF huF hbF hdj3
                      go_wp2
                      first
                      | exact ⟨HREL, by simp [intOf]; omega⟩
                      | exact ⟨⟨_, _, _, HREL, rfl, rfl, rfl⟩, by simp [intOf]; omega⟩
                      | (go_roundw
                         case rel => repeat' (first | exact ⟨HREL, rfl⟩ | apply Exists.intro)
                         case measure => simp [intOf]; omega)
                  ·
                    refine sched_heavy 15 _ rfl rfl (fun K hK => ?_)
                    go_step
                    have kv1 := kv0.alloc (.cells #[.int .i64 (c + vx)] 3)
                    have q1 : (w0.alloc (.cells #[.int .i64 (c + vx)] 3)).cell? ⟨b1, o1 + k, none⟩ = some (.int .i64 c) := ((Below.new w0 (.cells #[.int .i64 (c + vx)] 3)).cell (p := ⟨b1, o1 + k, none⟩) (by show b1 < _; omega)).trans q0
                    have ho1 := World.ownsRow.below ho0 (Below.new w0 (.cells #[.int .i64 (c + vx)] 3))
                    have hu1 := World.ownsRow.below hu0 (Below.new w0 (.cells #[.int .i64 (c + vx)] 3))
                    have hb1 := hb0.alloc hb0.size (.cells #[.int .i64 (c + vx)] 3)
                    have rd1b := Rd.lit w0 w0.heap.size [.int .i64 (c + vx)] 3 rfl
                    have hz1 : wr.heap.size ≤ (w0.alloc (.cells #[.int .i64 (c + vx)] 3)).heap.size := by simp; omega
                    refine hK.out _ _ ⟨kv1, q1⟩ ?_
                    clear hK K
                    generalize w0.alloc (.cells #[.int .i64 (c + vx)] 3) = w1 at *
                    try simp only [Act.put, List.setIfInBounds_toArray, List.set_cons_zero, List.set_cons_succ]
                    refine sched_fork [5] (by kernel_rfl) (by kernel_rfl) (by decide) ?_
                    intro i hi
                    simp only [List.mem_cons, List.not_mem_nil, or_false] at hi
                    subst hi
                    refine sched_heavy 5 _ rfl rfl (fun K hK => ?_)
                    go_step
                    have kv2 := kv1.alloc (.cells #[.int .i64 c] 3)
                    have q2 : (w1.alloc (.cells #[.int .i64 c] 3)).cell? ⟨b1, o1 + k, none⟩ = some (.int .i64 c) := ((Below.new w1 (.cells #[.int .i64 c] 3)).cell (p := ⟨b1, o1 + k, none⟩) (by show b1 < _; omega)).trans q1
                    have ho2 := World.ownsRow.below ho1 (Below.new w1 (.cells #[.int .i64 c] 3))
                    have hu2 := World.ownsRow.below hu1 (Below.new w1 (.cells #[.int .i64 c] 3))
                    have hb2 := hb1.alloc hb1.size (.cells #[.int .i64 c] 3)
                    have rd2a := Rd.lit w1 w1.heap.size [.int .i64 c] 3 rfl
                    have hz2 : wr.heap.size ≤ (w1.alloc (.cells #[.int .i64 c] 3)).heap.size := by simp; omega
                    have rd2b := rd1b.alloc (.cells #[.int .i64 c] 3)
                    refine hK.out _ _ ⟨kv2, q2⟩ ?_
                    clear hK K
                    generalize w1.alloc (.cells #[.int .i64 c] 3) = w2 at *
                    try simp only [Act.put, List.setIfInBounds_toArray, List.set_cons_zero, List.set_cons_succ]
                    refine sched_fork [6] (by kernel_rfl) (by kernel_rfl) (by decide) ?_
                    intro i hi
                    simp only [List.mem_cons, List.not_mem_nil, or_false] at hi
                    subst hi
                    refine sched_heavy 6 _ rfl rfl (fun K hK => ?_)
                    refine wp_app_at (.tmp 116) (.tmp 121) 24 rfl wE.heap.size 3 (.int .i64 0) 1 8 Try.underlying24 Try.infoI rfl (by decide) u20 T.length (T.map (Value.int .i64)) rfl ho2 ⟨w1.heap.size, 0, none⟩ 1 1 [.int .i64 c] rfl rd2a rfl (by simp [Value.oneCell']) (by omega) (by decide) hb2.size ?_
                    intro v3 w3 ho3 hg hloc
                    have hz3 : wr.heap.size ≤ w3.heap.size := Nat.le_trans hz2 hg.size
                    have kv3 := kv2.grown hg (hnb _ hvbE)
                    have q3 := hg.cell q2 (hnb _ hb1E)
                    have hb3 := hb2.grown hg hb2.size (fun x hx => (hou x hx).1)
                    have hu3 := hu2.kept hg hdj.kept
                    have hdj2 : Disj v3 u18 := hdj.left hloc (fun x hx => by have := (huu x hx).2; omega)
                    have rd3b := rd2b.grown hg (fun x hx => by simp at hx; subst hx; intro e; have := (hou _ e.symm).2; omega)
                    refine hK.out _ _ ⟨kv3, q3⟩ ?_
                    clear hK K hg hloc
                    try simp only [Act.put, List.setIfInBounds_toArray, List.set_cons_zero, List.set_cons_succ]
                    refine sched_fork [16] (by kernel_rfl) (by kernel_rfl) (by decide) ?_
                    intro i hi
                    simp only [List.mem_cons, List.not_mem_nil, or_false] at hi
                    subst hi
                    refine sched_heavy 16 _ rfl rfl (fun K hK => ?_)
                    refine wp_app_at (.tmp 123) (.tmp 131) 24 rfl wE.heap.size 3 (.int .i64 0) 1 8 Try.underlying24 Try.infoI rfl (by decide) u18 T.length ((T.map (· + vx)).map (Value.int .i64)) rfl hu3 ⟨w0.heap.size, 0, none⟩ 1 1 [.int .i64 (c + vx)] rfl rd3b rfl (by simp [Value.oneCell']) (by omega) (by decide) hb3.size ?_
                    intro v4 w4 hu4 hg hloc
                    have hz4 : wr.heap.size ≤ w4.heap.size := Nat.le_trans hz3 hg.size
                    have kv4 := kv3.grown hg (hnb2 _ hvbE)
                    have q4 := hg.cell q3 (hnb2 _ hb1E)
                    have hb4 := hb3.grown hg hb3.size (fun x hx => (huu x hx).1)
                    have hov := ho3.lt
                    have ho4 := ho3.kept hg hdj2.symm.kept
                    have hdj3 : Disj v3 v4 := (hdj2.symm.left hloc (fun x hx => (hov x hx).2)).symm
                    refine hK.out _ _ ⟨kv4, q4⟩ ?_
                    clear hK K hg hloc
                    try simp only [Act.put, List.setIfInBounds_toArray, List.set_cons_zero, List.set_cons_succ]
                    (refine sched_light 17 _ ?_ (by kernel_rfl) (by kernel_rfl) rfl rfl ?_ ⟨kv4, q4⟩ ?_; rotate_left; · (intro w' hS; (try dsimp only at hS); go_simp; with_reducible rfl)); try simp only [Act.put, List.setIfInBounds_toArray, List.set_cons_zero, List.set_cons_succ]
                    (refine sched_light 18 _ ?_ (by kernel_rfl) (by kernel_rfl) rfl rfl ?_ ⟨kv4, q4⟩ ?_; rotate_left; · (intro w' hS; (try dsimp only at hS); go_simp; with_reducible rfl)); try simp only [Act.put, List.setIfInBounds_toArray, List.set_cons_zero, List.set_cons_succ]
                    refine sched_end (by kernel_rfl) ?_
                    have e1 : (T ++ [c]).map (Value.int .i64) = T.map (Value.int .i64) ++ [.int .i64 c] := by simp
                    have e2 : ((T ++ [c]).map (· + vx)).map (Value.int .i64) = (T.map (· + vx)).map (Value.int .i64) ++ [.int .i64 (c + vx)] := by simp
                    have hbF := hb4
                    have hoF := ho4
                    have huF := hu4
                    clear kv0 q0 ho0 hu0 hb0 kv1 q1 ho1 hu1 hb1 kv2 q2 ho2 hu2 hb2 kv3 q3 ho3 hu3 hb3 kv4 q4 ho4 hu4 hb4
                    have HREL : Hid (∃ (k' : Nat) (T' : List Int), k' ≤ XS.length ∧ k' ≤ 20 ∧ Value.int .i64 ((k : Int) + 1) = .int .i64 (k' : Int) ∧ Hid (T' = (XS.take k').filter okN) ∧ T'.length ≤ k' ∧ w4.ownsRow wE.heap.size 3 1 v3 T'.length (T'.map (Value.int .i64)) ∧ w4.ownsRow wE.heap.size 3 1 v4 T'.length ((T'.map (· + vx)).map (Value.int .i64)) ∧ Disj v3 v4 ∧ Below wE.heap.size wE w4) := Lib.hid ⟨k + 1, T ++ [c], by omega, by omega, by first | rfl | go_num, HTS2, by simp; omega, by rw [e1, List.length_append]; exact hoF, by rw [e2, List.length_append]; exact huF, hdj3, hbF⟩
                    clear e1 e2 hoF huF hbF hdj3
                    go_wp2
                    first
                    | exact ⟨HREL, by simp [intOf]; omega⟩
                    | exact ⟨⟨_, _, _, HREL, rfl, rfl, rfl⟩, by simp [intOf]; omega⟩
                    | (go_roundw
                       case rel => repeat' (first | exact ⟨HREL, rfl⟩ | apply Exists.intro)
                       case measure => simp [intOf]; omega)
                ·
                  have hok : ¬ okN c = true := by unfold okN; simp; omega
                  have HTS2 : Hid (T = (XS.take (k + 1)).filter okN) := Lib.hid (by rw [HTS.out, if_neg hok, List.append_nil])
                  clear HTS hok
                  go_wp2
                  exact ⟨Lib.hid ⟨k + 1, T, by omega, by omega, by first | rfl | go_num, HTS2, by omega, ho, hu, hdj, hbE⟩, by simp [intOf]; omega⟩
              ·
                have hok : ¬ okN c = true := by unfold okN; simp; omega
                have HTS2 : Hid (T = (XS.take (k + 1)).filter okN) := Lib.hid (by rw [HTS.out, if_neg hok, List.append_nil])
                clear HTS hok
                go_wp2
                exact ⟨Lib.hid ⟨k + 1, T, by omega, by omega, by first | rfl | go_num, HTS2, by omega, ho, hu, hdj, hbE⟩, by simp [intOf]; omega⟩
            · have hTT : T = (XS.take 20).filter okN := by
                rw [HT.out]
                congr 1
                by_cases h : k = 20
                · rw [h]
                · rw [show k = XS.length by omega, List.take_length, List.take_of_length_le (by omega)]
              clear HT
              have hT20 : T.length ≤ 20 := by omega
              have HT1 := Lib.hid hTT
              clear hTT
              by_cases hkl : k < XS.length
              ·
                have hk20 : k = 20 := by omega
                subst hk20
                have hkl' : (20 : Int) < (XS.length : Int) := by omega
                go_wp2
                exact main3 hT20 HT1 ho hu hbE
              ·
                have hkl' : ¬ (k : Int) < (XS.length : Int) := by omega
                go_wp2
                exact main3 hT20 HT1 ho hu hbE

theorem smoves_law {w : World} (a : Pt) (_ : PtIn a) (b : Pt) (_ : PtIn b) (c : Pt) (_ : PtIn c) (d : Pt) (_ : PtIn d) (v : Pt) (_ : PtIn v) (xa : Option Addr) (xc : Nat) (X : List Int) (hxl : X.length ≤ xc) (hxm : xc ≤ maxLen) (_ : xa = none → xc = 0) (hxr : Rd w xa (X.map (Value.int .i64))) (_ : ∀ n ∈ X, (Lit.int .i64 n).wf = true)
    (ya : Option Addr) (yc : Nat) (Y : List Int) (hyl : Y.length ≤ yc) (hym : yc ≤ maxLen) (_ : ya = none → yc = 0) (hyr : Rd w ya (Y.map (Value.int .i64))) (_ : ∀ n ∈ Y, (Lit.int .i64 n).wf = true) :
    Calls Try.prog 5 #[a.val, b.val, c.val, d.val, v.val, .slice xa X.length xc, .slice ya Y.length yc] w fun e w' => e = .returned (.bool true) ∧ Below w.heap.size w w' :=
  smoves_walk a b c d v xa ya xc yc X Y (by omega) (by omega) w hxr hyr
end Go.Proofs.Ytmnekbnhodadcaa
