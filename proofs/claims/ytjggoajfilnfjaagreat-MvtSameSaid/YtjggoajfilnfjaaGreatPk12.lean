/-
  geom.Numbers. geom's reader: take, by, point, command, where nothing is wrong. Faces in memory: attributes, rings, faces; what keeps them.
-/
import Derived.Test.YtjggoajfilnfjaaGreatPk11
import Derived.Test.YtjggoajfilnfjaaGreatPk5
import Derived.Test.YtjggoajfilnfjaaGreatPk9
import Derived.Test.YtjggoajfilnfjaaGreatPk6
import Derived.RangeFuncBox
/- geom.Numbers. -/
set_option linter.unusedVariables false
set_option linter.unusedSimpArgs false
set_option maxRecDepth 100000
namespace Go
open Go.RowKit Go.Vint
def pn (a : Pt) : List Pt → List Int
  | [] => []
  | p :: l => byN a p ++ pn p l
def partN (kind : Int) (a : Pt) (l : List Pt) : List Int :=
  [(9 : Int)] ++ byN a l[0]! ++ [((l.length : Int) - 1) * 8 + 2] ++ pn l[0]! (l.drop 1) ++ (if kind = 3 then [15] else [])
def numsF (kind : Int) (a : Pt) : List (List Pt) → List Int
  | [] => []
  | l :: t => partN kind a l ++ numsF kind l[l.length - 1]! t

theorem pn_len (l : List Pt) : ∀ a, (pn a l).length = 2 * l.length := by
  induction l with
  | nil => intro a; rfl
  | cons p l ih => intro a; rw [pn, List.length_append, ih p]; simp [byN]; omega
theorem partN_len (kind : Int) (a : Pt) (l : List Pt) (h : 1 ≤ l.length) : (partN kind a l).length ≤ 2 * l.length + 3 := by
  unfold partN; simp only [List.length_append, pn_len, List.length_drop]
  split <;> simp [byN] <;> omega

theorem partE_zero {kind : Int} {first : Bool} {l : List Pt} (hk : kind = 2 ∨ kind = 3) (h : partE kind first l = 0) : 2 ≤ l.length ∧ ∀ p ∈ l, Close p := by
  unfold partE at h
  split at h
  · simp at h
  · rename_i h1
    split at h
    · simp at h
    · rename_i h2; refine ⟨by omega, fun p hp => ?_⟩; have : l.all near = true := by simpa using h1
      have := List.all_eq_true.1 this p hp
      simpa [near, Close] using this

theorem chk_zero {kind : Int} (hk : kind = 2 ∨ kind = 3) (G : List (List Pt)) : ∀ first, chk kind first G = 0 → ∀ l ∈ G, 2 ≤ l.length ∧ ∀ p ∈ l, Close p := by
  induction G with
  | nil => intro _ _ l hl; simp at hl
  | cons l0 t ih =>
    intro first h l hl; rw [chk] at h
    by_cases hp : partE kind first l0 = 0
    · rw [if_neg (by simpa using hp)] at h
      rcases List.mem_cons.1 hl with rfl | hl
      · exact partE_zero hk hp
      · exact ih _ h l hl
    · rw [if_pos hp] at h; exact absurd h hp

theorem checkE_zero {kind : Int} {G : List (List Pt)} (h : checkE kind G = 0) : (kind = 2 ∨ kind = 3) ∧ 1 ≤ G.length ∧ ∀ l ∈ G, 2 ≤ l.length ∧ ∀ p ∈ l, Close p := by
  unfold checkE at h
  split at h
  · simp at h
  · split at h
    · simp at h
    · have hk : kind = 2 ∨ kind = 3 := by omega
      exact ⟨hk, by omega, chk_zero hk G true h⟩

theorem Num.keep {e : TypeId} {base B1 B2 : Nat} {W W' : World} {R : List Int} {at' : Pt} (h : Num e base B1 B2 W R at') (hb : Below W.heap.size W W') : Num e base B1 B2 W' R at' := by
  obtain ⟨v, h1, h2, h3, h4⟩ := h; exact ⟨v, h1.keep hb, h2.keep hb, h3.below hb, Nat.le_trans h4 hb.size⟩
theorem Num.app {e : TypeId} {base B1 B2 n0 : Nat} {w wr w2 : World} {S : List Int} {at' : Pt} {v v2 : Value} {n : Int} (b1 : Blk wr B1 [v]) (b2 : Blk wr B2 at'.cells) (hown : wr.ownsRow base e 1 v S.length (S.map (Value.int .u64))) (hbs : base ≤ wr.heap.size)
    (h1 : B1 < base) (h2 : B2 < base) (hne : B1 ≠ B2) (hn1 : n0 ≤ B1) (hbl : Below n0 w wr) (hg : (wr.alloc (.cells #[.int .u64 n] e)).grownBy w2 v.ownBlock)
    (hown2 : w2.ownsRow base e 1 v2 (S.length + 1) (S.map (Value.int .u64) ++ [.int .u64 n])) :
    Blk w2 B1 [v] ∧ Num e base B1 B2 (w2.setCell ⟨B1, 0, none⟩ v2) (S ++ [n]) at' ∧ Below n0 w (w2.setCell ⟨B1, 0, none⟩ v2) := by
  have hno : ∀ b, b < base → some b ≠ v.ownBlock := fun b hb e => by have := (hown.lt b e.symm).1; omega
  have y1 := (b1.alloc (.cells #[.int .u64 n] e)).grown hg (hno _ h1); have y2 := (b2.alloc (.cells #[.int .u64 n] e)).grown hg (hno _ h2); have hB := (hbl.alloc (by omega) (.cells #[.int .u64 n] e)).grown hg (by simp; omega) (fun k hk => by have := (hown.lt k hk).1; omega); have hsz : base ≤ w2.heap.size := by have := hg.size; simp at this; omega
  refine ⟨y1, ⟨v2, y1.set 0 v2, y2.set_at (fun e => hne e.symm) v2, ?_, ?_⟩, hB.set_at hn1 v2⟩
  · rw [List.length_append, List.map_append]; refine hown2.set_ne (p := ⟨B1, 0, none⟩) ?_ v2; exact fun h => by have := (hown2.lt _ h).1; simp at this; omega
  · simp [World.setCell]; exact hsz
end Go
namespace Go.Proofs.YtjggoajfilnfjaaGreat
open Go.RowKit Go.Vint

set_option maxHeartbeats 1600000 in
theorem gnums_any (kind : Int) (a : Option Addr) (c : Nat) (xs : List PC) (hl : xs.length ≤ 100) (hle : ∀ x ∈ xs, x.l.length ≤ 1000) (w : World) (hr : Rd w a (xs.map PC.val)) (hok : ∀ x ∈ xs, x.Ok w) (R : List Int)
    (hR : R = (if checkE kind (xs.map (·.l)) = 0 then numsF kind ⟨0, 0⟩ (xs.map (·.l)) else [])) :
    Calls Tryz.prog 101 #[.int .i64 kind, .slice a xs.length c] w fun e w' => ∃ v, e = .returned (.tuple #[v, .int .i64 (checkE kind (xs.map (·.l)))]) ∧
      w'.ownsRow w.heap.size 70 1 v R.length (R.map (Value.int .u64)) ∧ Below w.heap.size w w' := by
  have hc := gcheck_any kind a c xs (by omega) hle w hr hok; have hE : checkE kind (xs.map (·.l)) = 0 → (kind = 2 ∨ kind = 3) ∧ ∀ x ∈ xs, 2 ≤ x.l.length ∧ ∀ p ∈ x.l, Close p := fun h => by
    obtain ⟨h1, h2, h3⟩ := checkE_zero h; exact ⟨h1, fun x hx => h3 x.l (List.mem_map_of_mem hx)⟩
  generalize checkE kind (xs.map (·.l)) = E at *; have HC := Lib.hid hc; have HE := Lib.hid hE
  by_cases hE0 : E = 0
  · subst hE0; rw [if_pos rfl] at hR; obtain ⟨hk, hx⟩ := hE rfl; have HX := Lib.hid hx; have HRR := Lib.hid hR; have HOK := Lib.hid hok; have HLE := Lib.hid hle; clear HE hx hc hE hR hok hle
    go_enter Tryz.func101, Tryz.ntmps101
    go_wp2_with fail
    refine HC.out.mono ?_; rintro e w1 ⟨rfl, hb1⟩; have hs1 := hb1.size; clear HC; go_wp2
    go_loopw [24] (fun i wr => ∃ (k : Nat) (S : List Int) (at' : Pt), k ≤ xs.length ∧ i = .int .i64 k ∧ R = S ++ numsF kind at' ((xs.map (·.l)).drop k) ∧ S.length ≤ 2003 * k ∧ Close at' ∧
      Num 70 (w1.heap.size + 2) w1.heap.size (w1.heap.size + 1) wr S at' ∧ Below w.heap.size w wr) (fun i _ => xs.length - (intOf i).toNat)
    case atStart =>
      refine ⟨0, [], ⟨0, 0⟩, Nat.zero_le _, rfl, HRR.out, by simp, ⟨⟨by decide, by decide⟩, by decide, by decide⟩, ⟨.slice none 0 0, ?_, ?_, World.ownsRow_nil _ _ _ _, ?_⟩, ?_⟩
      · exact (Blk.new w1 [.slice none 0 0] 151).alloc _
      · exact Blk.lit (w1.alloc (.cells #[.slice none 0 0] 151)) _ [.int .i64 0, .int .i64 0] 79 (by simp)
      · simp
      · exact (hb1.alloc hs1 _).alloc (by simp; omega) _
    case round =>
      obtain ⟨k, S, at', hk1, rfl, hRS, hSl, hca, ⟨v, b1, b2, hown, hbs⟩, hbl⟩ := hrel; have hs := hbl.size
      by_cases hlt : k < xs.length
      · obtain ⟨x, hxk⟩ : ∃ x, xs[k] = x := ⟨_, rfl⟩; have hxm : x ∈ xs := by rw [← hxk]; exact List.getElem_mem _
        have hxo : x.Ok w := HOK.out x hxm; have hxl := HLE.out x hxm; obtain ⟨hx2, hxc⟩ := HX.out x hxm; obtain ⟨bb, ob, rfl, c0, _⟩ := (hr.keep hbl).at (i := k) (v := x.val) (by simp [hlt, hxk]); have hd : (xs.map (·.l)).drop k = x.l :: (xs.map (·.l)).drop (k + 1) := by
          rw [List.drop_eq_getElem_cons (by simpa using hlt)]; simp [hxk]
        rw [hd, numsF] at hRS; have HRS := Lib.hid hRS; have HXC := Lib.hid hxc; clear hd hxk hxm hRS hxc HOK HLE HX HRR; obtain ⟨l, p, cx⟩ := x; obtain ⟨hr2, hc2, hc3, hc4⟩ := hxo; dsimp only [PC.val] at *; obtain ⟨pb, po, rfl, -, -, -⟩ := hr2.pt 0 (by omega); have hL0 : 0 < l.length := by omega
        obtain ⟨q, hq⟩ : ∃ q, l[0]! = q := ⟨_, rfl⟩; have hQ : ∀ W, Below w.heap.size w W → W.cell? ⟨pb, po, none⟩ = some (.int .i64 q.x) ∧ W.cell? ⟨pb, po + 1, none⟩ = some (.int .i64 q.y) := fun W h => by
          obtain ⟨_, _, ee, -, d0, d1⟩ := (hr2.keep h).pt 0 (by omega)
          cases ee
          rw [Nat.zero_mul, Nat.add_zero, ← getElem!_pos l 0 (by omega), hq] at d0 d1; exact ⟨d0, d1⟩
        have hql : Close q := by rw [← hq, getElem!_pos l 0 (by omega)]; exact HXC.out _ (List.getElem_mem _)
        have HQL := Lib.hid hql; have HPN : Hid (partN kind at' l = [(9 : Int)] ++ byN at' q ++ [((l.length : Int) - 1) * 8 + 2] ++ pn q (l.drop 1) ++ (if kind = 3 then [15] else [])) := Lib.hid (by unfold partN; rw [hq]); have HQ0 : Hid (l[0]! = q) := Lib.hid hq; clear hq hql; obtain ⟨qx, qy⟩ := q; dsimp only at hQ; have HQ := Lib.hid hQ; clear hQ; obtain ⟨B1, hB1⟩ : ∃ B1, w1.heap.size = B1 := ⟨_, rfl⟩; rw [hB1] at b1 b2 hown hbs hs1 ⊢; have d0 := b1.cell 0 rfl; have hSb : S.length ≤ 300000 := by omega
        obtain ⟨i0, hi, hz0, hz1, hz2⟩ := info_parts Tryz.infoU64
        go_wp2_with (at_builtin; go_must (refine wpList_append_own_at (wr.alloc (.cells #[.int .u64 9] 70)) rfl (.tmp 28) (.tmp 29) 151 rfl (B1 + 2) 70 i0 (.int .u64 0) 1 8 Tryz.underlying151 hi hz0 hz1 hz2 rfl (by decide) v S.length (S.map (Value.int .u64)) rfl (hown.below (Below.new _ _)) ⟨wr.heap.size, 0, none⟩ 1 1 [.int .u64 9] rfl rfl (Rd.new wr [.int .u64 9] 70).add (by simp [Value.oneCell']) (by unfold maxLen; omega) (by omega) (by simp; omega) ?_); intro v2 w2 hown2 hg2 _ _; obtain ⟨pa, pc, rfl, -⟩ := hown2.form; obtain ⟨e1, hN1, hbl2⟩ := Num.app b1 b2 hown hbs (by omega) (by omega) (by omega) hs1 hbl hg2 hown2; have e0 := e1.cell 0 rfl; have f0 := e1.free 0; clear hown hown2 hbl hg2 b1 b2 d0 hbs; obtain ⟨d0, d1⟩ := HQ.out _ hbl2)
        generalize w2.setCell ⟨B1, 0, none⟩ (.slice pa (S.length + 1) pc) = w3 at hN1 hbl2 ⊢; refine (by_any ⟨qx, qy⟩ at' (S ++ [9]) (B1 + 2) B1 (B1 + 1) w.heap.size (by omega) (by omega) (by omega) hs1 (by omega) HQL.out hca (by simp; omega) w3 hN1).mono ?_; rintro e w4 ⟨⟨rv, rfl⟩, hN2, hb3⟩; have hbl3 := hbl2.trans hb3; clear hb3 hbl2 hN1 d0 d1 e0 f0 e1 c0; obtain ⟨S2, hS2⟩ : ∃ S2, S ++ [9] ++ byN at' ⟨qx, qy⟩ = S2 := ⟨_, rfl⟩; rw [hS2] at hN2; have hS2l : S2.length = S.length + 3 := by rw [← hS2]; simp [byN]
        have HS2 := Lib.hid hS2; clear hS2; obtain ⟨v5, b3, b4, hown5, hbs5⟩ := hN2; have d2 := b3.cell 0 rfl; obtain ⟨VV, hVV⟩ : ∃ VV, VV = ((l.length : Int) - 1) * 8 + 2 := ⟨_, rfl⟩; have hor : bits BinOp.or IntKind.u64 (((l.length : Int) - 1) * 8) 2 = VV := by
          rw [hVV]; exact u64_or_hi 3 _ 2 (by decide) (by omega) (by omega) (by omega) (by decide) (by decide)
        have HVV := Lib.hid hVV; clear hVV
        go_wp2_with (at_builtin; go_must (refine wpList_append_own_at (w4.alloc (.cells #[.int .u64 VV] 70)) rfl (.tmp 36) (.tmp 43) 151 rfl (B1 + 2) 70 i0 (.int .u64 0) 1 8 Tryz.underlying151 hi hz0 hz1 hz2 rfl (by decide) v5 S2.length (S2.map (Value.int .u64)) rfl (hown5.below (Below.new _ _)) ⟨w4.heap.size, 0, none⟩ 1 1 [.int .u64 VV] rfl rfl (Rd.new w4 [.int .u64 VV] 70).add (by simp [Value.oneCell']) (by unfold maxLen; omega) (by omega) (by simp; omega) ?_); intro v6 w6 hown6 hg6 _ _; obtain ⟨pa6, pc6, rfl, -⟩ := hown6.form; obtain ⟨e6, hN6, hbl6⟩ := Num.app b3 b4 hown5 hbs5 (by omega) (by omega) (by omega) hs1 hbl3 hg6 hown6; have e60 := e6.cell 0 rfl; have f60 := e6.free 0; clear hown5 hown6 hbl3 hg6 b3 b4 d2 hbs5)
        rw [hS2l] at hN6 hbl6; generalize w6.setCell ⟨B1, 0, none⟩ (.slice pa6 (S.length + 3 + 1) pc6) = w7 at hN6 hbl6 ⊢; clear e60 f60 e6; have hrd := hr2.drop 2; rw [pts_drop1] at hrd; obtain ⟨NN, hNN⟩ : ∃ NN, NN = S2 ++ [VV] ++ pn ⟨qx, qy⟩ (l.drop 1) := ⟨_, rfl⟩; have HNN := Lib.hid hNN; clear hNN; have hLd : (l.drop 1).length = l.length - 1 := by simp
        go_loopw [48] (fun i wj => ∃ (j : Nat) (T : List Int) (q' : Pt), j ≤ l.length - 1 ∧ i = .int .i64 j ∧ NN = T ++ pn q' ((l.drop 1).drop j) ∧ T.length = S.length + 4 + 2 * j ∧ q' = l[j]! ∧ Close q' ∧
          Num 70 (B1 + 2) B1 (B1 + 1) wj T q' ∧ Below w.heap.size w wj) (fun i _ => l.length - (intOf i).toNat)
        case atStart =>
          exact ⟨0, S2 ++ [VV], ⟨qx, qy⟩, Nat.zero_le _, rfl, HNN.out, by simp; omega, HQ0.out.symm, HQL.out, hN6, hbl6⟩
        case round =>
          obtain ⟨j, T, q', hj, rfl, hNT, hTl, hq', hqc, hN8, hbl8⟩ := hrel; have hs8 := hbl8.size
          by_cases hlj : j < l.length - 1
          · have hjd : j < (l.drop 1).length := by simp; omega
            obtain ⟨_, _, ee, -, f0, f1⟩ := (hrd.keep hbl8).pt j hjd
            cases ee
            have hd : (l.drop 1)[j] = l[j + 1]! := by rw [List.getElem_drop, getElem!_pos l (j + 1) (by omega)]; congr 1; omega
            have hdr : (l.drop 1).drop j = l[j + 1]! :: (l.drop 1).drop (j + 1) := by rw [List.drop_eq_getElem_cons hjd, hd]
            have hpc : Close l[j + 1]! := by rw [getElem!_pos l (j + 1) (by omega)]; exact HXC.out _ (List.getElem_mem _)
            rw [hdr, pn] at hNT; rw [hd] at f0 f1; have HPC := Lib.hid hpc; have HNT := Lib.hid hNT; obtain ⟨p, hp⟩ : ∃ p, l[j + 1]! = p := ⟨_, rfl⟩; rw [hp] at f0 f1 HPC HNT; have HP := Lib.hid hp; clear hd hdr hpc hNT hp hjd hq'; obtain ⟨px, py⟩ := p; dsimp only at f0 f1; have hN9 := hN8.keep (Below.new wr (.cells #[.int .i64 px, .int .i64 py] 79)); have hbl9 := hbl8.alloc hs8 (.cells #[.int .i64 px, .int .i64 py] 79); clear hbl8 hN8
            go_wp2_with fail
            refine (by_any ⟨px, py⟩ q' T (B1 + 2) B1 (B1 + 1) w.heap.size (by omega) (by omega) (by omega) hs1 (by omega) HPC.out hqc (by omega) _ hN9).mono ?_; rintro e w10 ⟨⟨rv, rfl⟩, hN10, hb10⟩; have hbl10 := hbl9.trans hb10; clear hN9 hbl9 hb10; go_wp2; go_roundw
            case rel => exact ⟨j + 1, _, _, by omega, by go_num, by rw [HNT.out, List.append_assoc], by simp [byN]; omega, HP.out.symm, HPC.out, hN10, hbl10⟩
            case measure => simp [intOf]; omega
          · obtain rfl : j = l.length - 1 := by omega
            rw [List.drop_of_length_le (by simp), pn, List.append_nil] at hNT; have HNT := Lib.hid hNT; have HQ' := Lib.hid hq'; clear hNT hq'; obtain ⟨v8, b5, b6, hown8, hbs8⟩ := hN8; have d3 := b5.cell 0 rfl
            rcases hk with rfl | rfl
            · have hstep : Hid (R = T ++ numsF 2 q' ((xs.map (·.l)).drop (k + 1))) := Lib.hid (by
                rw [HRS.out, HPN.out, if_neg (by decide), HQ'.out, ← HNT.out, HNN.out, ← HS2.out, HVV.out]; simp only [List.append_assoc, List.append_nil])
              clear HRS HPN HQ' HNN HS2 HVV HXC HQ HQ0; go_wp2; go_roundw
              case rel => exact ⟨k + 1, T, q', by omega, by go_num, hstep.out, by omega, hqc, ⟨v8, b5, b6, hown8, hbs8⟩, hbl8⟩
              case measure => simp [intOf]; omega
            · have hstep : Hid (R = (T ++ [15]) ++ numsF 3 q' ((xs.map (·.l)).drop (k + 1))) := Lib.hid (by
                rw [HRS.out, HPN.out, if_pos rfl, HQ'.out, ← HNT.out, HNN.out, ← HS2.out, HVV.out]; simp only [List.append_assoc, List.append_nil])
              clear HRS HPN HQ' HNN HS2 HVV HXC HQ HQ0
              go_wp2_with (at_builtin; go_must (refine wpList_append_own_at (wr.alloc (.cells #[.int .u64 15] 70)) rfl (.tmp 58) (.tmp 59) 151 rfl (B1 + 2) 70 i0 (.int .u64 0) 1 8 Tryz.underlying151 hi hz0 hz1 hz2 rfl (by decide) v8 T.length (T.map (Value.int .u64)) rfl (hown8.below (Below.new _ _)) ⟨wr.heap.size, 0, none⟩ 1 1 [.int .u64 15] rfl rfl (Rd.new wr [.int .u64 15] 70).add (by simp [Value.oneCell']) (by unfold maxLen; omega) (by omega) (by simp; omega) ?_); intro v9 w9 hown9 hg9 _ _; obtain ⟨pa9, pc9, rfl, -⟩ := hown9.form; obtain ⟨e9, hN9, hbl9⟩ := Num.app b5 b6 hown8 hbs8 (by omega) (by omega) (by omega) hs1 hbl8 hg9 hown9; have e90 := e9.cell 0 rfl; have f90 := e9.free 0; clear hown8 hown9 hbl8 hg9 b5 b6 d3 hbs8)
              go_roundw
              case rel => rw [hTl] at hN9 hbl9; exact ⟨k + 1, T ++ [15], q', by omega, by go_num, hstep.out, by simp; omega, hqc, hN9, hbl9⟩
              case measure => simp [intOf]; omega
      · obtain rfl : k = xs.length := by omega
        have hfin : R = S := by rw [hRS, List.drop_of_length_le (by simp), numsF, List.append_nil]
        have d0 := b1.cell 0 rfl; subst hfin; clear hRS; go_wp2; refine bodyPost_ret (v := .tuple #[v, .int .i64 0]) (by simp [results, Tryz.results101, go_sem]) rfl ⟨v, rfl, hown.mono (by omega), hbl⟩
  · have hE' : (E != 0) = true := by simpa using hE0
    rw [if_neg hE0] at hR; subst hR; clear HE hE hc
    go_enter Tryz.func101, Tryz.ntmps101
    go_wp2_with fail
    refine HC.out.mono ?_; rintro e w1 ⟨rfl, hb1⟩; clear HC; go_wp2; refine bodyPost_ret (v := .tuple #[.slice none 0 0, .int .i64 E]) (by simp [results, Tryz.results101, go_sem]) rfl ⟨_, rfl, World.ownsRow_nil _ _ _ _, hb1⟩
end Go.Proofs.YtjggoajfilnfjaaGreat
/- geom's reader: take, by, point, command, where nothing is wrong. -/
set_option linter.unusedVariables false
set_option linter.unusedSimpArgs false
set_option maxRecDepth 100000
namespace Go
open Go.RowKit Go.Vint

def RdS (w0 w : World) (B b off c : Nat) (L : List Int) (k : Nat) (p : Pt) : Prop :=
  Rd w0 (some ⟨b, off, none⟩) (L.map (Value.int .u64)) ∧ w0.heap.size ≤ B ∧ Blk w B [.slice (some ⟨b, off, none⟩) L.length c, .int .i64 k, .int .i64 p.x, .int .i64 p.y] ∧ Below w0.heap.size w0 w

theorem grown_drewN (w : World) (n : Nat) (r : Option Nat) : w.grownBy (w.drewN n) r := ⟨rfl, rfl, rfl, Nat.le_refl _, fun _ _ _ => rfl⟩
theorem grown_set (w : World) (B i : Nat) (v : Value) : w.grownBy (w.setCell ⟨B, i, none⟩ v) (some B) :=
  ⟨rfl, rfl, rfl, by rw [size_setCell]; exact Nat.le_refl _, fun k _ h => Below.heap_setCell _ _ _ _ (by intro e; exact h (by rw [e]))⟩
theorem grown_alloc (w : World) (o : Obj) (r : Option Nat) : w.grownBy (w.alloc o) r :=
  ⟨rfl, rfl, rfl, by simp, fun k h _ => heap_alloc_old w o h⟩
theorem RdS.grown {w0 w w' : World} {B b off c : Nat} {L : List Int} {k : Nat} {p : Pt} (h : RdS w0 w B b off c L k p) (hg : w.grownBy w' none) : RdS w0 w' B b off c L k p :=
  ⟨h.1, h.2.1, h.2.2.1.grown hg (by simp), h.2.2.2.grown hg h.2.2.2.size (by simp)⟩
theorem RdS.kept {w0 w w' : World} {B b off c : Nat} {L : List Int} {k : Nat} {p : Pt} (h : RdS w0 w B b off c L k p) {r : Nat} (hg : w.grownBy w' (some r)) (hr : w0.heap.size ≤ r) (hne : r ≠ B) : RdS w0 w' B b off c L k p :=
  ⟨h.1, h.2.1, h.2.2.1.grown hg (by simp; exact fun e => hne e.symm), h.2.2.2.grown hg h.2.2.2.size (by simp; exact hr)⟩
end Go
namespace Go.Proofs.YtjggoajfilnfjaaGreat
open Go.RowKit Go.Vint

set_option maxHeartbeats 800000 in
theorem take_ok (w0 w : World) (B b off c : Nat) (L : List Int) (k : Nat) (p : Pt) (v : Int) (hv : L[k]? = some v) (hv1 : v ≤ 4294967295) (hL : L.length ≤ 1000000) (hc : L.length ≤ c) (h : RdS w0 w B b off c L k p) :
    Calls Tryz.prog 133 #[.pointer (some ⟨B, 0, none⟩)] w fun e w' => e = .returned (.tuple #[.int .u64 v, .int .i64 0]) ∧ RdS w0 w' B b off c L (k + 1) p ∧ w.grownBy w' (some B) := by
  obtain ⟨hr, hB, hb, hbl⟩ := h; have hk : k < L.length := (List.getElem?_eq_some_iff.1 hv).1; have hcell : ∀ W, Below w0.heap.size w0 W → W.cell? ⟨b, off + k, none⟩ = some (.int .u64 v) := fun W h => by
    obtain ⟨_, _, he, h0, _⟩ := (hr.keep h).at (i := k) (v := .int .u64 v) (by simp [hv])
    cases he; exact h0
  have HC := Lib.hid hcell; have HR := Lib.hid hr; obtain ⟨N, hN⟩ : ∃ N, L.length = N := ⟨_, rfl⟩; have HN := Lib.hid hN; rw [hN] at hk hL hc hb; clear hcell hr hN hv; have c0 := hb.cell 0 rfl; have c1 := hb.cell 1 rfl; have d0 := HC.out _ hbl
  go_enter Tryz.func133, Tryz.ntmps133
  have hkN : ((k : Int) == (N : Int)) = false := by simp; omega
  have hv2 : decide (4294967295 < v) = false := by simp; omega
  have hfr := hb.free 1; go_wp2
  go_quiet (fail)
  rename Nat => n1
  go_wp2
  go_quiet (fail)
  go_wp2; have g1 := (grown_drewN w (n1 + nq) (some B)).trans (grown_set (w.drewN (n1 + nq)) B 1 (.int .i64 ((k : Int) + 1))); have b1 := (hb.drewN (n1 + nq)).set 1 (.int .i64 ((k : Int) + 1)); have l1 := hbl.grown g1 hbl.size (by simp; exact hB); generalize (w.drewN (n1 + nq)).setCell ⟨B, 1, none⟩ (.int .i64 ((k : Int) + 1)) = w2 at *; clear c0 c1 d0 hfr; have c0 := b1.cell 0 rfl; have c1 := b1.cell 1 rfl; have d0 := HC.out _ l1
  go_quiet (fail)
  go_wp2; refine bodyPost_ret (v := .tuple #[.int .u64 v, .int .i64 0]) (by simp [results, Tryz.results133, go_sem]) rfl ⟨rfl, ⟨HR.out, hB, ?_, below_drewN l1 _⟩, g1.trans (grown_drewN _ _ _)⟩; rw [HN.out]; exact b1

set_option maxHeartbeats 800000 in
theorem by_ok (w0 w : World) (B b off c : Nat) (L : List Int) (k : Nat) (p : Pt) (last n : Int) (hv : L[k]? = some (zig (n - last))) (hn : -1048576 ≤ n ∧ n ≤ 1048576) (hl : -1048576 ≤ last ∧ last ≤ 1048576) (hL : L.length ≤ 1000000) (hc : L.length ≤ c) (h : RdS w0 w B b off c L k p) :
    Calls Tryz.prog 135 #[.pointer (some ⟨B, 0, none⟩), .int .i64 last] w fun e w' => e = .returned (.tuple #[.int .i64 n, .int .i64 0]) ∧ RdS w0 w' B b off c L (k + 1) p ∧ w.grownBy w' (some B) := by
  have hz := zag_zig (n - last); have hz1 : 0 ≤ zig (n - last) ∧ zig (n - last) ≤ 4294967295 := by unfold zig; split <;> omega
  have ht := take_ok w0 w B b off c L k p _ hv hz1.2 hL hc h; have hzg := vzag_any (zig (n - last)) hz1.1 (by omega); rw [hz] at hzg; generalize zig (n - last) = v at *; have HT := Lib.hid ht; have HZ := Lib.hid hzg; have hs : last + (n - last) = n := by omega
  clear ht hzg hz hz1 hv h hL hc
  go_enter Tryz.func135, Tryz.ntmps135
  go_wp2_with fail
  refine HT.out.mono ?_; rintro e w1 ⟨rfl, h1, hg1⟩
  go_wp2_with fail
  refine (HZ.out _).mono ?_; rintro e w2 ⟨rfl, rfl⟩
  go_wp2_with fail
  refine (gwithin_any n _).mono ?_; rintro e w2 ⟨rfl, rfl⟩; rw [decide_eq_true hn]; go_wp2; refine bodyPost_ret (v := .tuple #[.int .i64 n, .int .i64 0]) (by simp [results, Tryz.results135, go_sem]) rfl ⟨rfl, h1, hg1⟩

set_option maxHeartbeats 1600000 in
theorem point_ok (w0 w : World) (B b off c : Nat) (L : List Int) (k : Nat) (p q : Pt) (hx : L[k]? = some (zig (q.x - p.x))) (hy : L[k + 1]? = some (zig (q.y - p.y))) (hp : Close p) (hq : Close q) (hL : L.length ≤ 1000000) (hc : L.length ≤ c) (h : RdS w0 w B b off c L k p) :
    Calls Tryz.prog 131 #[.pointer (some ⟨B, 0, none⟩)] w fun e w' => e = .returned (.tuple #[q.val, .int .i64 0]) ∧ RdS w0 w' B b off c L (k + 2) q ∧ w.grownBy w' (some B) := by
  have g0 := grown_alloc w (.cells #[.int .i64 0, .int .i64 0] 79) none; have g0' := grown_alloc w (.cells #[.int .i64 0, .int .i64 0] 79) (some B); have hBl := h.2.2.1.lt; have r0 := Blk.new w [.int .i64 0, .int .i64 0] 79; have h0 := h.grown g0; have hB := h.2.1; obtain ⟨x, y⟩ := q; obtain ⟨px, py⟩ := p; dsimp only [Pt.val] at *; have hbx := fun W k p h => by_ok w0 W B b off c L k p px x h hq.1 hp.1 hL hc; have hby := fun W k p h => by_ok w0 W B b off c L k p py y h hq.2 hp.2 hL hc; have HX := Lib.hid hbx; have HY := Lib.hid hby; have HVX := Lib.hid hx; have HVY := Lib.hid hy; clear hbx hby hx hy hp hq g0 hL hc h
  go_enter Tryz.func131, Tryz.ntmps131
  have c2 := h0.2.2.1.cell 2 rfl; have c3 := h0.2.2.1.cell 3 rfl; dsimp only at c2 c3
  go_wp2_with fail
  refine (HX.out _ _ _ HVX.out h0).mono ?_; rintro e w1 ⟨rfl, h1, hg1⟩; have r1 := r0.grown hg1 (by simp; omega); have g1 := g0'.trans hg1; clear c2 c3 h0 hg1 r0 g0'; have c2 := h1.2.2.1.cell 2 rfl; have c3 := h1.2.2.1.cell 3 rfl; dsimp only at c2 c3
  go_wp2_with fail
  refine (HY.out _ _ _ HVY.out h1).mono ?_; rintro e w2 ⟨rfl, h2, hg2⟩; have r2 := r1.grown hg2 (by simp; omega); have g2 := g1.trans hg2; clear c2 c3 h1 hg2 r1 g1; have c2 := h2.2.2.1.cell 2 rfl; have c3 := h2.2.2.1.cell 3 rfl; have f2 := h2.2.2.1.free 2; have f3 := h2.2.2.1.free 3; have e0 := r2.cell 0 rfl; have e1 := r2.cell 1 rfl; have j0 := r2.free 0; have j1 := r2.free 1; dsimp only at c2 c3; have hne : w.heap.size ≠ B := by omega
  have hne2 : B ≠ w.heap.size := by omega
  go_wp2; have b4 := (((h2.2.2.1.set 2 (.int .i64 x)).set 3 (.int .i64 y)).set_at (o := 0) hne2 (.int .i64 x)).set_at (o := 1) hne2 (.int .i64 y); have r4 := (((r2.set_at (o := 2) hne (.int .i64 x)).set_at (o := 3) hne (.int .i64 y)).set 0 (.int .i64 x)).set 1 (.int .i64 y); have g4 := (g2.trans (grown_set w2 B 2 (.int .i64 x))).trans (grown_set _ B 3 (.int .i64 y)); have l4 := ((h2.2.2.2.grown (grown_set w2 B 2 (.int .i64 x)) h2.2.2.2.size (by simp; exact hB)).set_at (o := 3) hB (.int .i64 y)); have hwR : w0.heap.size ≤ w.heap.size := by omega
  have l5 := (l4.set_at (o := 0) hwR (.int .i64 x)).set_at (o := 1) hwR (.int .i64 y); have g5 : w.grownBy ((((w2.setCell ⟨B, 2, none⟩ (.int .i64 x)).setCell ⟨B, 3, none⟩ (.int .i64 y)).setCell ⟨w.heap.size, 0, none⟩ (.int .i64 x)).setCell ⟨w.heap.size, 1, none⟩ (.int .i64 y)) (some B) := by
    refine ⟨g4.os, g4.tape, g4.output, by rw [size_setCell, size_setCell]; exact g4.size, fun i hi hn => ?_⟩; rw [Below.heap_setCell _ _ _ _ (by show i ≠ w.heap.size; omega), Below.heap_setCell _ _ _ _ (by show i ≠ w.heap.size; omega)]; exact g4.block i hi hn
  obtain ⟨w3, hw3⟩ : ∃ w3, ((((w2.setCell ⟨B, 2, none⟩ (.int .i64 x)).setCell ⟨B, 3, none⟩ (.int .i64 y)).setCell ⟨w.heap.size, 0, none⟩ (.int .i64 x)).setCell ⟨w.heap.size, 1, none⟩ (.int .i64 y)) = w3 := ⟨_, rfl⟩; rw [hw3] at b4 r4 l5 g5; rw [hw3]; have q0 := r4.cell 0 rfl; have q1 := r4.cell 1 rfl; refine bodyPost_ret (v := .tuple #[.agg #[.int .i64 x, .int .i64 y], .int .i64 0]) (by simp [results, Tryz.results131, go_sem, q0, q1]) rfl ⟨rfl, ⟨h2.1, hB, b4, l5⟩, g5⟩
end Go.Proofs.YtjggoajfilnfjaaGreat
/- Faces in memory: attributes, rings, faces; what keeps them. -/
set_option linter.unusedVariables false
set_option linter.unusedSimpArgs false
set_option maxRecDepth 100000
namespace Go
open Go.RowKit
structure At where
  key : ByteArray
  kind : Int
  text : ByteArray
  n : Int
instance : Inhabited At := ⟨⟨ByteArray.empty, 0, ByteArray.empty, 0⟩⟩
def At.cells (a : At) : List Value := [.string a.key, .int .i64 a.kind, .string a.text, .int .i64 a.n]
def At.val (a : At) : Value := .agg #[.string a.key, .int .i64 a.kind, .string a.text, .int .i64 a.n]
def ats (l : List At) : List Value := l.flatMap At.cells
theorem At.cells_len (a : At) : a.cells.length = 4 := rfl
theorem ats_len (l : List At) : (ats l).length = l.length * 4 := by
  unfold ats
  induction l with
  | nil => rfl
  | cons a l ih => simp only [List.flatMap_cons, List.length_append, ih, List.length_cons, At.cells_len]; omega
theorem ats_snoc (l : List At) (a : At) : ats (l ++ [a]) = ats l ++ a.cells := by simp [ats]
structure Fc where
  rs : List PC
  ra : Option Addr
  rc : Nat
  ls : List At
  aa : Option Addr
  ac : Nat
instance : Inhabited Fc := ⟨⟨[], none, 0, [], none, 0⟩⟩
def Fc.rval (f : Fc) : Value := .slice f.ra f.rs.length f.rc
def Fc.aval (f : Fc) : Value := .slice f.aa f.ls.length f.ac
def Fc.cells (f : Fc) : List Value := [f.rval, f.aval]
def Fc.val (f : Fc) : Value := .agg #[f.rval, f.aval]
def rcs (l : List PC) : List Value := l.flatMap PC.cells
def fcs (l : List Fc) : List Value := l.flatMap Fc.cells
theorem rcs_len (l : List PC) : (rcs l).length = l.length * 1 := by
  unfold rcs
  induction l with
  | nil => rfl
  | cons a l ih => simp only [List.flatMap_cons, List.length_append, ih, List.length_cons, PC.cells, List.length_nil]; omega
theorem fcs_len (l : List Fc) : (fcs l).length = l.length * 2 := by
  unfold fcs
  induction l with
  | nil => rfl
  | cons a l ih => simp only [List.flatMap_cons, List.length_append, ih, List.length_cons, Fc.cells, List.length_nil]; omega
theorem rcs_snoc (l : List PC) (x : PC) : rcs (l ++ [x]) = rcs l ++ [x.val] := by simp [rcs, PC.cells]
theorem fcs_snoc (l : List Fc) (x : Fc) : fcs (l ++ [x]) = fcs l ++ x.cells := by simp [fcs]
def Fc.rings (f : Fc) : List (List Pt) := f.rs.map PC.l
def Fc.Ok (W : World) (f : Fc) : Prop :=
  (Rd W f.ra (rcs f.rs) ∧ f.rs.length ≤ f.rc ∧ f.rc ≤ maxLen ∧ (f.ra = none → f.rc = 0)) ∧ (∀ r ∈ f.rs, r.Ok W) ∧ (Rd W f.aa (ats f.ls) ∧ f.ls.length ≤ f.ac ∧ f.ac ≤ maxLen ∧ (f.aa = none → f.ac = 0))
theorem Fc.Ok.keep {w w' : World} {f : Fc} (h : f.Ok w) (hb : Below w.heap.size w w') : f.Ok w' :=
  ⟨⟨h.1.1.keep hb, h.1.2⟩, fun r hr => (h.2.1 r hr).keep hb, ⟨h.2.2.1.keep hb, h.2.2.2⟩⟩

theorem Rd.fc {w : World} {a : Option Addr} {l : List Fc} (h : Rd w a (fcs l)) (i : Nat) (hi : i < l.length) :
    ∃ b off, a = some ⟨b, off, none⟩ ∧ b < w.heap.size ∧ w.cell? ⟨b, off + i * 2, none⟩ = some l[i].rval ∧ w.cell? ⟨b, off + i * 2 + 1, none⟩ = some l[i].aval := by
  have g : ∀ j, j < 2 → (fcs l)[i * 2 + j]? = (l[i]).cells[j]? := fun j hj => flatMap_get Fc.cells 2 (fun _ => rfl) l i j hi hj; obtain ⟨b, off, rfl, h0, hb⟩ := h.at (i := i * 2 + 0) (v := l[i].rval) (by rw [g 0 (by omega)]; rfl); obtain ⟨b', off', e, h1, -⟩ := h.at (i := i * 2 + 1) (v := l[i].aval) (by rw [g 1 (by omega)]; rfl)
  cases e
  exact ⟨b, off, rfl, hb, h0, by rw [Nat.add_assoc]; exact h1⟩
theorem Rd.rc {w : World} {a : Option Addr} {l : List PC} (h : Rd w a (rcs l)) (i : Nat) (hi : i < l.length) :
    ∃ b off, a = some ⟨b, off, none⟩ ∧ b < w.heap.size ∧ w.cell? ⟨b, off + i, none⟩ = some l[i].val := by
  have g : (rcs l)[i * 1 + 0]? = (l[i]).cells[0]? := flatMap_get PC.cells 1 (fun _ => rfl) l i 0 hi (by omega); obtain ⟨b, off, rfl, h0, hb⟩ := h.at (i := i * 1 + 0) (v := l[i].val) (by rw [g]; rfl); exact ⟨b, off, rfl, hb, by rw [Nat.mul_one, Nat.add_zero] at h0; exact h0⟩
theorem Rd.atr {w : World} {a : Option Addr} {l : List At} (h : Rd w a (ats l)) (i : Nat) (hi : i < l.length) :
    ∃ b off, a = some ⟨b, off, none⟩ ∧ b < w.heap.size ∧ w.cell? ⟨b, off + i * 4, none⟩ = some (.string l[i].key) ∧ w.cell? ⟨b, off + i * 4 + 1, none⟩ = some (.int .i64 l[i].kind) ∧ w.cell? ⟨b, off + i * 4 + 2, none⟩ = some (.string l[i].text) ∧ w.cell? ⟨b, off + i * 4 + 3, none⟩ = some (.int .i64 l[i].n) := by
  have g : ∀ j, j < 4 → (ats l)[i * 4 + j]? = (l[i]).cells[j]? := fun j hj => flatMap_get At.cells 4 (fun _ => rfl) l i j hi hj; obtain ⟨b, off, rfl, h0, hb⟩ := h.at (i := i * 4 + 0) (v := .string l[i].key) (by rw [g 0 (by omega)]; rfl); obtain ⟨b', off', e, h1, -⟩ := h.at (i := i * 4 + 1) (v := .int .i64 l[i].kind) (by rw [g 1 (by omega)]; rfl)
  cases e
  obtain ⟨b', off', e, h2, -⟩ := h.at (i := i * 4 + 2) (v := .string l[i].text) (by rw [g 2 (by omega)]; rfl)
  cases e
  obtain ⟨b', off', e, h3, -⟩ := h.at (i := i * 4 + 3) (v := .int .i64 l[i].n) (by rw [g 3 (by omega)]; rfl)
  cases e
  refine ⟨b, off, rfl, hb, h0, ?_, ?_, ?_⟩
  · rw [Nat.add_assoc]; exact h1
  · rw [Nat.add_assoc]; exact h2
  · rw [Nat.add_assoc]; exact h3
theorem ats_one (l : List At) : ∀ u ∈ ats l, u.oneCell' = true := by
  intro u hu; obtain ⟨p, -, hu⟩ := List.mem_flatMap.1 hu; simp [At.cells] at hu
  rcases hu with rfl | rfl | rfl | rfl <;> rfl
theorem rcs_one (l : List PC) : ∀ u ∈ rcs l, u.oneCell' = true := by
  intro u hu; obtain ⟨p, -, hu⟩ := List.mem_flatMap.1 hu; simp [PC.cells, PC.val] at hu; rw [hu]; rfl
theorem fcs_one (l : List Fc) : ∀ u ∈ fcs l, u.oneCell' = true := by
  intro u hu; obtain ⟨p, -, hu⟩ := List.mem_flatMap.1 hu; simp [Fc.cells, Fc.rval, Fc.aval] at hu
  rcases hu with rfl | rfl <;> rfl
def TypB (W : World) (a : Option Addr) (T : TypeId) : Prop := ∀ b, a.map (·.block) = some b → ∃ cs fr, W.heap[b]? = some (.cells cs T fr)
theorem TypB.none (W : World) (T : TypeId) : TypB W none T := fun b h => by simp at h
theorem TypB.of_owns {W : World} {base : Nat} {e : TypeId} {size n c m : Nat} {a : Option Addr} {xs : List Value} (h : W.ownsRow base e size (.slice a n c) m xs) : TypB W a e := by
  intro b hb
  rcases h.2 with ⟨h1, -⟩ | ⟨g, cap, cur, h1, -, hg, -⟩
  · cases h1; simp at hb
  · cases h1
    simp at hb; subst hb; exact ⟨cur, _, hg⟩
def KeepS (S : TypeId → Prop) (A B : World) : Prop := A.heap.size ≤ B.heap.size ∧ ∀ (k : Nat) (cs : Array Value) (V : TypeId) (fr : Nat × Nat), A.heap[k]? = some (Obj.cells cs V fr) → S V → B.heap[k]? = A.heap[k]?
theorem KeepS.refl {S : TypeId → Prop} (A : World) : KeepS S A A := ⟨Nat.le_refl _, fun _ _ _ _ _ _ => rfl⟩
theorem KeepS.trans {S : TypeId → Prop} {A B C : World} (h : KeepS S A B) (k : KeepS S B C) : KeepS S A C :=
  ⟨Nat.le_trans h.1 k.1, fun i cs V fr hi hv => by
    have h1 := h.2 i cs V fr hi hv; rw [k.2 i cs V fr (h1.trans hi) hv, h1]⟩
theorem KeepS.of_below {S : TypeId → Prop} {A B : World} (h : Below A.heap.size A B) : KeepS S A B :=
  ⟨h.size, fun k _ _ _ hk _ => h.block k (Array.getElem?_eq_some_iff.1 hk).1⟩
theorem KeepS.of_grownBy {S : TypeId → Prop} {A B : World} {row : Option Nat} (hg : A.grownBy B row) (hr : ∀ r, row = some r → ∀ cs V fr, A.heap[r]? = some (Obj.cells cs V fr) → ¬ S V) : KeepS S A B :=
  ⟨hg.size, fun k cs V fr hk hv => hg.block k (Array.getElem?_eq_some_iff.1 hk).1 fun e => hr k e.symm cs V fr hk hv⟩
theorem KeepS.of_row {S : TypeId → Prop} {A B : World} {n₀ : Nat} {e : TypeId} {size : Nat} {v : Value} {k : Nat} {xs : List Value} (hrow : A.ownsRow n₀ e size v k xs) (hS : ¬ S e) (hg : A.grownBy B v.ownBlock) : KeepS S A B :=
  KeepS.of_grownBy hg fun r he cs V fr hk => by
    rcases hrow.2 with ⟨rfl, _⟩ | ⟨g, cap, cur, rfl, _, hgb, _⟩
    · cases he
    · obtain rfl : g = r := by simpa [Value.ownBlock] using he
      rw [hgb] at hk
      cases hk
      exact hS
theorem KeepS.store {S : TypeId → Prop} {A : World} {p : Addr} {t : TypeId} {cs : Array Value} {fr : Nat × Nat} (h : A.heap[p.block]? = some (.cells cs t fr)) (hS : ¬ S t) (u : Value) : KeepS S A (A.setCell p u) := by
  refine ⟨by simp [World.setCell], fun k cs' V fr' hk hv => ?_⟩; refine Below.heap_setCell A p u k (fun e => ?_); subst e; rw [h] at hk
  cases hk
  exact hS hv
theorem Rd.keepS {S : TypeId → Prop} {A B : World} {a : Option Addr} {vs : List Value} {T : TypeId} (h : Rd A a vs) (ht : TypB A a T) (hS : S T) (k : KeepS S A B) : Rd B a vs := by
  rcases h with h | ⟨b, off, rfl, hc⟩
  · exact .inl h
  · refine .inr ⟨b, off, rfl, fun i v hv => ?_⟩; obtain ⟨cs, fr, hb⟩ := ht b rfl; have := hc i v hv; simp only [World.cell?, k.2 b cs T fr hb hS]; exact this
theorem TypB.keepS {S : TypeId → Prop} {A B : World} {a : Option Addr} {T : TypeId} (ht : TypB A a T) (hS : S T) (k : KeepS S A B) : TypB B a T := by
  intro b hb; obtain ⟨cs, fr, h⟩ := ht b hb; exact ⟨cs, fr, (k.2 b cs T fr h hS).trans h⟩
end Go
namespace Go.Proofs.YtjggoajfilnfjaaGreat
open Go.RowKit
def PcT (W : World) (x : PC) : Prop := x.Ok W ∧ TypB W x.p 79
def FcT (W : World) (f : Fc) : Prop := f.Ok W ∧ TypB W f.ra 80 ∧ (∀ r ∈ f.rs, PcT W r) ∧ TypB W f.aa 103
def faceS (T : TypeId) : Prop := T = 79 ∨ T = 80 ∨ T = 103
theorem PcT.keepS {S : TypeId → Prop} {A B : World} {x : PC} (h : PcT A x) (hS : S 79) (k : KeepS S A B) : PcT B x :=
  ⟨⟨h.1.1.keepS h.2 hS k, h.1.2⟩, h.2.keepS hS k⟩
theorem FcT.keepS {A B : World} {f : Fc} (h : FcT A f) (k : KeepS faceS A B) : FcT B f := by
  obtain ⟨⟨h1, h2, h3⟩, t1, t2, t3⟩ := h; exact ⟨⟨⟨h1.1.keepS t1 (.inr (.inl rfl)) k, h1.2⟩, fun r hr => ((t2 r hr).keepS (.inl rfl) k).1, ⟨h3.1.keepS t3 (.inr (.inr rfl)) k, h3.2⟩⟩, t1.keepS (.inr (.inl rfl)) k, fun r hr => (t2 r hr).keepS (.inl rfl) k, t3.keepS (.inr (.inr rfl)) k⟩
theorem FcT.keep {A B : World} {f : Fc} (h : FcT A f) (hb : Below A.heap.size A B) : FcT B f := h.keepS (KeepS.of_below hb)
theorem PcT.keep {A B : World} {f : PC} (h : PcT A f) (hb : Below A.heap.size A B) : PcT B f := h.keepS (S := faceS) (.inl rfl) (KeepS.of_below hb)
theorem Tryz.infoAt : (Tryz.prog.info? 103).map (fun i => (i.zero, i.size, i.bytes)) = some (some (.agg #[.string ⟨#[]⟩, .int .i64 0, .string ⟨#[]⟩, .int .i64 0]), 4, 48) := by kernel_rfl
theorem Tryz.infoRow : (Tryz.prog.info? 80).map (fun i => (i.zero, i.size, i.bytes)) = some (some (.slice none 0 0), 1, 24) := by kernel_rfl
theorem Tryz.infoPnt : (Tryz.prog.info? 79).map (fun i => (i.zero, i.size, i.bytes)) = some (some (.agg #[.int .i64 0, .int .i64 0]), 2, 16) := by kernel_rfl
end Go.Proofs.YtjggoajfilnfjaaGreat
