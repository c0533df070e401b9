/-
  geom.Numbers.
-/
import Derived.Test.YtephdnahmgfmeaaGnum
import Derived.Test.YtephdnahmgfmeaaGchk
set_option linter.unusedVariables false
set_option linter.unusedSimpArgs false
set_option maxRecDepth 100000
namespace Go
open Go.RowKit Go.Vint
/-- The numbers of points, one behind the other. -/
def pn (a : Pt) : List Pt → List Int
  | [] => []
  | p :: l => byN a p ++ pn p l
def partN (kind : Int) (a : Pt) (l : List Pt) : List Int :=
  [(9 : Int)] ++ byN a l[0]! ++ [((l.length : Int) - 1) * 8 + 2] ++ pn l[0]! (l.drop 1) ++ (if kind = 3 then [15] else [])
/-- A geometry's numbers. -/
def numsF (kind : Int) (a : Pt) : List (List Pt) → List Int
  | [] => []
  | l :: t => partN kind a l ++ numsF kind l[l.length - 1]! t

theorem pn_len (l : List Pt) : ∀ a, (pn a l).length = 2 * l.length := by
  induction l with
  | nil => intro a; rfl
  | cons p l ih => intro a; rw [pn, List.length_append, ih p]; simp [byN]; omega
theorem partN_len (kind : Int) (a : Pt) (l : List Pt) (h : 1 ≤ l.length) : (partN kind a l).length ≤ 2 * l.length + 3 := by
  unfold partN
  simp only [List.length_append, pn_len, List.length_drop]
  split <;> simp [byN] <;> omega

theorem partE_zero {kind : Int} {first : Bool} {l : List Pt} (hk : kind = 2 ∨ kind = 3) (h : partE kind first l = 0) : 2 ≤ l.length ∧ ∀ p ∈ l, Close p := by
  unfold partE at h
  split at h
  · simp at h
  · rename_i h1
    split at h
    · simp at h
    · rename_i h2
      refine ⟨by omega, fun p hp => ?_⟩
      have : l.all near = true := by simpa using h1
      have := List.all_eq_true.1 this p hp
      simpa [near, Close] using this

theorem chk_zero {kind : Int} (hk : kind = 2 ∨ kind = 3) (G : List (List Pt)) : ∀ first, chk kind first G = 0 → ∀ l ∈ G, 2 ≤ l.length ∧ ∀ p ∈ l, Close p := by
  induction G with
  | nil => intro _ _ l hl; simp at hl
  | cons l0 t ih =>
    intro first h l hl
    rw [chk] at h
    by_cases hp : partE kind first l0 = 0
    · rw [if_neg (by simpa using hp)] at h
      rcases List.mem_cons.1 hl with rfl | hl
      · exact partE_zero hk hp
      · exact ih _ h l hl
    · rw [if_pos hp] at h; exact absurd h hp

theorem checkE_zero {kind : Int} {G : List (List Pt)} (h : checkE kind G = 0) : (kind = 2 ∨ kind = 3) ∧ 1 ≤ G.length ∧ ∀ l ∈ G, 2 ≤ l.length ∧ ∀ p ∈ l, Close p := by
  unfold checkE at h
  split at h
  · simp at h
  · split at h
    · simp at h
    · have hk : kind = 2 ∨ kind = 3 := by omega
      exact ⟨hk, by omega, chk_zero hk G true h⟩

theorem Num.keep {e : TypeId} {base B1 B2 : Nat} {W W' : World} {R : List Int} {at' : Pt} (h : Num e base B1 B2 W R at') (hb : Below W.heap.size W W') : Num e base B1 B2 W' R at' := by
  obtain ⟨v, h1, h2, h3, h4⟩ := h
  exact ⟨v, h1.keep hb, h2.keep hb, h3.below hb, Nat.le_trans h4 hb.size⟩
/-- One number more: behind append, and behind the store into the box. -/
theorem Num.app {e : TypeId} {base B1 B2 n0 : Nat} {w wr w2 : World} {S : List Int} {at' : Pt} {v v2 : Value} {n : Int} (b1 : Blk wr B1 [v]) (b2 : Blk wr B2 at'.cells) (hown : wr.ownsRow base e 1 v S.length (S.map (Value.int .u64))) (hbs : base ≤ wr.heap.size)
    (h1 : B1 < base) (h2 : B2 < base) (hne : B1 ≠ B2) (hn1 : n0 ≤ B1) (hbl : Below n0 w wr) (hg : (wr.alloc (.cells #[.int .u64 n] e)).grownBy w2 v.ownBlock)
    (hown2 : w2.ownsRow base e 1 v2 (S.length + 1) (S.map (Value.int .u64) ++ [.int .u64 n])) :
    Blk w2 B1 [v] ∧ Num e base B1 B2 (w2.setCell ⟨B1, 0, none⟩ v2) (S ++ [n]) at' ∧ Below n0 w (w2.setCell ⟨B1, 0, none⟩ v2) := by
  have hno : ∀ b, b < base → some b ≠ v.ownBlock := fun b hb e => by have := (hown.lt b e.symm).1; omega
  have y1 := (b1.alloc (.cells #[.int .u64 n] e)).grown hg (hno _ h1)
  have y2 := (b2.alloc (.cells #[.int .u64 n] e)).grown hg (hno _ h2)
  have hB := (hbl.alloc (by omega) (.cells #[.int .u64 n] e)).grown hg (by simp; omega) (fun k hk => by have := (hown.lt k hk).1; omega)
  have hsz : base ≤ w2.heap.size := by have := hg.size; simp at this; omega
  refine ⟨y1, ⟨v2, y1.set 0 v2, y2.set_at (fun e => hne e.symm) v2, ?_, ?_⟩, hB.set_at hn1 v2⟩
  · rw [List.length_append, List.map_append]
    refine hown2.set_ne (p := ⟨B1, 0, none⟩) ?_ v2
    exact fun h => by have := (hown2.lt _ h).1; simp at this; omega
  · simp [World.setCell]; exact hsz
end Go
namespace Go.Proofs.Ytephdnahmgfmeaa
open Go.RowKit Go.Vint

set_option maxHeartbeats 1600000 in
theorem gnums_any (kind : Int) (a : Option Addr) (c : Nat) (xs : List PC) (hl : xs.length ≤ 100) (hle : ∀ x ∈ xs, x.l.length ≤ 1000) (w : World) (hr : Rd w a (xs.map PC.val)) (hok : ∀ x ∈ xs, x.Ok w) (R : List Int)
    (hR : R = (if checkE kind (xs.map (·.l)) = 0 then numsF kind ⟨0, 0⟩ (xs.map (·.l)) else [])) :
    Calls Try.prog 11 #[.int .i64 kind, .slice a xs.length c] w fun e w' => ∃ v, e = .returned (.tuple #[v, .int .i64 (checkE kind (xs.map (·.l)))]) ∧
      w'.ownsRow w.heap.size 44 1 v R.length (R.map (Value.int .u64)) ∧ Below w.heap.size w w' := by
  have hc := gcheck_any kind a c xs (by omega) hle w hr hok
  have hE : checkE kind (xs.map (·.l)) = 0 → (kind = 2 ∨ kind = 3) ∧ ∀ x ∈ xs, 2 ≤ x.l.length ∧ ∀ p ∈ x.l, Close p := fun h => by
    obtain ⟨h1, h2, h3⟩ := checkE_zero h
    exact ⟨h1, fun x hx => h3 x.l (List.mem_map_of_mem hx)⟩
  generalize checkE kind (xs.map (·.l)) = E at *
  have HC := Lib.hid hc
  have HE := Lib.hid hE
  by_cases hE0 : E = 0
  · subst hE0
    rw [if_pos rfl] at hR
    obtain ⟨hk, hx⟩ := hE rfl
    have HX := Lib.hid hx
    have HRR := Lib.hid hR
    have HOK := Lib.hid hok
    have HLE := Lib.hid hle
    clear HE hx hc hE hR hok hle
    go_enter Try.func11, Try.ntmps11
    go_wp2_with fail
    refine HC.out.mono ?_
    rintro e w1 ⟨rfl, hb1⟩
    have hs1 := hb1.size
    clear HC
    go_wp2
    go_loopw [24] (fun i wr => ∃ (k : Nat) (S : List Int) (at' : Pt), k ≤ xs.length ∧ i = .int .i64 k ∧ R = S ++ numsF kind at' ((xs.map (·.l)).drop k) ∧ S.length ≤ 2003 * k ∧ Close at' ∧
      Num 44 (w1.heap.size + 2) w1.heap.size (w1.heap.size + 1) wr S at' ∧ Below w.heap.size w wr) (fun i _ => xs.length - (intOf i).toNat)
    case atStart =>
      refine ⟨0, [], ⟨0, 0⟩, Nat.zero_le _, rfl, HRR.out, by simp, ⟨⟨by decide, by decide⟩, by decide, by decide⟩, ⟨.slice none 0 0, ?_, ?_, World.ownsRow_nil _ _ _ _, ?_⟩, ?_⟩
      · exact (Blk.new w1 [.slice none 0 0] 34).alloc _
      · exact Blk.lit (w1.alloc (.cells #[.slice none 0 0] 34)) _ [.int .i64 0, .int .i64 0] 59 (by simp)
      · simp
      · exact (hb1.alloc hs1 _).alloc (by simp; omega) _
    case round =>
      obtain ⟨k, S, at', hk1, rfl, hRS, hSl, hca, ⟨v, b1, b2, hown, hbs⟩, hbl⟩ := hrel
      have hs := hbl.size
      by_cases hlt : k < xs.length
      · obtain ⟨x, hxk⟩ : ∃ x, xs[k] = x := ⟨_, rfl⟩
        have hxm : x ∈ xs := by rw [← hxk]; exact List.getElem_mem _
        have hxo : x.Ok w := HOK.out x hxm
        have hxl := HLE.out x hxm
        obtain ⟨hx2, hxc⟩ := HX.out x hxm
        obtain ⟨bb, ob, rfl, c0, _⟩ := (hr.keep hbl).at (i := k) (v := x.val) (by simp [hlt, hxk])
        have hd : (xs.map (·.l)).drop k = x.l :: (xs.map (·.l)).drop (k + 1) := by
          rw [List.drop_eq_getElem_cons (by simpa using hlt)]; simp [hxk]
        rw [hd, numsF] at hRS
        have HRS := Lib.hid hRS
        have HXC := Lib.hid hxc
        clear hd hxk hxm hRS hxc HOK HLE HX HRR
        obtain ⟨l, p, cx⟩ := x
        obtain ⟨hr2, hc2, hc3, hc4⟩ := hxo
        dsimp only [PC.val] at *
        obtain ⟨pb, po, rfl, -, -, -⟩ := hr2.pt 0 (by omega)
        have hL0 : 0 < l.length := by omega
        obtain ⟨q, hq⟩ : ∃ q, l[0]! = q := ⟨_, rfl⟩
        have hQ : ∀ W, Below w.heap.size w W → W.cell? ⟨pb, po, none⟩ = some (.int .i64 q.x) ∧ W.cell? ⟨pb, po + 1, none⟩ = some (.int .i64 q.y) := fun W h => by
          obtain ⟨_, _, ee, -, d0, d1⟩ := (hr2.keep h).pt 0 (by omega)
          cases ee
          rw [Nat.zero_mul, Nat.add_zero, ← getElem!_pos l 0 (by omega), hq] at d0 d1
          exact ⟨d0, d1⟩
        have hql : Close q := by rw [← hq, getElem!_pos l 0 (by omega)]; exact HXC.out _ (List.getElem_mem _)
        have HQL := Lib.hid hql
        have HPN : Hid (partN kind at' l = [(9 : Int)] ++ byN at' q ++ [((l.length : Int) - 1) * 8 + 2] ++ pn q (l.drop 1) ++ (if kind = 3 then [15] else [])) := Lib.hid (by unfold partN; rw [hq])
        have HQ0 : Hid (l[0]! = q) := Lib.hid hq
        clear hq hql
        obtain ⟨qx, qy⟩ := q
        dsimp only at hQ
        have HQ := Lib.hid hQ
        clear hQ
        obtain ⟨B1, hB1⟩ : ∃ B1, w1.heap.size = B1 := ⟨_, rfl⟩
        rw [hB1] at b1 b2 hown hbs hs1 ⊢
        have d0 := b1.cell 0 rfl
        have hSb : S.length ≤ 300000 := by omega
        obtain ⟨i0, hi, hz0, hz1, hz2⟩ := info_parts Try.infoU64
        go_wp2_with (at_builtin; go_must (refine wpList_append_own_at (wr.alloc (.cells #[.int .u64 9] 44)) rfl (.tmp 28) (.tmp 29) 34 rfl (B1 + 2) 44 i0 (.int .u64 0) 1 8 Try.underlying34 hi hz0 hz1 hz2 rfl (by decide) v S.length (S.map (Value.int .u64)) rfl (hown.below (Below.new _ _)) ⟨wr.heap.size, 0, none⟩ 1 1 [.int .u64 9] rfl rfl (Rd.new wr [.int .u64 9] 44).add (by simp [Value.oneCell']) (by unfold maxLen; omega) (by omega) (by simp; omega) ?_); intro v2 w2 hown2 hg2 _ _; obtain ⟨pa, pc, rfl, -⟩ := hown2.form; obtain ⟨e1, hN1, hbl2⟩ := Num.app b1 b2 hown hbs (by omega) (by omega) (by omega) hs1 hbl hg2 hown2; have e0 := e1.cell 0 rfl; have f0 := e1.free 0; clear hown hown2 hbl hg2 b1 b2 d0 hbs; obtain ⟨d0, d1⟩ := HQ.out _ hbl2)
        generalize w2.setCell ⟨B1, 0, none⟩ (.slice pa (S.length + 1) pc) = w3 at hN1 hbl2 ⊢
        refine (by_any ⟨qx, qy⟩ at' (S ++ [9]) (B1 + 2) B1 (B1 + 1) w.heap.size (by omega) (by omega) (by omega) hs1 (by omega) HQL.out hca (by simp; omega) w3 hN1).mono ?_
        rintro e w4 ⟨⟨rv, rfl⟩, hN2, hb3⟩
        have hbl3 := hbl2.trans hb3
        clear hb3 hbl2 hN1 d0 d1 e0 f0 e1 c0
        obtain ⟨S2, hS2⟩ : ∃ S2, S ++ [9] ++ byN at' ⟨qx, qy⟩ = S2 := ⟨_, rfl⟩
        rw [hS2] at hN2
        have hS2l : S2.length = S.length + 3 := by rw [← hS2]; simp [byN]
        have HS2 := Lib.hid hS2
        clear hS2
        obtain ⟨v5, b3, b4, hown5, hbs5⟩ := hN2
        have d2 := b3.cell 0 rfl
        obtain ⟨VV, hVV⟩ : ∃ VV, VV = ((l.length : Int) - 1) * 8 + 2 := ⟨_, rfl⟩
        have hor : bits BinOp.or IntKind.u64 (((l.length : Int) - 1) * 8) 2 = VV := by
          rw [hVV]; exact u64_or_hi 3 _ 2 (by decide) (by omega) (by omega) (by omega) (by decide) (by decide)
        have HVV := Lib.hid hVV
        clear hVV
        go_wp2_with (at_builtin; go_must (refine wpList_append_own_at (w4.alloc (.cells #[.int .u64 VV] 44)) rfl (.tmp 36) (.tmp 43) 34 rfl (B1 + 2) 44 i0 (.int .u64 0) 1 8 Try.underlying34 hi hz0 hz1 hz2 rfl (by decide) v5 S2.length (S2.map (Value.int .u64)) rfl (hown5.below (Below.new _ _)) ⟨w4.heap.size, 0, none⟩ 1 1 [.int .u64 VV] rfl rfl (Rd.new w4 [.int .u64 VV] 44).add (by simp [Value.oneCell']) (by unfold maxLen; omega) (by omega) (by simp; omega) ?_); intro v6 w6 hown6 hg6 _ _; obtain ⟨pa6, pc6, rfl, -⟩ := hown6.form; obtain ⟨e6, hN6, hbl6⟩ := Num.app b3 b4 hown5 hbs5 (by omega) (by omega) (by omega) hs1 hbl3 hg6 hown6; have e60 := e6.cell 0 rfl; have f60 := e6.free 0; clear hown5 hown6 hbl3 hg6 b3 b4 d2 hbs5)
        rw [hS2l] at hN6 hbl6
        generalize w6.setCell ⟨B1, 0, none⟩ (.slice pa6 (S.length + 3 + 1) pc6) = w7 at hN6 hbl6 ⊢
        clear e60 f60 e6
        have hrd := hr2.drop 2
        rw [pts_drop1] at hrd
        obtain ⟨NN, hNN⟩ : ∃ NN, NN = S2 ++ [VV] ++ pn ⟨qx, qy⟩ (l.drop 1) := ⟨_, rfl⟩
        have HNN := Lib.hid hNN
        clear hNN
        have hLd : (l.drop 1).length = l.length - 1 := by simp
        go_loopw [48] (fun i wj => ∃ (j : Nat) (T : List Int) (q' : Pt), j ≤ l.length - 1 ∧ i = .int .i64 j ∧ NN = T ++ pn q' ((l.drop 1).drop j) ∧ T.length = S.length + 4 + 2 * j ∧ q' = l[j]! ∧ Close q' ∧
          Num 44 (B1 + 2) B1 (B1 + 1) wj T q' ∧ Below w.heap.size w wj) (fun i _ => l.length - (intOf i).toNat)
        case atStart =>
          exact ⟨0, S2 ++ [VV], ⟨qx, qy⟩, Nat.zero_le _, rfl, HNN.out, by simp; omega, HQ0.out.symm, HQL.out, hN6, hbl6⟩
        case round =>
          obtain ⟨j, T, q', hj, rfl, hNT, hTl, hq', hqc, hN8, hbl8⟩ := hrel
          have hs8 := hbl8.size
          by_cases hlj : j < l.length - 1
          · have hjd : j < (l.drop 1).length := by simp; omega
            obtain ⟨_, _, ee, -, f0, f1⟩ := (hrd.keep hbl8).pt j hjd
            cases ee
            have hd : (l.drop 1)[j] = l[j + 1]! := by rw [List.getElem_drop, getElem!_pos l (j + 1) (by omega)]; congr 1; omega
            have hdr : (l.drop 1).drop j = l[j + 1]! :: (l.drop 1).drop (j + 1) := by rw [List.drop_eq_getElem_cons hjd, hd]
            have hpc : Close l[j + 1]! := by rw [getElem!_pos l (j + 1) (by omega)]; exact HXC.out _ (List.getElem_mem _)
            rw [hdr, pn] at hNT
            rw [hd] at f0 f1
            have HPC := Lib.hid hpc
            have HNT := Lib.hid hNT
            obtain ⟨p, hp⟩ : ∃ p, l[j + 1]! = p := ⟨_, rfl⟩
            rw [hp] at f0 f1 HPC HNT
            have HP := Lib.hid hp
            clear hd hdr hpc hNT hp hjd hq'
            obtain ⟨px, py⟩ := p
            dsimp only at f0 f1
            have hN9 := hN8.keep (Below.new wr (.cells #[.int .i64 px, .int .i64 py] 59))
            have hbl9 := hbl8.alloc hs8 (.cells #[.int .i64 px, .int .i64 py] 59)
            clear hbl8 hN8
            go_wp2_with fail
            refine (by_any ⟨px, py⟩ q' T (B1 + 2) B1 (B1 + 1) w.heap.size (by omega) (by omega) (by omega) hs1 (by omega) HPC.out hqc (by omega) _ hN9).mono ?_
            rintro e w10 ⟨⟨rv, rfl⟩, hN10, hb10⟩
            have hbl10 := hbl9.trans hb10
            clear hN9 hbl9 hb10
            go_wp2
            go_roundw
            case rel => exact ⟨j + 1, _, _, by omega, by go_num, by rw [HNT.out, List.append_assoc], by simp [byN]; omega, HP.out.symm, HPC.out, hN10, hbl10⟩
            case measure => simp [intOf]; omega
          · obtain rfl : j = l.length - 1 := by omega
            rw [List.drop_of_length_le (by simp), pn, List.append_nil] at hNT
            have HNT := Lib.hid hNT
            have HQ' := Lib.hid hq'
            clear hNT hq'
            obtain ⟨v8, b5, b6, hown8, hbs8⟩ := hN8
            have d3 := b5.cell 0 rfl
            rcases hk with rfl | rfl
            · have hstep : Hid (R = T ++ numsF 2 q' ((xs.map (·.l)).drop (k + 1))) := Lib.hid (by
                rw [HRS.out, HPN.out, if_neg (by decide), HQ'.out, ← HNT.out, HNN.out, ← HS2.out, HVV.out]
                simp only [List.append_assoc, List.append_nil])
              clear HRS HPN HQ' HNN HS2 HVV HXC HQ HQ0
              go_wp2
              go_roundw
              case rel => exact ⟨k + 1, T, q', by omega, by go_num, hstep.out, by omega, hqc, ⟨v8, b5, b6, hown8, hbs8⟩, hbl8⟩
              case measure => simp [intOf]; omega
            · have hstep : Hid (R = (T ++ [15]) ++ numsF 3 q' ((xs.map (·.l)).drop (k + 1))) := Lib.hid (by
                rw [HRS.out, HPN.out, if_pos rfl, HQ'.out, ← HNT.out, HNN.out, ← HS2.out, HVV.out]
                simp only [List.append_assoc, List.append_nil])
              clear HRS HPN HQ' HNN HS2 HVV HXC HQ HQ0
              go_wp2_with (at_builtin; go_must (refine wpList_append_own_at (wr.alloc (.cells #[.int .u64 15] 44)) rfl (.tmp 58) (.tmp 59) 34 rfl (B1 + 2) 44 i0 (.int .u64 0) 1 8 Try.underlying34 hi hz0 hz1 hz2 rfl (by decide) v8 T.length (T.map (Value.int .u64)) rfl (hown8.below (Below.new _ _)) ⟨wr.heap.size, 0, none⟩ 1 1 [.int .u64 15] rfl rfl (Rd.new wr [.int .u64 15] 44).add (by simp [Value.oneCell']) (by unfold maxLen; omega) (by omega) (by simp; omega) ?_); intro v9 w9 hown9 hg9 _ _; obtain ⟨pa9, pc9, rfl, -⟩ := hown9.form; obtain ⟨e9, hN9, hbl9⟩ := Num.app b5 b6 hown8 hbs8 (by omega) (by omega) (by omega) hs1 hbl8 hg9 hown9; have e90 := e9.cell 0 rfl; have f90 := e9.free 0; clear hown8 hown9 hbl8 hg9 b5 b6 d3 hbs8)
              go_roundw
              case rel => rw [hTl] at hN9 hbl9; exact ⟨k + 1, T ++ [15], q', by omega, by go_num, hstep.out, by simp; omega, hqc, hN9, hbl9⟩
              case measure => simp [intOf]; omega
      · obtain rfl : k = xs.length := by omega
        have hfin : R = S := by rw [hRS, List.drop_of_length_le (by simp), numsF, List.append_nil]
        have d0 := b1.cell 0 rfl
        subst hfin
        clear hRS
        go_wp2
        refine bodyPost_ret (v := .tuple #[v, .int .i64 0]) (by simp [results, Try.results11, go_sem]) rfl ⟨v, rfl, hown.mono (by omega), hbl⟩
  · have hE' : (E != 0) = true := by simpa using hE0
    rw [if_neg hE0] at hR
    subst hR
    clear HE hE hc
    go_enter Try.func11, Try.ntmps11
    go_wp2_with fail
    refine HC.out.mono ?_
    rintro e w1 ⟨rfl, hb1⟩
    clear HC
    go_wp2
    refine bodyPost_ret (v := .tuple #[.slice none 0 0, .int .i64 E]) (by simp [results, Try.results11, go_sem]) rfl ⟨_, rfl, World.ownsRow_nil _ _ _ _, hb1⟩
end Go.Proofs.Ytephdnahmgfmeaa
