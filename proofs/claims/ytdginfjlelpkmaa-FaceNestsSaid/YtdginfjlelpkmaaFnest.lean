/-
  face.Nest.
-/
import Derived.Test.YtdginfjlelpkmaaFaro
set_option linter.unusedVariables false
set_option linter.unusedSimpArgs false
set_option maxRecDepth 100000
namespace Go
open Go.RowKit
/-- The exteriors about holes. -/
def nestGo (rs : List (List Pt)) (acc : List Int) : List (List Pt) → List Int × Bool
  | [] => (acc, true)
  | r :: l =>
    if areaF r = 0 then ([], false)
    else if areaF r < 0 then (if arF rs r < 0 then ([], false) else nestGo rs (acc ++ [arF rs r]) l)
    else nestGo rs (acc ++ [-1]) l
def nestF (rs : List (List Pt)) : List Int × Bool := nestGo rs [] rs
end Go
namespace Go.Proofs.Ytdginfjlelpkmaa
open Go.RowKit
theorem Try.infoNI : (Try.prog.info? 3).map (fun i => (i.zero, i.size, i.bytes)) = some (some (.int .i64 0), 1, 8) := by kernel_rfl

set_option maxHeartbeats 6400000 in
theorem nest_any (f : Fc) (hn : f.rs.length ≤ 1000) (hl : ∀ r ∈ f.rs, r.l.length ≤ 1000) (w : World) (hok : f.Ok w) :
    Calls Try.prog 17 #[f.val] w fun e w' => ∃ v, e = .returned (.tuple #[v, .bool (nestF f.rings).2]) ∧ w'.ownsRow w.heap.size 3 1 v (nestF f.rings).1.length ((nestF f.rings).1.map (Value.int .i64)) ∧ Below w.heap.size w w' := by
  have HLL := Lib.hid hl
  have HOK := Lib.hid hok
  have HAR := Lib.hid (fun (r : PC) (hr : r ∈ f.rs) (W : World) (h1 : f.Ok W) (h2 : Rd W r.p (pts r.l)) => around_any f hn hl r.l r.p r.c (hl r hr) W h1 h2)
  have HRG : Hid (f.rings = f.rs.map PC.l) := Lib.hid rfl
  have HT : Hid (nestF f.rings = nestGo f.rings [] (f.rs.map PC.l)) := Lib.hid rfl
  generalize nestF f.rings = TT at *
  generalize f.rings = RS at *
  obtain ⟨rs, ra, rc, ls, aa, ac⟩ := f
  have hrc := hok.1.2
  dsimp only [Fc.val, Fc.rval, Fc.aval] at HT HLL hn hrc HAR ⊢
  obtain ⟨N, hN⟩ : ∃ N, rs.length = N := ⟨_, rfl⟩
  have HN := Lib.hid hN
  rw [hN] at hn hrc HAR ⊢
  clear hN hl hok
  have hHS := Below.new w (.cells #[.slice ra N rc, .slice aa ls.length ac] 49)
  have kF : Blk (w.alloc (.cells #[.slice ra N rc, .slice aa ls.length ac] 49)) w.heap.size [.slice ra N rc, .slice aa ls.length ac] := Blk.new w [.slice ra N rc, .slice aa ls.length ac] 49
  have hsz : (w.alloc (.cells #[.slice ra N rc, .slice aa ls.length ac] 49)).heap.size = w.heap.size + 1 := by simp
  go_enter Try.func17, Try.ntmps17
  go_wp2
  generalize w.alloc (.cells #[.slice ra N rc, .slice aa ls.length ac] 49) = wS at *
  go_loopw [4, 12] (fun o i wr => ∃ (k : Nat) (acc : List Int), k ≤ N ∧ i = .int .i64 k ∧ acc.length = k ∧ wr.ownsRow wS.heap.size 3 1 o k (acc.map (Value.int .i64)) ∧ Hid (TT = nestGo RS acc ((rs.drop k).map PC.l)) ∧ Below wS.heap.size wS wr) (fun _ i _ => N - (intOf i).toNat)
  case atStart => exact ⟨0, [], by omega, rfl, rfl, World.ownsRow_nil _ _ _ _, HT, Below.refl _ _⟩
  case round =>
    obtain ⟨k, acc, hk, rfl, hal, ho, HZ, hbl⟩ := hrel
    have hbw := hHS.trans (hbl.mono (by omega))
    by_cases h1 : k < N
    · have h1' : (k : Int) < (N : Int) := by omega
      have hkl : k < rs.length := by rw [HN.out]; exact h1
      obtain ⟨b2, o2, rfl, hb2, d0⟩ := (HOK.out.1.1.keep hbw).rc k hkl
      have HRO := Lib.hid (HOK.out.2.1 _ (List.getElem_mem hkl))
      have hL := HLL.out rs[k] (List.getElem_mem hkl)
      have HRC := Lib.hid (fun W h1 h2 => HAR.out (rs[k]'hkl) (List.getElem_mem hkl) W h1 h2)
      have HD : Hid (rs.drop k = rs[k] :: rs.drop (k + 1)) := Lib.hid (List.drop_eq_getElem_cons hkl)
      generalize rs[k] = R at *
      obtain ⟨LL, Rp, Rc⟩ := R
      dsimp only [PC.val] at d0 hL HRC
      have HZ2 : Hid (TT = if areaF LL = 0 then ([], false) else if areaF LL < 0 then (if arF RS LL < 0 then ([], false) else nestGo RS (acc ++ [arF RS LL]) ((rs.drop (k + 1)).map PC.l)) else nestGo RS (acc ++ [-1]) ((rs.drop (k + 1)).map PC.l)) := Lib.hid (by
        rw [HZ.out, HD.out]; rfl)
      have HAC := Lib.hid (fun W h => rarea_any Rp Rc LL hL W h)
      obtain ⟨AR, hAR⟩ : ∃ z, areaF LL = z := ⟨_, rfl⟩
      obtain ⟨AF, hAF⟩ : ∃ z, arF RS LL = z := ⟨_, rfl⟩
      rw [hAR] at HZ2 HAC
      rw [hAF] at HZ2 HRC
      clear hAR hAF HZ
      go_wp2_with fail
      refine (HAC.out _ (HRO.out.1.keep hbw)).mono ?_
      rintro e w2 ⟨rfl, hx2⟩
      have hb2' := hbl.trans (hx2.mono hbl.size)
      have ho2 := ho.below hx2
      have hbw2 := hHS.trans (hb2'.mono (by omega))
      have bF := kF.keep hb2'
      have e0 := bF.cell 0 rfl
      have e1 := bF.cell 1 rfl
      clear ho hx2 bF
      by_cases q1 : AR = 0
      · have HV : Hid (TT = ([], false)) := Lib.hid (by rw [HZ2.out, if_pos q1])
        go_wp2
        refine bodyPost_ret (v := .tuple #[.slice none 0 0, .bool false]) ?_ rfl ⟨.slice none 0 0, by rw [HV.out], by rw [HV.out]; exact World.ownsRow_nil _ _ _ _, hbw2⟩
        simp [results, Try.results17, go_sem]
      · by_cases q2 : AR < 0
        · go_wp2_with fail
          refine (HRC.out _ (HOK.out.keep hbw2) (HRO.out.1.keep hbw2)).mono ?_
          rintro e w3 ⟨rfl, hx3⟩
          have hb3 := hb2'.trans (hx3.mono hb2'.size)
          have ho3 := ho2.below hx3
          have hbw3 := hHS.trans (hb3.mono (by omega))
          clear ho2 hx3 e0 e1
          by_cases q3 : AF < 0
          · have HV : Hid (TT = ([], false)) := Lib.hid (by rw [HZ2.out, if_neg q1, if_pos q2, if_pos q3])
            go_wp2
            refine bodyPost_ret (v := .tuple #[.slice none 0 0, .bool false]) ?_ rfl ⟨.slice none 0 0, by rw [HV.out], by rw [HV.out]; exact World.ownsRow_nil _ _ _ _, hbw3⟩
            simp [results, Try.results17, go_sem]
          · have HZ3 : Hid (TT = nestGo RS (acc ++ [AF]) ((rs.drop (k + 1)).map PC.l)) := Lib.hid (by rw [HZ2.out, if_neg q1, if_pos q2, if_neg q3])
            go_wp2_with (at_builtin; go_must (refine wpList_appLit' wS hb3 rfl (.tmp 29) (.tmp 31) 56 rfl 3 (.int .i64 0) 1 8 Try.underlying56 Try.infoNI rfl (by decide) (by decide) u4 k (acc.map (Value.int .i64)) rfl ho3 1 1 [.int .i64 AF] _ rfl rfl (by simp [Value.oneCell']) (by omega) ?_); intro v9 W9 ho9 hg9 hb9; clear ho3 hg9)
            exact ⟨⟨k + 1, acc ++ [AF], by omega, by go_num, by simp [hal], by simpa using ho9, HZ3, hb9⟩, by simp [intOf]; omega⟩
        · have HZ3 : Hid (TT = nestGo RS (acc ++ [-1]) ((rs.drop (k + 1)).map PC.l)) := Lib.hid (by rw [HZ2.out, if_neg q1, if_neg q2])
          go_wp2_with (at_builtin; go_must (refine wpList_appLit' wS hb2' rfl (.tmp 29) (.tmp 31) 56 rfl 3 (.int .i64 0) 1 8 Try.underlying56 Try.infoNI rfl (by decide) (by decide) u4 k (acc.map (Value.int .i64)) rfl ho2 1 1 [.int .i64 (-1)] _ rfl rfl (by simp [Value.oneCell']) (by omega) ?_); intro v9 W9 ho9 hg9 hb9; clear ho2 hg9)
          exact ⟨⟨k + 1, acc ++ [-1], by omega, by go_num, by simp [hal], by simpa using ho9, HZ3, hb9⟩, by simp [intOf]; omega⟩
    · have h1' : ¬ (k : Int) < (N : Int) := by omega
      have hd : rs.drop k = [] := List.drop_of_length_le (by rw [HN.out]; omega)
      rw [hd] at HZ
      have HV : Hid (TT = (acc, true)) := Lib.hid (by rw [HZ.out]; rfl)
      have HO : Hid (wr.ownsRow w.heap.size 3 1 u4 acc.length (acc.map (Value.int .i64))) := Lib.hid (by rw [hal]; exact ho.mono (by omega))
      go_wp2
      refine bodyPost_ret (v := .tuple #[u4, .bool true]) ?_ rfl ⟨u4, by rw [HV.out], by rw [HV.out]; exact HO.out, hbw⟩
      simp [results, Try.results17, go_sem]
end Go.Proofs.Ytdginfjlelpkmaa
