/-
  mvt.plain, mvt.single: of fields that are right. mvt.named, mvt.check. mvt.head.
-/
import Derived.Test.YtjggoajfilnfjaaGreatPk19
import Derived.Test.YtjggoajfilnfjaaGreatPk18
import Derived.Test.YtjggoajfilnfjaaGreatPk15
import Derived.Test.YtjggoajfilnfjaaGreatPk20
/- mvt.plain, mvt.single: of fields that are right. -/
set_option linter.unusedVariables false
set_option linter.unusedSimpArgs false
set_option maxRecDepth 100000
namespace Go
open Go.RowKit Go.Proto
def MetA (n : Nat) (W : World) (M : Nat) (met : List Int) : Prop := ∃ bs : List Bool, bs.length = n ∧ Blk W M (bs.map Value.bool) ∧ ∀ i : Nat, i < n → bs[i]? = some (decide ((i : Int) ∈ met))
theorem MetA.lt {n : Nat} {W : World} {M : Nat} {met : List Int} (h : MetA n W M met) : M < W.heap.size := by obtain ⟨bs, h1, h2, h3⟩ := h; exact h2.lt
theorem MetA.keep {n : Nat} {W W' : World} {M : Nat} {met : List Int} (h : MetA n W M met) (hb : Below W.heap.size W W') : MetA n W' M met := by
  obtain ⟨bs, h1, h2, h3⟩ := h; exact ⟨bs, h1, h2.keep hb, h3⟩
theorem MetA.cell {n : Nat} {W : World} {M : Nat} {met : List Int} (h : MetA n W M met) (i : Nat) (hi : i < n) (b : Bool) (hb : decide ((i : Int) ∈ met) = b) : W.cell? ⟨M, i, none⟩ = some (.bool b) := by
  obtain ⟨bs, h1, h2, h3⟩ := h; refine h2.cell i ?_; rw [List.getElem?_map, h3 i hi, hb]
  rfl
theorem MetA.free {n : Nat} {W : World} {M : Nat} {met : List Int} (h : MetA n W M met) (i : Nat) : W.frozen? ⟨M, i, none⟩ = false := by
  obtain ⟨bs, h1, h2, h3⟩ := h; exact h2.free i
theorem MetA.set {n : Nat} {W : World} {M : Nat} {met : List Int} (h : MetA n W M met) (i : Nat) (z : Int) (hz : z = (i : Int)) : MetA n (W.setCell ⟨M, i, none⟩ (.bool true)) M (z :: met) := by
  obtain ⟨bs, h1, h2, h3⟩ := h; subst hz; refine ⟨bs.set i true, by rw [List.length_set]; exact h1, by rw [List.map_set]; exact h2.set i _, fun j hj => ?_⟩; rw [List.getElem?_set]
  by_cases e : i = j
  · subst e; rw [if_pos rfl, if_pos (by omega)]; simp
  · rw [if_neg e, h3 j hj]; have : ((j : Int) ∈ (i : Int) :: met) ↔ (j : Int) ∈ met := by
      rw [List.mem_cons]; exact ⟨fun h => h.resolve_left (by omega), .inr⟩
    rw [decide_eq_decide.2 this]
theorem plGo_cons {met : List Int} {f : Fld} {l : List Fld} (h : plGo met (f :: l) = 0) :
    ((f.num = 5 ∨ f.num = 15 ∨ f.num = 1) ∧ f.kind = (if f.num = 1 then 2 else 0) ∧ f.num ∉ met ∧ plGo (f.num :: met) l = 0) ∨
    ((f.num = 2 ∨ f.num = 3 ∨ f.num = 4) ∧ f.kind = 2 ∧ plGo (f.num :: met) l = 0) ∨
    ((f.num ≠ 5 ∧ f.num ≠ 15 ∧ f.num ≠ 1 ∧ f.num ≠ 2 ∧ f.num ≠ 3 ∧ f.num ≠ 4) ∧ plGo met l = 0) := by
  rw [plGo] at h
  by_cases h1 : f.num = 5 ∨ f.num = 15 ∨ f.num = 1
  · rw [if_pos h1] at h
    by_cases h2 : f.kind ≠ (if f.num = 1 then 2 else 0)
    · rw [if_pos h2] at h; exact absurd h (by decide)
    · rw [if_neg h2] at h
      by_cases h3 : f.num ∈ met
      · rw [if_pos h3] at h; exact absurd h (by decide)
      · rw [if_neg h3] at h; exact .inl ⟨h1, Classical.not_not.1 h2, h3, h⟩
  · rw [if_neg h1] at h
    by_cases h2 : f.num = 2 ∨ f.num = 3 ∨ f.num = 4
    · rw [if_pos h2] at h
      by_cases h3 : f.kind ≠ 2
      · rw [if_pos h3] at h; exact absurd h (by decide)
      · rw [if_neg h3] at h; exact .inr (.inl ⟨h2, Classical.not_not.1 h3, h⟩)
    · rw [if_neg h2] at h; exact .inr (.inr ⟨by omega, h⟩)
theorem sgGo_cons {met : List Int} {f : Fld} {l : List Fld} (h : sgGo met (f :: l) = 0) :
    ((f.num = 1 ∨ f.num = 3 ∨ f.num = 2 ∨ f.num = 4) ∧ f.kind = (if f.num = 1 ∨ f.num = 3 then 0 else 2) ∧ f.num ∉ met ∧ sgGo (f.num :: met) l = 0) ∨
    ((f.num ≠ 1 ∧ f.num ≠ 2 ∧ f.num ≠ 3 ∧ f.num ≠ 4) ∧ sgGo met l = 0) := by
  rw [sgGo] at h
  by_cases h1 : f.num = 1 ∨ f.num = 3 ∨ f.num = 2 ∨ f.num = 4
  · rw [if_pos h1] at h
    by_cases h2 : f.kind ≠ (if f.num = 1 ∨ f.num = 3 then 0 else 2)
    · rw [if_pos h2] at h; exact absurd h (by decide)
    · rw [if_neg h2] at h
      by_cases h3 : f.num ∈ met
      · rw [if_pos h3] at h; exact absurd h (by decide)
      · rw [if_neg h3] at h; exact .inl ⟨h1, Classical.not_not.1 h2, h3, h⟩
  · rw [if_neg h1] at h; exact .inr ⟨by omega, h⟩
end Go
namespace Go.Proofs.YtjggoajfilnfjaaGreat
open Go.RowKit Go.Proto
set_option maxHeartbeats 6400000 in
theorem plain_ok (a : Option Addr) (c : Nat) (L : List FC) (hlen : L.length ≤ 1000000) (hE : plGo [] (L.map (·.f)) = 0) (w : World) (hr : Rd w a (flat L)) :
    Calls Tryz.prog 63 #[.slice a L.length c] w fun e w' => e = .returned (.int .i64 0) ∧ Below w.heap.size w w' := by
  have hza : (Tryz.prog.info? 173).map (fun i => i.zero) = some (some (.agg #[.bool false, .bool false, .bool false, .bool false, .bool false, .bool false, .bool false, .bool false, .bool false, .bool false, .bool false, .bool false, .bool false, .bool false, .bool false, .bool false])) := by kernel_rfl
  obtain ⟨N, hN⟩ : ∃ N, L.length = N := ⟨_, rfl⟩; have HN := Lib.hid hN; rw [hN] at hlen ⊢; clear hN; have HR := Lib.hid hr; have HE0 : Hid (plGo [] ((L.map (·.f)).drop 0) = 0) := Lib.hid hE; clear hr hE; have hM0 : MetA 16 (w.alloc (.cells #[.bool false, .bool false, .bool false, .bool false, .bool false, .bool false, .bool false, .bool false, .bool false, .bool false, .bool false, .bool false, .bool false, .bool false, .bool false, .bool false] 173)) w.heap.size [] := ⟨List.replicate 16 false, rfl, Blk.new w _ _, fun i hi => by rw [List.getElem?_replicate, if_pos hi]; simp⟩; have hb0 := Below.new w (.cells #[.bool false, .bool false, .bool false, .bool false, .bool false, .bool false, .bool false, .bool false, .bool false, .bool false, .bool false, .bool false, .bool false, .bool false, .bool false, .bool false] 173); obtain ⟨M, hMM⟩ : ∃ M, w.heap.size = M := ⟨_, rfl⟩; have hwM : w.heap.size ≤ M := by omega
  go_enter Tryz.func63, Tryz.ntmps63
  rw [hMM] at hM0; go_wp2
  try rw [hMM]
  generalize w.alloc (.cells #[.bool false, .bool false, .bool false, .bool false, .bool false, .bool false, .bool false, .bool false, .bool false, .bool false, .bool false, .bool false, .bool false, .bool false, .bool false, .bool false] 173) = w1 at *; replace hM0 := Lib.hid hM0; clear hMM
  go_loopw [10] (fun i wr => ∃ (k : Nat) (met : List Int), k ≤ N ∧ i = .int .i64 k ∧ Hid (plGo met ((L.map (·.f)).drop k) = 0) ∧ Hid (MetA 16 wr M met) ∧ Below w.heap.size w wr) (fun i _ => N - (intOf i).toNat)
  case atStart => exact ⟨0, [], by omega, rfl, HE0, hM0, hb0⟩
  case round =>
    clear HE0 hM0 hb0; obtain ⟨k, met, hk, rfl, HE, HM, hbr⟩ := hrel; have hNl := HN.out
    by_cases hlt : k < N
    · have hlt' : (k : Int) < (N : Int) := by omega
      have hkl : k < L.length := by omega
      obtain ⟨b, off, rfl, hb, c0, c1, c2, c3⟩ := (HR.out.keep hbr).fld k hkl; have hE := HE.out; rw [List.drop_eq_getElem_cons (by rw [List.length_map]; exact hkl), List.getElem_map] at hE; have hcs := plGo_cons hE; clear hE HE; generalize L[k] = x at *; obtain ⟨⟨fn, fk, fv, fb⟩, fp, fc⟩ := x; dsimp only at c0 c1 c2 c3 hcs; generalize fb.length = m at *; have hx := Below.new wr (.cells #[.int .i64 fn, .int .i64 fk, .int .u64 fv, .slice fp m fc] 72); have kF := Blk.new wr [.int .i64 fn, .int .i64 fk, .int .u64 fv, .slice fp m fc] 72; have hM := HM.out; have HM1 := Lib.hid (hM.keep hx); have hb2 := hbr.trans (hx.mono hbr.size); have g0 := kF.cell 0 rfl; have g1 := kF.cell 1 rfl; have hMl := HM.out.lt; clear HM hx
      rcases hcs with ⟨hk1, hk2, hk3, hE2⟩ | ⟨hk1, hk2, hE2⟩ | ⟨⟨q5, q15, q1, q2, q3, q4⟩, hE2⟩
      · rcases hk1 with rfl | rfl | rfl
        · obtain rfl : fk = 0 := by simpa using hk2
          have m0 := hM.cell 5 (by decide) false (by simpa using hk3); have fM := hM.free 5; have hM2 := Lib.hid ((hM.set 5 5 rfl).keep (Below.new _ (.cells #[.int .i64 5, .int .i64 0, .int .u64 fv, .slice fp m fc] 72))); have hb3 := (hbr.set_at (b := M) (o := 5) hwM (.bool true)).alloc (hbr.set_at (b := M) (o := 5) hwM (.bool true)).size (.cells #[.int .i64 5, .int .i64 0, .int .u64 fv, .slice fp m fc] 72); have hMn : M ≠ wr.heap.size := by omega
          have HE2 := Lib.hid hE2; clear hM hE2 hb2 HM1 hbr hk2 hk3; go_wp2; go_roundw
          case rel => exact ⟨k + 1, _, by omega, by go_num, HE2, hM2, hb3⟩
          case measure => simp [intOf]; omega
        · obtain rfl : fk = 0 := by simpa using hk2
          have m0 := hM.cell 15 (by decide) false (by simpa using hk3); have fM := hM.free 15; have hM2 := Lib.hid ((hM.set 15 15 rfl).keep (Below.new _ (.cells #[.int .i64 15, .int .i64 0, .int .u64 fv, .slice fp m fc] 72))); have hb3 := (hbr.set_at (b := M) (o := 15) hwM (.bool true)).alloc (hbr.set_at (b := M) (o := 15) hwM (.bool true)).size (.cells #[.int .i64 15, .int .i64 0, .int .u64 fv, .slice fp m fc] 72); have hMn : M ≠ wr.heap.size := by omega
          have HE2 := Lib.hid hE2; clear hM hE2 hb2 HM1 hbr hk2 hk3; go_wp2; go_roundw
          case rel => exact ⟨k + 1, _, by omega, by go_num, HE2, hM2, hb3⟩
          case measure => simp [intOf]; omega
        · obtain rfl : fk = 2 := by simpa using hk2
          have m0 := hM.cell 1 (by decide) false (by simpa using hk3); have fM := hM.free 1; have hM2 := Lib.hid ((hM.set 1 1 rfl).keep (Below.new _ (.cells #[.int .i64 1, .int .i64 2, .int .u64 fv, .slice fp m fc] 72))); have hb3 := (hbr.set_at (b := M) (o := 1) hwM (.bool true)).alloc (hbr.set_at (b := M) (o := 1) hwM (.bool true)).size (.cells #[.int .i64 1, .int .i64 2, .int .u64 fv, .slice fp m fc] 72); have hMn : M ≠ wr.heap.size := by omega
          have HE2 := Lib.hid hE2; clear hM hE2 hb2 HM1 hbr hk2 hk3; go_wp2; go_roundw
          case rel => exact ⟨k + 1, _, by omega, by go_num, HE2, hM2, hb3⟩
          case measure => simp [intOf]; omega
      · rcases hk1 with rfl | rfl | rfl
        · obtain rfl : fk = 2 := by simpa using hk2
          have m0 := hM.cell 2 (by decide) _ rfl; have fM := hM.free 2; have hM2 := Lib.hid ((hM.set 2 2 rfl).keep (Below.new _ (.cells #[.int .i64 2, .int .i64 2, .int .u64 fv, .slice fp m fc] 72))); have hb3 := (hbr.set_at (b := M) (o := 2) hwM (.bool true)).alloc (hbr.set_at (b := M) (o := 2) hwM (.bool true)).size (.cells #[.int .i64 2, .int .i64 2, .int .u64 fv, .slice fp m fc] 72); have hMn : M ≠ wr.heap.size := by omega
          have HE2 := Lib.hid hE2; clear hM hE2 hb2 HM1 hbr hk2; go_wp2; go_roundw
          case rel => exact ⟨k + 1, _, by omega, by go_num, HE2, hM2, hb3⟩
          case measure => simp [intOf]; omega
        · obtain rfl : fk = 2 := by simpa using hk2
          have m0 := hM.cell 3 (by decide) _ rfl; have fM := hM.free 3; have hM2 := Lib.hid ((hM.set 3 3 rfl).keep (Below.new _ (.cells #[.int .i64 3, .int .i64 2, .int .u64 fv, .slice fp m fc] 72))); have hb3 := (hbr.set_at (b := M) (o := 3) hwM (.bool true)).alloc (hbr.set_at (b := M) (o := 3) hwM (.bool true)).size (.cells #[.int .i64 3, .int .i64 2, .int .u64 fv, .slice fp m fc] 72); have hMn : M ≠ wr.heap.size := by omega
          have HE2 := Lib.hid hE2; clear hM hE2 hb2 HM1 hbr hk2; go_wp2; go_roundw
          case rel => exact ⟨k + 1, _, by omega, by go_num, HE2, hM2, hb3⟩
          case measure => simp [intOf]; omega
        · obtain rfl : fk = 2 := by simpa using hk2
          have m0 := hM.cell 4 (by decide) _ rfl; have fM := hM.free 4; have hM2 := Lib.hid ((hM.set 4 4 rfl).keep (Below.new _ (.cells #[.int .i64 4, .int .i64 2, .int .u64 fv, .slice fp m fc] 72))); have hb3 := (hbr.set_at (b := M) (o := 4) hwM (.bool true)).alloc (hbr.set_at (b := M) (o := 4) hwM (.bool true)).size (.cells #[.int .i64 4, .int .i64 2, .int .u64 fv, .slice fp m fc] 72); have hMn : M ≠ wr.heap.size := by omega
          have HE2 := Lib.hid hE2; clear hM hE2 hb2 HM1 hbr hk2; go_wp2; go_roundw
          case rel => exact ⟨k + 1, _, by omega, by go_num, HE2, hM2, hb3⟩
          case measure => simp [intOf]; omega
      · have e5 : (fn == 5) = false := by simpa using q5
        have e15 : (fn == 15) = false := by simpa using q15
        have e1 : (fn == 1) = false := by simpa using q1
        have e2 : (fn == 2) = false := by simpa using q2
        have e3 : (fn == 3) = false := by simpa using q3
        have e4 : (fn == 4) = false := by simpa using q4
        have HE2 := Lib.hid hE2; have HM2 := HM1; clear q1 q2 q3 q4 q5 q15 hM hE2; go_wp2; go_roundw
        case rel => exact ⟨k + 1, _, by omega, by go_num, HE2, HM2, hb2⟩
        case measure => simp [intOf]; omega
    · have hlt' : ¬ (k : Int) < (N : Int) := by omega
      go_wp2; go_ret; exact ⟨rfl, hbr⟩
set_option maxHeartbeats 6400000 in
theorem single_ok (a : Option Addr) (c : Nat) (L : List FC) (hlen : L.length ≤ 1000000) (hE : sgGo [] (L.map (·.f)) = 0) (w : World) (hr : Rd w a (flat L)) :
    Calls Tryz.prog 90 #[.slice a L.length c] w fun e w' => e = .returned (.int .i64 0) ∧ Below w.heap.size w w' := by
  have hza : (Tryz.prog.info? 200).map (fun i => i.zero) = some (some (.agg #[.bool false, .bool false, .bool false, .bool false, .bool false])) := by kernel_rfl
  obtain ⟨N, hN⟩ : ∃ N, L.length = N := ⟨_, rfl⟩; have HN := Lib.hid hN; rw [hN] at hlen ⊢; clear hN; have HR := Lib.hid hr; have HE0 : Hid (sgGo [] ((L.map (·.f)).drop 0) = 0) := Lib.hid hE; clear hr hE; have hM0 : MetA 5 (w.alloc (.cells #[.bool false, .bool false, .bool false, .bool false, .bool false] 200)) w.heap.size [] := ⟨List.replicate 5 false, rfl, Blk.new w _ _, fun i hi => by rw [List.getElem?_replicate, if_pos hi]; simp⟩; have hb0 := Below.new w (.cells #[.bool false, .bool false, .bool false, .bool false, .bool false] 200); obtain ⟨M, hMM⟩ : ∃ M, w.heap.size = M := ⟨_, rfl⟩; have hwM : w.heap.size ≤ M := by omega
  go_enter Tryz.func90, Tryz.ntmps90
  rw [hMM] at hM0; go_wp2
  try rw [hMM]
  generalize w.alloc (.cells #[.bool false, .bool false, .bool false, .bool false, .bool false] 200) = w1 at *; replace hM0 := Lib.hid hM0; clear hMM
  go_loopw [9] (fun i wr => ∃ (k : Nat) (met : List Int), k ≤ N ∧ i = .int .i64 k ∧ Hid (sgGo met ((L.map (·.f)).drop k) = 0) ∧ Hid (MetA 5 wr M met) ∧ Below w.heap.size w wr) (fun i _ => N - (intOf i).toNat)
  case atStart => exact ⟨0, [], by omega, rfl, HE0, hM0, hb0⟩
  case round =>
    clear HE0 hM0 hb0; obtain ⟨k, met, hk, rfl, HE, HM, hbr⟩ := hrel; have hNl := HN.out
    by_cases hlt : k < N
    · have hlt' : (k : Int) < (N : Int) := by omega
      have hkl : k < L.length := by omega
      obtain ⟨b, off, rfl, hb, c0, c1, c2, c3⟩ := (HR.out.keep hbr).fld k hkl; have hE := HE.out; rw [List.drop_eq_getElem_cons (by rw [List.length_map]; exact hkl), List.getElem_map] at hE; have hcs := sgGo_cons hE; clear hE HE; generalize L[k] = x at *; obtain ⟨⟨fn, fk, fv, fb⟩, fp, fc⟩ := x; dsimp only at c0 c1 c2 c3 hcs; generalize fb.length = m at *; have hx := Below.new wr (.cells #[.int .i64 fn, .int .i64 fk, .int .u64 fv, .slice fp m fc] 72); have kF := Blk.new wr [.int .i64 fn, .int .i64 fk, .int .u64 fv, .slice fp m fc] 72; have hM := HM.out; have HM1 := Lib.hid (hM.keep hx); have hb2 := hbr.trans (hx.mono hbr.size); have g0 := kF.cell 0 rfl; have g1 := kF.cell 1 rfl; have hMl := HM.out.lt; clear HM hx
      rcases hcs with ⟨hk1, hk2, hk3, hE2⟩ | ⟨⟨q1, q2, q3, q4⟩, hE2⟩
      · rcases hk1 with rfl | rfl | rfl | rfl
        · obtain rfl : fk = 0 := by simpa using hk2
          have m0 := hM.cell 1 (by decide) false (by simpa using hk3); have fM := hM.free 1; have hM2 := Lib.hid ((hM.set 1 1 rfl).keep (Below.new _ (.cells #[.int .i64 1, .int .i64 0, .int .u64 fv, .slice fp m fc] 72))); have hb3 := (hbr.set_at (b := M) (o := 1) hwM (.bool true)).alloc (hbr.set_at (b := M) (o := 1) hwM (.bool true)).size (.cells #[.int .i64 1, .int .i64 0, .int .u64 fv, .slice fp m fc] 72); have hMn : M ≠ wr.heap.size := by omega
          have HE2 := Lib.hid hE2; clear hM hE2 hb2 HM1 hbr hk2 hk3; go_wp2; go_roundw
          case rel => exact ⟨k + 1, _, by omega, by go_num, HE2, hM2, hb3⟩
          case measure => simp [intOf]; omega
        · obtain rfl : fk = 0 := by simpa using hk2
          have m0 := hM.cell 3 (by decide) false (by simpa using hk3); have fM := hM.free 3; have hM2 := Lib.hid ((hM.set 3 3 rfl).keep (Below.new _ (.cells #[.int .i64 3, .int .i64 0, .int .u64 fv, .slice fp m fc] 72))); have hb3 := (hbr.set_at (b := M) (o := 3) hwM (.bool true)).alloc (hbr.set_at (b := M) (o := 3) hwM (.bool true)).size (.cells #[.int .i64 3, .int .i64 0, .int .u64 fv, .slice fp m fc] 72); have hMn : M ≠ wr.heap.size := by omega
          have HE2 := Lib.hid hE2; clear hM hE2 hb2 HM1 hbr hk2 hk3; go_wp2; go_roundw
          case rel => exact ⟨k + 1, _, by omega, by go_num, HE2, hM2, hb3⟩
          case measure => simp [intOf]; omega
        · obtain rfl : fk = 2 := by simpa using hk2
          have m0 := hM.cell 2 (by decide) false (by simpa using hk3); have fM := hM.free 2; have hM2 := Lib.hid ((hM.set 2 2 rfl).keep (Below.new _ (.cells #[.int .i64 2, .int .i64 2, .int .u64 fv, .slice fp m fc] 72))); have hb3 := (hbr.set_at (b := M) (o := 2) hwM (.bool true)).alloc (hbr.set_at (b := M) (o := 2) hwM (.bool true)).size (.cells #[.int .i64 2, .int .i64 2, .int .u64 fv, .slice fp m fc] 72); have hMn : M ≠ wr.heap.size := by omega
          have HE2 := Lib.hid hE2; clear hM hE2 hb2 HM1 hbr hk2 hk3; go_wp2; go_roundw
          case rel => exact ⟨k + 1, _, by omega, by go_num, HE2, hM2, hb3⟩
          case measure => simp [intOf]; omega
        · obtain rfl : fk = 2 := by simpa using hk2
          have m0 := hM.cell 4 (by decide) false (by simpa using hk3); have fM := hM.free 4; have hM2 := Lib.hid ((hM.set 4 4 rfl).keep (Below.new _ (.cells #[.int .i64 4, .int .i64 2, .int .u64 fv, .slice fp m fc] 72))); have hb3 := (hbr.set_at (b := M) (o := 4) hwM (.bool true)).alloc (hbr.set_at (b := M) (o := 4) hwM (.bool true)).size (.cells #[.int .i64 4, .int .i64 2, .int .u64 fv, .slice fp m fc] 72); have hMn : M ≠ wr.heap.size := by omega
          have HE2 := Lib.hid hE2; clear hM hE2 hb2 HM1 hbr hk2 hk3; go_wp2; go_roundw
          case rel => exact ⟨k + 1, _, by omega, by go_num, HE2, hM2, hb3⟩
          case measure => simp [intOf]; omega
      · have e1 : (fn == 1) = false := by simpa using q1
        have e2 : (fn == 2) = false := by simpa using q2
        have e3 : (fn == 3) = false := by simpa using q3
        have e4 : (fn == 4) = false := by simpa using q4
        have HE2 := Lib.hid hE2; have HM2 := HM1; clear q1 q2 q3 q4 hM hE2; go_wp2; go_roundw
        case rel => exact ⟨k + 1, _, by omega, by go_num, HE2, HM2, hb2⟩
        case measure => simp [intOf]; omega
    · have hlt' : ¬ (k : Int) < (N : Int) := by omega
      go_wp2; go_ret; exact ⟨rfl, hbr⟩
end Go.Proofs.YtjggoajfilnfjaaGreat
/- mvt.named, mvt.check. -/
set_option linter.unusedVariables false
set_option linter.unusedSimpArgs false
set_option maxRecDepth 100000
namespace Go
open Go.RowKit
def Ft.Sz (f : Ft) : Prop := f.ls.length ≤ 1000 ∧ (∀ x ∈ f.ls, AtOk x) ∧ f.rs.length ≤ 1000 ∧ ∀ r ∈ f.rs, r.l.length ≤ 1000
end Go
namespace Go.Proofs.YtjggoajfilnfjaaGreat
open Go.RowKit
set_option maxHeartbeats 1600000 in
theorem named_any (s : ByteArray) (hs : s.size ≤ maxLen) (w : World) :
    Calls Tryz.prog 27 #[.string s] w fun e w' => e = .returned (.int .i64 (namedF s)) ∧ Below w.heap.size w w' := by
  have HR := Lib.hid (fun W => right_any s hs W); have HN := Lib.hid (namedF.eq_1 s); generalize namedF s = NF at *
  go_enter Tryz.func27, Tryz.ntmps27
  by_cases h0 : s.size = 0
  · have he : s = ⟨#[]⟩ := by
      apply ByteArray.ext; exact Array.eq_empty_of_size_eq_zero h0
    subst he; have hn := HN.out; rw [if_pos (.inl h0)] at hn; subst hn; clear HN; go_wp2; go_ret; exact ⟨rfl, Below.refl _ _⟩
  · have h0t : s.toList.isEmpty = false := by rw [empty_txt]; simp [h0]
    generalize rightF s = RF at *
    cases RF with
    | false =>
      have hn := HN.out; rw [if_pos (.inr rfl)] at hn; subst hn; clear HN
      go_wp2_with fail
      refine (HR.out _).mono ?_; rintro e w1 ⟨rfl, hb⟩; go_wp2; go_ret; exact ⟨rfl, hb⟩
    | true =>
      have hn := HN.out; rw [if_neg (by simp [h0])] at hn; clear HN
      by_cases h1 : 64 < s.size
      · rw [if_pos h1] at hn; subst hn; have h1' : (64 : Int) < (s.size : Int) := by omega
        go_wp2_with fail
        refine (HR.out _).mono ?_; rintro e w1 ⟨rfl, hb⟩; go_wp2; go_ret; exact ⟨rfl, hb⟩
      · rw [if_neg h1] at hn; subst hn; have h1' : ¬ (64 : Int) < (s.size : Int) := by omega
        go_wp2_with fail
        refine (HR.out _).mono ?_; rintro e w1 ⟨rfl, hb⟩; go_wp2; go_ret; exact ⟨rfl, hb⟩
set_option maxHeartbeats 1600000 in
theorem fcheck1_any (f : Ft) (hs : f.Sz) (w : World) (hf : f.Ok w) :
    Calls Tryz.prog 28 #[f.val] w fun e w' => e = .returned (.int .i64 (fchkF f.core)) ∧ Below w.heap.size w w' := by
  have HT := Lib.hid (fun (W : World) (h : Below w.heap.size w W) => tcheck_any f.aa f.ac f.ls hs.1 hs.2.1 W (hf.1.1.keep h)); have HG := Lib.hid (fun (W : World) (h : Below w.heap.size w W) => gcheck_any f.kind f.ra f.rc f.rs (by have := hs.2.2.1; omega) hs.2.2.2 W (by rw [← rcs_map]; exact hf.2.1.1.keep h) (fun r hr => (hf.2.2 r hr).keep h)); have HN : Hid (fchkF f.core = if f.id < 0 ∨ 9007199254740992 < f.id then 5 else if tcF f.ls ≠ 0 then tcF f.ls else checkE f.kind (f.rs.map (·.l))) := Lib.hid rfl; generalize fchkF f.core = NF at *; generalize tcF f.ls = TF at *; generalize checkE f.kind (f.rs.map (·.l)) = GF at *; clear hs hf; obtain ⟨id, kind, ls, aa, ac, rs, ra, rc⟩ := f; dsimp only [Ft.val, Ft.aval, Ft.rval] at *; generalize ls.length = n1 at *; generalize rs.length = n2 at *; have k1 := Blk.lit w w.heap.size [.int .i64 id, .int .i64 kind, .slice aa n1 ac, .slice ra n2 rc] 53 rfl; have hb0 := Below.new w (.cells #[.int .i64 id, .int .i64 kind, .slice aa n1 ac, .slice ra n2 rc] 53)
  go_enter Tryz.func28, Tryz.ntmps28
  have a0 := k1.cell 0 rfl; have a2 := k1.cell 2 rfl
  by_cases h1 : id < 0 ∨ 9007199254740992 < id
  · have hn := HN.out; rw [if_pos h1] at hn; subst hn
    rcases h1 with h1 | h1
    · go_wp2; go_ret; exact ⟨rfl, hb0⟩
    · have h2 : ¬ id < 0 := by omega
      go_wp2; go_ret; exact ⟨rfl, hb0⟩
  · have hn := HN.out; rw [if_neg h1] at hn; have h2 : ¬ id < 0 := by omega
    have h3 : ¬ 9007199254740992 < id := by omega
    have HN2 := Lib.hid hn; clear hn HN h1
    go_wp2_with fail
    obtain ⟨B, hB⟩ : ∃ B, w.heap.size = B := ⟨_, rfl⟩; have HB := Lib.hid hB; rw [hB] at k1 a0 a2 ⊢; generalize w.alloc (.cells #[.int .i64 id, .int .i64 kind, .slice aa n1 ac, .slice ra n2 rc] 53) = w0 at *; clear hB; refine (HT.out _ hb0).mono ?_; rintro e w1 ⟨rfl, hb1⟩; have hbw := hb0.trans (hb1.mono hb0.size); have k2 := k1.keep hb1; have c1 := k2.cell 1 rfl; have c3 := k2.cell 3 rfl; clear a0 a2 k1 hb0 hb1
    by_cases h4 : TF = 0
    · subst h4; have hn := HN2.out; rw [if_neg (by simp)] at hn; subst hn
      go_wp2_with fail
      refine (HG.out _ (by first | exact hbw | (rw [HB.out]; exact hbw))).mono ?_; rintro e w2 ⟨rfl, hb2⟩; have hbz := hbw.trans (hb2.mono hbw.size); go_wp2; go_ret; exact ⟨rfl, by first | exact hbz | (rw [← HB.out]; exact hbz)⟩
    · have hn := HN2.out; rw [if_pos h4] at hn; subst hn; have h4' : (NF != 0) = true := by simpa using h4
      go_wp2; go_ret; exact ⟨rfl, by first | exact hbw | (rw [← HB.out]; exact hbw)⟩
end Go.Proofs.YtjggoajfilnfjaaGreat
/- mvt.head. -/
set_option linter.unusedVariables false
set_option linter.unusedSimpArgs false
set_option maxRecDepth 100000
namespace Go.Proofs.YtjggoajfilnfjaaGreat
open Go.RowKit Go.Proto
theorem Tryz.fieldN (a b n : Int) (p : Option Addr) (m c : Nat) (W : World) : (Instr.field 72 (.agg #[.int .i64 a, .int .i64 b, .int .u64 n, .slice p m c]) 2).run Tryz.prog W = .ok (.int .u64 n) W := by kernel_rfl
theorem Tryz.fieldB (a b n : Int) (p : Option Addr) (m c : Nat) (W : World) : (Instr.field 72 (.agg #[.int .i64 a, .int .i64 b, .int .u64 n, .slice p m c]) 3).run Tryz.prog W = .ok (.slice p m c) W := by kernel_rfl
theorem head_nil (a : Option Addr) (c : Nat) (L : List FC) (hlen : L.length ≤ 1000000) (h0 : flt (L.map (·.f)) 15 = []) (w : World) (hr : Rd w a (flat L)) :
    Calls Tryz.prog 64 #[.slice a L.length c] w fun e w' => e = .returned (.int .i64 7) ∧ Below w.heap.size w w' := by
  have HC := Lib.hid (mcount_any a c L 15 hlen w hr); have hz : (flC L 15).length = 0 := by
    have := congrArg List.length h0; rw [← flC_flt, List.length_map] at this; exact this
  rw [hz] at HC; clear hz h0 hr; generalize L.length = N at *
  go_enter Tryz.func64, Tryz.ntmps64
  go_wp2_with fail
  refine HC.out.mono ?_; rintro e w1 ⟨rfl, hb⟩; go_wp2; go_ret; exact ⟨rfl, hb⟩
set_option maxHeartbeats 3200000 in
theorem head_ok (a : Option Addr) (c : Nat) (L : List FC) (NM : ByteArray) (hlen : L.length ≤ 1000000) (h1 : flt (L.map (·.f)) 15 ≠ []) (h2 : (fstF (L.map (·.f)) 15).n = 2) (h3 : flt (L.map (·.f)) 1 ≠ []) (h4 : (fstF (L.map (·.f)) 1).bs = bnums NM) (h5 : namedF NM = 0) (h6 : (fstF (L.map (·.f)) 5).n = 4096) (w : World) (hr : Rd w a (flat L)) (hok : ∀ x ∈ L, x.Ok w) :
    Calls Tryz.prog 64 #[.slice a L.length c] w fun e w' => e = .returned (.int .i64 0) ∧ Below w.heap.size w w' := by
  have HC := Lib.hid (fun k W (h : Below w.heap.size w W) => mcount_any a c L k hlen W (hr.keep h)); have HF := Lib.hid (fun k W (h : Below w.heap.size w W) => mfirst_any a c L k hlen W (hr.keep h)); have hlc : ∀ k, (flC L k).length ≤ 1000000 := fun k => Nat.le_trans (List.length_filter_le _ _) hlen; have n15 : 0 < (flC L 15).length := by
    rcases Nat.eq_zero_or_pos (flC L 15).length with h | h
    · exact absurd (by rw [← flC_flt, List.eq_nil_of_length_eq_zero h]; rfl) h1
    · exact h
  have n1 : 0 < (flC L 1).length := by
    rcases Nat.eq_zero_or_pos (flC L 1).length with h | h
    · exact absurd (by rw [← flC_flt, List.eq_nil_of_length_eq_zero h]; rfl) h3
    · exact h
  have l15 := hlc 15; have l1 := hlc 1; have l5 := hlc 5; have hf15 := fstC_f L 15; have hf1 := fstC_f L 1; have hf5 := fstC_f L 5; have hok1 := fstC_ok hok 1; rw [← hf15] at h2; rw [← hf1] at h4; rw [← hf5] at h6; obtain ⟨-, hnz, hsz⟩ := namedF_zero h5; have C15 := Lib.hid (HC.out 15); have C1 := Lib.hid (HC.out 1); have C5 := Lib.hid (HC.out 5); have F15 := Lib.hid (HF.out 15); have F1 := Lib.hid (HF.out 1); have F5 := Lib.hid (HF.out 5); clear HC HF hlc h1 h3 hf15 hf1 hf5 hnz hok; generalize (flC L 15).length = m15 at *; generalize (flC L 1).length = m1 at *; generalize (flC L 5).length = m5 at *; generalize fstC L 15 = x15 at *; generalize fstC L 1 = x1 at *; generalize fstC L 5 = x5 at *; generalize L.length = N at *; obtain ⟨⟨a1, a2, a3, a4⟩, a5, a6⟩ := x15; obtain ⟨⟨b1, b2, b3, b4⟩, b5, b6⟩ := x1; obtain ⟨⟨d1, d2, d3, d4⟩, d5, d6⟩ := x5; dsimp only [FC.val] at *; subst h2; subst h4; subst h6; obtain ⟨hr1, -⟩ := hok1; dsimp only at hr1; have HR1 := Lib.hid hr1; have HNA := Lib.hid (fun W => named_any NM (by unfold maxLen; omega) W); rw [h5] at HNA; have hbl := bnums_len NM; generalize a4.length = q1 at *; generalize d4.length = q2 at *; clear hr hr1 h5; have i15 : ((m15 : Int) == 0) = false := by simpa using (by omega : m15 ≠ 0)
  have i1 : ((m1 : Int) == 0) = false := by simpa using (by omega : m1 ≠ 0)
  have qn := @Tryz.fieldN; have qb := @Tryz.fieldB
  go_enter Tryz.func64, Tryz.ntmps64
  go_wp2_with fail
  refine (C15.out w (Below.refl _ _)).mono ?_; rintro e w1 ⟨rfl, hb1⟩
  go_wp2_with fail
  refine (F15.out w1 hb1).mono ?_; rintro e w2 ⟨rfl, hx⟩; have hb2 := hb1.trans (hx.mono hb1.size); clear hx
  go_wp2_with fail
  refine (C1.out w2 hb2).mono ?_; rintro e w3 ⟨rfl, hx⟩; have hb3 := hb2.trans (hx.mono hb2.size); clear hx
  go_wp2_with fail
  refine (F1.out w3 hb3).mono ?_; rintro e w4 ⟨rfl, hx⟩; have hb4 := hb3.trans (hx.mono hb3.size); clear hx; have hcv := run_convert_rd (P := Tryz.prog) w4 31 5 9 Tryz.underlying31 Tryz.underlying5 Tryz.underlying9 b5 b6 (bnums NM) (HR1.out.keep hb4); rw [strOfNums_bnums, hbl] at hcv
  go_wp2_with fail
  refine (HNA.out w4).mono ?_; rintro e w5 ⟨rfl, hx⟩; have hb5 := hb4.trans (hx.mono hb4.size); clear hx hcv
  go_wp2_with fail
  refine (C5.out w5 hb5).mono ?_; rintro e w6 ⟨rfl, hx⟩; have hb6 := hb5.trans (hx.mono hb5.size); clear hx
  by_cases h0 : m5 = 0
  · subst h0; go_wp2; go_ret; exact ⟨rfl, hb6⟩
  · have hp : (0 : Int) < (m5 : Int) := by omega
    go_wp2_with fail
    refine (F5.out w6 hb6).mono ?_; rintro e w7 ⟨rfl, hx⟩; have hb7 := hb6.trans (hx.mono hb6.size); clear hx; go_wp2; go_ret; exact ⟨rfl, hb7⟩
end Go.Proofs.YtjggoajfilnfjaaGreat
