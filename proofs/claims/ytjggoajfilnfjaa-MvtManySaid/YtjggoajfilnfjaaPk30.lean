/-
  MvtMany: the walk.
-/
import Derived.Test.YtjggoajfilnfjaaPk29
/- MvtMany: the walk. -/
set_option linter.unusedVariables false
set_option linter.unusedSimpArgs false
set_option maxRecDepth 100000
namespace Go
open Go.RowKit
theorem Off.typ {W : World} {base R : Nat} {Ts : List TypeId} {T : TypeId} {vs : List Value} (hb : BkT W R T vs) (hT : T ∉ Ts) : Off W base Ts (some R) := fun b cs T' fr hc hm _ e => by
  have h1 := Option.some.inj e; subst h1; have h2 : W.heap[b]? = some (.cells vs.toArray T (0, 0)) := hb; rw [h2] at hc
  cases hc
  exact hT hm
theorem ByT.lit (w : World) (base b : Nat) (xs : List Value) (T : TypeId) (hb : w.heap.size = b) (hl : base ≤ b) : ByT (w.alloc (.cells xs.toArray T)) base (some ⟨b, 0, none⟩) T := by
  subst hb; refine ⟨fun b' hx => ?_, fun b' hx => ?_⟩
  · obtain rfl : w.heap.size = b' := by simpa using hx
    exact ⟨_, _, heap_alloc_new w _⟩
  · obtain rfl : w.heap.size = b' := by simpa using hx
    exact hl
end Go
namespace Go.Proofs.Ytjggoajfilnfjaa
open Go.RowKit
set_option maxHeartbeats 12800000 in
theorem mvtMany_walk (lay : Int) (_wl : (Lit.int .i64 lay).wf = true) (feat : Int) (_wf : (Lit.int .i64 feat).wf = true) (w : World) :
    Calls Try.prog 3 #[.int .i64 lay, .int .i64 feat] w fun e w' => e = .returned (.bool true) ∧ Below w.heap.size w w' := by
  obtain ⟨u1, hu1⟩ : ∃ q, IntKind.u64.wrap lay = q := ⟨_, rfl⟩; obtain ⟨u2, hu2⟩ : ∃ q, IntKind.u64.wrap feat = q := ⟨_, rfl⟩; have h1 : 0 ≤ u1 ∧ u1 ≤ 18446744073709551615 := by rw [← hu1, IntKind.wrap_u64]; omega
  have h2 : 0 ≤ u2 ∧ u2 ≤ 18446744073709551615 := by rw [← hu2, IntKind.wrap_u64]; omega
  obtain ⟨n, hn⟩ : ∃ n : Nat, u1 % 41 = (n : Int) := ⟨(u1 % 41).toNat, by omega⟩; obtain ⟨m, hm⟩ : ∃ m : Nat, u2 % 1101 = (m : Int) := ⟨(u2 % 1101).toNat, by omega⟩; have hn2 : u1.tmod 41 = (n : Int) := by rw [Int.tmod_eq_emod_of_nonneg h1.1]; exact hn
  have hm2 : u2.tmod 1101 = (m : Int) := by rw [Int.tmod_eq_emod_of_nonneg h2.1]; exact hm
  have hn40 : n ≤ 40 := by omega
  have hm1100 : m ≤ 1100 := by omega
  have hz : (Try.prog.info? 24).map (fun i => i.zero) = some (some (.agg #[.slice none 0 0])) := by kernel_rfl
  have hzp : (Try.prog.info? 27).map (fun i => i.zero) = some (some (.agg #[.int .i64 0, .int .i64 0])) := by kernel_rfl
  have hzf : (Try.prog.info? 32).map (fun i => i.zero) = some (some (.agg #[.int .i64 0, .int .i64 0, .slice none 0 0, .slice none 0 0])) := by kernel_rfl
  have hzl : (Try.prog.info? 36).map (fun i => i.zero) = some (some (.agg #[.string ⟨#[]⟩, .slice none 0 0])) := by kernel_rfl
  clear hn hm h1 h2
  go_enter Try.func3, Try.ntmps3
  go_wp2; have kT := (((BkT.lit w w.heap.size [.slice none 0 0] 24 rfl).alloc (.cells #[.int .i64 0, .int .i64 0, .int .i64 1, .int .i64 0] 27)).alloc (.cells #[.slice (some ⟨w.heap.size + 1, 0, none⟩) 2 2] 28)).alloc (.cells #[.int .i64 0, .int .i64 2, .slice none 0 0, .slice (some ⟨w.heap.size + 1 + 1, 0, none⟩) 1 1] 32); have rp := ((Rd.lit (w.alloc (.cells #[.slice none 0 0] 24)) (w.heap.size + 1) [.int .i64 0, .int .i64 0, .int .i64 1, .int .i64 0] 27 (by simp)).alloc (.cells #[.slice (some ⟨w.heap.size + 1, 0, none⟩) 2 2] 28)).alloc (.cells #[.int .i64 0, .int .i64 2, .slice none 0 0, .slice (some ⟨w.heap.size + 1 + 1, 0, none⟩) 1 1] 32); have bp := ((ByT.lit (w.alloc (.cells #[.slice none 0 0] 24)) w.heap.size (w.heap.size + 1) [.int .i64 0, .int .i64 0, .int .i64 1, .int .i64 0] 27 (by simp) (by omega)).below (Below.new _ (.cells #[.slice (some ⟨w.heap.size + 1, 0, none⟩) 2 2] 28))).below (Below.new _ (.cells #[.int .i64 0, .int .i64 2, .slice none 0 0, .slice (some ⟨w.heap.size + 1 + 1, 0, none⟩) 1 1] 32)); have rq := (Rd.lit ((w.alloc (.cells #[.slice none 0 0] 24)).alloc (.cells #[.int .i64 0, .int .i64 0, .int .i64 1, .int .i64 0] 27)) (w.heap.size + 1 + 1) [.slice (some ⟨w.heap.size + 1, 0, none⟩) 2 2] 28 (by simp)).alloc (.cells #[.int .i64 0, .int .i64 2, .slice none 0 0, .slice (some ⟨w.heap.size + 1 + 1, 0, none⟩) 1 1] 32); have bq := (ByT.lit ((w.alloc (.cells #[.slice none 0 0] 24)).alloc (.cells #[.int .i64 0, .int .i64 0, .int .i64 1, .int .i64 0] 27)) w.heap.size (w.heap.size + 1 + 1) [.slice (some ⟨w.heap.size + 1, 0, none⟩) 2 2] 28 (by simp) (by omega)).below (Below.new _ (.cells #[.int .i64 0, .int .i64 2, .slice none 0 0, .slice (some ⟨w.heap.size + 1 + 1, 0, none⟩) 1 1] 32))
  have kF := BkT.lit (((w.alloc (.cells #[.slice none 0 0] 24)).alloc (.cells #[.int .i64 0, .int .i64 0, .int .i64 1, .int .i64 0] 27)).alloc (.cells #[.slice (some ⟨w.heap.size + 1, 0, none⟩) 2 2] 28)) (w.heap.size + 1 + 1 + 1) [.int .i64 0, .int .i64 2, .slice none 0 0, .slice (some ⟨w.heap.size + 1 + 1, 0, none⟩) 1 1] 32 (by simp); have hb1 : Below w.heap.size w ((((w.alloc (.cells #[.slice none 0 0] 24)).alloc (.cells #[.int .i64 0, .int .i64 0, .int .i64 1, .int .i64 0] 27)).alloc (.cells #[.slice (some ⟨w.heap.size + 1, 0, none⟩) 2 2] 28)).alloc (.cells #[.int .i64 0, .int .i64 2, .slice none 0 0, .slice (some ⟨w.heap.size + 1 + 1, 0, none⟩) 1 1] 32)) := (((Below.new w _).alloc (by simp) _).alloc (by simp; omega) _).alloc (by simp; omega) _; have hs1 : ((((w.alloc (.cells #[.slice none 0 0] 24)).alloc (.cells #[.int .i64 0, .int .i64 0, .int .i64 1, .int .i64 0] 27)).alloc (.cells #[.slice (some ⟨w.heap.size + 1, 0, none⟩) 2 2] 28)).alloc (.cells #[.int .i64 0, .int .i64 2, .slice none 0 0, .slice (some ⟨w.heap.size + 1 + 1, 0, none⟩) 1 1] 32)).heap.size = w.heap.size + 1 + 1 + 1 + 1 := by simp
  generalize ((((w.alloc (.cells #[.slice none 0 0] 24)).alloc (.cells #[.int .i64 0, .int .i64 0, .int .i64 1, .int .i64 0] 27)).alloc (.cells #[.slice (some ⟨w.heap.size + 1, 0, none⟩) 2 2] 28)).alloc (.cells #[.int .i64 0, .int .i64 2, .slice none 0 0, .slice (some ⟨w.heap.size + 1 + 1, 0, none⟩) 1 1] 32)) = w1 at *; obtain ⟨f0, hf0⟩ : ∃ f : Ft, f = ⟨0, 2, [], none, 0, [⟨[⟨0, 0⟩, ⟨1, 0⟩], some ⟨w.heap.size + 1, 0, none⟩, 2⟩], some ⟨w.heap.size + 1 + 1, 0, none⟩, 1⟩ := ⟨_, rfl⟩; have hfc : f0.core = exC := by rw [hf0]; rfl
  have hfv : f0.cells = [.int .i64 0, .int .i64 2, .slice none 0 0, .slice (some ⟨w.heap.size + 1 + 1, 0, none⟩) 1 1] := by rw [hf0]; rfl
  have hfs : f0.Sz := by
    rw [hf0]; refine ⟨(show (0 : Nat) ≤ 1000 by decide), by simp, (show (1 : Nat) ≤ 1000 by decide), fun r hr => ?_⟩; rw [List.mem_singleton.1 hr]; exact (show (2 : Nat) ≤ 1000 by decide)
  have hft : FtT w.heap.size w1 f0 := by
    rw [hf0]; refine ⟨⟨⟨Rd.nil _ _, Nat.le_refl _, (show (0 : Nat) ≤ maxLen by decide), fun _ => rfl⟩, ⟨rq, Nat.le_refl _, (show (1 : Nat) ≤ maxLen by decide), fun h => by cases h⟩, fun r hr => ?_⟩, ⟨TypB.none _ _, fun b h => by cases h⟩, bq, fun r hr => ?_⟩
    · rw [List.mem_singleton.1 hr]; exact ⟨rp, Nat.le_refl _, (show (2 : Nat) ≤ maxLen by decide), fun h => by cases h⟩
    · rw [List.mem_singleton.1 hr]; exact bp
  obtain ⟨T, hT⟩ : ∃ T, w.heap.size = T := ⟨_, rfl⟩; have HFC := Lib.hid hfc; have HFV := Lib.hid hfv; have HFS := Lib.hid hfs; have HFT0 := Lib.hid hft; have HS1 := Lib.hid hs1; have hw1 : T + 1 + 1 + 1 < w1.heap.size := by omega
  rw [hT] at kT kF HFV hb1 HFT0 hfv; have hwT : w.heap.size ≤ T := by omega
  have hwle : w.heap.size ≤ w1.heap.size := by omega
  simp only [hT]; have HTE := Lib.hid hT; clear hf0 hfc hfv hfs hft rp bp rq bq hs1 hT; have HKT := Lib.hid kT; have HKF := Lib.hid kF
  go_loopw [9] (fun i wr => ∃ (k : Nat) (v : Value) (Y : List Ly), k ≤ n ∧ i = .int .i64 k ∧ Hid (BkT wr T 24 [v]) ∧ Hid (BkT wr (T + 1 + 1 + 1) 32 [.int .i64 0, .int .i64 2, .slice none 0 0, .slice (some ⟨T + 1 + 1, 0, none⟩) 1 1]) ∧ Hid (wr.ownsRow w1.heap.size 36 2 v Y.length (lys Y)) ∧ Hid (Y.map Ly.core = (List.range k).map mkY) ∧ Hid (Y.length = k) ∧ Hid (∀ y ∈ Y, LyT T wr y ∧ y.Sz) ∧ Hid (FtT T wr f0) ∧ Hid (w1.heap.size ≤ wr.heap.size) ∧ Hid (Below T w wr)) (fun i _ => n - (intOf i).toNat)
  case atStart => exact ⟨0, .slice none 0 0, [], by omega, rfl, HKT, HKF, Lib.hid (World.ownsRow_nil _ _ _ _), Lib.hid rfl, Lib.hid rfl, Lib.hid (by simp), HFT0, Lib.hid (Nat.le_refl _), Lib.hid hb1⟩
  case round =>
    clear HKT HKF HFT0 kT kF hb1; obtain ⟨k, v, Y, hk, rfl, HT, HF, HO, HC, HL, HY, HFT, HSZ, HB⟩ := hrel
    by_cases hlt : k < n
    · have hlt' : (k : Int) < (n : Int) := by omega
      obtain ⟨q1, hq1⟩ : ∃ q, k % 26 = q := ⟨_, rfl⟩; obtain ⟨q2, hq2⟩ : ∃ q, k / 26 = q := ⟨_, rfl⟩; have hm1 : (k : Int).tmod 26 = (q1 : Int) := by rw [Int.tmod_eq_emod_of_nonneg (by omega)]; omega
      have hm2' : (k : Int).tdiv 26 = (q2 : Int) := by rw [Int.tdiv_eq_ediv_of_nonneg (by omega)]; omega
      have hb1 : q1 ≤ 25 := by omega
      have hb2 : q2 ≤ 1 := by omega
      have HNM : Hid (nmB k = strOfNums [((97 + q1 : Nat) : Int), ((97 + q2 : Nat) : Int)]) := Lib.hid (by rw [nmB, hq1, hq2]); have f0c := HF.out.blk.cell 0 rfl; have f1c := HF.out.blk.cell 1 rfl; have f2c := HF.out.blk.cell 2 rfl; have f3c := HF.out.blk.cell 3 rfl; have hlF := HF.out.lt; have hcv := run_convert_rd (P := Try.prog) (wr.alloc (.cells #[.int .u8 (97 + (q1 : Int)), .int .u8 (97 + (q2 : Int))] 5)) 33 5 9 Try.underlying33 Try.underlying5 Try.underlying9 (some ⟨wr.heap.size, 0, none⟩) 2 [97 + (q1 : Int), 97 + (q2 : Int)] (Rd.new wr [.int .u8 (97 + (q1 : Int)), .int .u8 (97 + (q2 : Int))] 5); simp only [List.length_cons, List.length_nil, Nat.reduceAdd] at hcv; have HNM2 : Hid (strOfNums [97 + (q1 : Int), 97 + (q2 : Int)] = nmB k) := Lib.hid (by rw [HNM.out]; simp); obtain ⟨NM, hNM⟩ : ∃ s, strOfNums [97 + (q1 : Int), 97 + (q2 : Int)] = s := ⟨_, rfl⟩; rw [hNM] at hcv HNM2; have t0 := HT.out.blk.cell 0 rfl; have hlT := HT.out.lt; have hsz := HSZ.out; have hxx : Below wr.heap.size wr (((wr.alloc (.cells #[.int .u8 (97 + (q1 : Int)), .int .u8 (97 + (q2 : Int))] 5)).alloc (.cells #[.int .i64 0, .int .i64 2, .slice none 0 0, .slice (some ⟨T + 1 + 1, 0, none⟩) 1 1] 32)).alloc (.cells #[.string NM, .slice (some ⟨wr.heap.size + 1, 0, none⟩) 1 1] 36)) := (((Below.new wr (.cells #[.int .u8 (97 + (q1 : Int)), .int .u8 (97 + (q2 : Int))] 5)).alloc (by simp) (.cells #[.int .i64 0, .int .i64 2, .slice none 0 0, .slice (some ⟨T + 1 + 1, 0, none⟩) 1 1] 32)).alloc (by simp; omega) (.cells #[.string NM, .slice (some ⟨wr.heap.size + 1, 0, none⟩) 1 1] 36))
      have rf : Rd (((wr.alloc (.cells #[.int .u8 (97 + (q1 : Int)), .int .u8 (97 + (q2 : Int))] 5)).alloc (.cells #[.int .i64 0, .int .i64 2, .slice none 0 0, .slice (some ⟨T + 1 + 1, 0, none⟩) 1 1] 32)).alloc (.cells #[.string NM, .slice (some ⟨wr.heap.size + 1, 0, none⟩) 1 1] 36)) (some ⟨wr.heap.size + 1, 0, none⟩) [.int .i64 0, .int .i64 2, .slice none 0 0, .slice (some ⟨T + 1 + 1, 0, none⟩) 1 1] := (Rd.lit (wr.alloc (.cells #[.int .u8 (97 + (q1 : Int)), .int .u8 (97 + (q2 : Int))] 5)) (wr.heap.size + 1) [.int .i64 0, .int .i64 2, .slice none 0 0, .slice (some ⟨T + 1 + 1, 0, none⟩) 1 1] 32 (by simp)).alloc (.cells #[.string NM, .slice (some ⟨wr.heap.size + 1, 0, none⟩) 1 1] 36); have bf : ByT (((wr.alloc (.cells #[.int .u8 (97 + (q1 : Int)), .int .u8 (97 + (q2 : Int))] 5)).alloc (.cells #[.int .i64 0, .int .i64 2, .slice none 0 0, .slice (some ⟨T + 1 + 1, 0, none⟩) 1 1] 32)).alloc (.cells #[.string NM, .slice (some ⟨wr.heap.size + 1, 0, none⟩) 1 1] 36)) T (some ⟨wr.heap.size + 1, 0, none⟩) 32 := (ByT.lit (wr.alloc (.cells #[.int .u8 (97 + (q1 : Int)), .int .u8 (97 + (q2 : Int))] 5)) T (wr.heap.size + 1) [.int .i64 0, .int .i64 2, .slice none 0 0, .slice (some ⟨T + 1 + 1, 0, none⟩) 1 1] 32 (by simp) (by omega)).below (Below.new _ (.cells #[.string NM, .slice (some ⟨wr.heap.size + 1, 0, none⟩) 1 1] 36)); have kX : Blk (((wr.alloc (.cells #[.int .u8 (97 + (q1 : Int)), .int .u8 (97 + (q2 : Int))] 5)).alloc (.cells #[.int .i64 0, .int .i64 2, .slice none 0 0, .slice (some ⟨T + 1 + 1, 0, none⟩) 1 1] 32)).alloc (.cells #[.string NM, .slice (some ⟨wr.heap.size + 1, 0, none⟩) 1 1] 36)) (wr.heap.size + 1 + 1) [.string NM, .slice (some ⟨wr.heap.size + 1, 0, none⟩) 1 1] := Blk.lit ((wr.alloc (.cells #[.int .u8 (97 + (q1 : Int)), .int .u8 (97 + (q2 : Int))] 5)).alloc (.cells #[.int .i64 0, .int .i64 2, .slice none 0 0, .slice (some ⟨T + 1 + 1, 0, none⟩) 1 1] 32)) (wr.heap.size + 1 + 1) [.string NM, .slice (some ⟨wr.heap.size + 1, 0, none⟩) 1 1] 36 (by simp)
      have x0 := kX.cell 0 rfl; have x1 := kX.cell 1 rfl; have hz3 : (((wr.alloc (.cells #[.int .u8 (97 + (q1 : Int)), .int .u8 (97 + (q2 : Int))] 5)).alloc (.cells #[.int .i64 0, .int .i64 2, .slice none 0 0, .slice (some ⟨T + 1 + 1, 0, none⟩) 1 1] 32)).alloc (.cells #[.string NM, .slice (some ⟨wr.heap.size + 1, 0, none⟩) 1 1] 36)).heap.size = wr.heap.size + 1 + 1 + 1 := by simp
      have ho3 := HO.out.below hxx; have hft3 := HFT.out.below hxx; have HKT3 := Lib.hid (HT.out.keep hxx); have t3 := HKT3.out.blk.cell 0 rfl; have nT1 : T ≠ wr.heap.size := by omega
      have HKF3 := Lib.hid (HF.out.keep hxx); have HFT3 := Lib.hid hft3; have HB3 := Lib.hid (HB.out.trans (hxx.mono (by omega : T ≤ wr.heap.size))); have HY3 := Lib.hid (fun y hy => (HY.out y hy).1.below hxx); have hs3 : w1.heap.size ≤ (((wr.alloc (.cells #[.int .u8 (97 + (q1 : Int)), .int .u8 (97 + (q2 : Int))] 5)).alloc (.cells #[.int .i64 0, .int .i64 2, .slice none 0 0, .slice (some ⟨T + 1 + 1, 0, none⟩) 1 1] 32)).alloc (.cells #[.string NM, .slice (some ⟨wr.heap.size + 1, 0, none⟩) 1 1] 36)).heap.size := by omega
      have hYl : Y.length ≤ 40 := by have := HL.out; omega
      have HNY : Hid (LyT T (((wr.alloc (.cells #[.int .u8 (97 + (q1 : Int)), .int .u8 (97 + (q2 : Int))] 5)).alloc (.cells #[.int .i64 0, .int .i64 2, .slice none 0 0, .slice (some ⟨T + 1 + 1, 0, none⟩) 1 1] 32)).alloc (.cells #[.string NM, .slice (some ⟨wr.heap.size + 1, 0, none⟩) 1 1] 36)) ⟨NM, [f0], some ⟨wr.heap.size + 1, 0, none⟩, 1⟩) := Lib.hid ⟨⟨⟨by rw [show fts [f0] = f0.cells from by simp [fts], HFV.out]; exact rf, Nat.le_refl _, (show (1 : Nat) ≤ maxLen by decide), fun h => by cases h⟩, fun f hf => by rw [List.mem_singleton.1 hf]; exact hft3.1⟩, bf, fun f hf => by rw [List.mem_singleton.1 hf]; exact hft3⟩; have HNZ : Hid (Ly.Sz ⟨NM, [f0], some ⟨wr.heap.size + 1, 0, none⟩, 1⟩) := Lib.hid ⟨by rw [show (⟨NM, [f0], some ⟨wr.heap.size + 1, 0, none⟩, 1⟩ : Ly).name = NM from rfl, ← hNM]; exact (show (2 : Nat) ≤ maxLen by decide), (show (1 : Nat) ≤ 100000 by decide), fun f hf => by rw [List.mem_singleton.1 hf]; exact HFS.out⟩; have HO3 := Lib.hid ho3; have HZ3 := Lib.hid hz3; have HNE := Lib.hid hNM; have hHF := hlF; clear hq1 hq2 rf bf kX hft3 hxx hNM hz3 ho3; have hLn := Lib.hid (fun (W : World) => Below.new W (.cells #[.string NM, .slice (some ⟨wr.heap.size + 1, 0, none⟩) 1 1] 36))
      go_wp2_with (at_builtin; go_must (refine wpList_app rfl (.tmp 46) (.tmp 48) 22 rfl w1.heap.size 36 (.agg #[.string ⟨#[]⟩, .slice none 0 0]) 2 40 Try.underlying22 Try.infoLay rfl (by decide) v Y.length (lys Y) rfl (HO3.out.below (hLn.out _)) (some ⟨wr.heap.size + 1 + 1 + 1, 0, none⟩) 1 1 [.string NM, .slice (some ⟨wr.heap.size + 1, 0, none⟩) 1 1] rfl (fun h => by cases h) (Rd.lit _ _ [.string NM, .slice (some ⟨wr.heap.size + 1, 0, none⟩) 1 1] _ (by simp)) rfl (by simp [Value.oneCell']) (by omega) (by decide) (by simp; omega) ?_); intro v' W5 hown hgr; obtain ⟨g', cap', rfl⟩ := ownsRow_succ hown; have hO4 := HO3.out.below (hLn.out _); have kT5 := (HKT3.out.alloc (.cells #[.string NM, .slice (some ⟨wr.heap.size + 1, 0, none⟩) 1 1] 36)).grown hgr (hO4.ne (by omega)); have t5 := kT5.blk.cell 0 rfl; have f5 := kT5.blk.free 0)
      have hta := HO3.out.below (hLn.out _); have kF5 := (HKF3.out.alloc (.cells #[.string NM, .slice (some ⟨wr.heap.size + 1, 0, none⟩) 1 1] 36)).grown hgr (hta.ne (by omega)); have hso : Off _ T lyTs _ := Off.row (base := T) hta (by decide); have hsf : Off _ T ftTs _ := Off.row (base := T) hta (by decide); have hb5 := ((HB3.out.alloc (by have := HB3.out.size; omega) (.cells #[.string NM, .slice (some ⟨wr.heap.size + 1, 0, none⟩) 1 1] 36)).grown hgr (by have := HB3.out.size; simp at this ⊢; omega) (fun j hj => Nat.le_trans (by omega) (hta.lt j hj).1)).set_at (b := T) (o := 0) (Nat.le_refl _) (.slice (some ⟨g', 0, none⟩) (Y.length + 1) cap'); have hof : Off W5 T lyTs (some T) := Off.typ kT5 (by decide); have hog : Off W5 T ftTs (some T) := Off.typ kT5 (by decide); have hY5 : ∀ y ∈ Y ++ [⟨NM, [f0], some ⟨wr.heap.size + 1, 0, none⟩, 1⟩], LyT T (W5.setCell ⟨T, 0, none⟩ (.slice (some ⟨g', 0, none⟩) (Y.length + 1) cap')) y ∧ y.Sz := fun y hy => by
        rcases List.mem_append.1 hy with hy | hy
        · exact ⟨(((HY3.out y hy).below (hLn.out _)).gr hgr hso).gr (grown_set W5 T 0 _) hof, (HY.out y hy).2⟩
        · rw [List.mem_singleton.1 hy]; exact ⟨((HNY.out.below (hLn.out _)).gr hgr hso).gr (grown_set W5 T 0 _) hof, HNZ.out⟩
      have hft5 := (((HFT3.out.below (hLn.out _)).gr hgr hsf).gr (grown_set W5 T 0 (.slice (some ⟨g', 0, none⟩) (Y.length + 1) cap')) hog); have ho5 := hown.set_lt (b := T) (o := 0) (by omega) (.slice (some ⟨g', 0, none⟩) (Y.length + 1) cap'); have hs5 := Nat.le_trans (Nat.le_trans hs3 (hLn.out _).size) hgr.size; go_roundw
      case rel =>
        refine ⟨k + 1, (.slice (some ⟨g', 0, none⟩) (Y.length + 1) cap'), Y ++ [⟨NM, [f0], some ⟨wr.heap.size + 1, 0, none⟩, 1⟩], by omega, by go_num, Lib.hid (kT5.set 0 (.slice (some ⟨g', 0, none⟩) (Y.length + 1) cap')), Lib.hid (kF5.other (by omega) _), Lib.hid ?_, Lib.hid ?_, Lib.hid ?_, Lib.hid hY5, Lib.hid hft5, Lib.hid (by rw [size_setCell]; exact hs5), Lib.hid hb5⟩
        · rw [lys_snoc, List.length_append]; exact ho5
        · rw [List.map_append, HC.out, List.range_succ, List.map_append]
          congr 1
          simp only [List.map_singleton, Ly.core, mkY, HFC.out, HNM2.out]
        · rw [List.length_append, HL.out]; rfl
      case measure => simp [intOf]; omega
    · obtain rfl : k = n := by omega
      have hlt' : ¬ (k : Int) < (k : Int) := by omega
      have hbw : Below w.heap.size w wr := HB.out.mono hwT; have HMN : Hid (tileE (manyT k m) = if 16 < k then 6 else if 0 < k ∧ m = 0 then 7 else if 0 < k ∧ 1024 < m then 6 else 0) := Lib.hid (many_law k m)
      by_cases h0 : k = 0
      · subst h0; have hY0 : Y = [] := List.eq_nil_of_length_eq_zero HL.out; subst hY0; have ho := HO.out; obtain ⟨p, q, rfl, -⟩ := ho.form; have hck := fun (W : World) => mcheck_any p q [] (by simp) (by simp) W (Rd.nil _ _) (by simp); have HKT := HT; have hbz := hbw; obtain ⟨TE, hTE⟩ : ∃ z, tileE ([].map Ly.core) = z := ⟨_, rfl⟩; rw [hTE] at hck; have HCK : Hid (∀ W, Below wr.heap.size wr W → Calls Try.prog 6 #[.agg #[.slice p [].length q]] W fun e w' => e = .returned (.int .i64 TE) ∧ Below W.heap.size W w') := Lib.hid (fun W _ => hck W); have HTV : Hid (TE = 0) := Lib.hid (by rw [← hTE]; rfl); dsimp only [List.length_nil] at HCK HKT; clear hck hTE ho hbw HMN HF HO HC HL HY HFT HSZ HB HT; have hv : TE = 0 := HTV.out; have HC2 := Lib.hid (fun W h => HCK.out W h); rw [hv] at HC2; clear HCK HTV hv
        go_wp2_with fail
        refine (known24_any _).mono ?_; rintro e w8 ⟨rfl, hx8⟩; have t8 := (HKT.out.keep hx8).blk.cell 0 rfl; have hb8 := hbz.trans (hx8.mono hbz.size)
        go_wp2_with fail
        refine (HC2.out w8 hx8).mono ?_; rintro e w9 ⟨rfl, hx9⟩; have hb9 := hb8.trans (hx9.mono hb8.size); go_wp2; go_ret; exact ⟨rfl, hb9⟩
      · have hp : (0 : Int) < (k : Int) := by omega
        obtain ⟨Wn, hWn⟩ : ∃ W, W = wr := ⟨_, rfl⟩; subst hWn; go_wp2
        go_loopw [11, 12] (fun u11 i wq => ∃ j : Nat, j ≤ m ∧ i = .int .i64 j ∧ wq.ownsRow Wn.heap.size 32 4 u11 j (fts (List.replicate j f0)) ∧ Below Wn.heap.size Wn wq) (fun _ i _ => m - (intOf i).toNat)
        case atStart => exact ⟨0, by omega, rfl, World.ownsRow_nil _ _ _ _, Below.refl _ _⟩
        case round =>
          obtain ⟨j, hj, rfl, hso, hbq⟩ := hrel
          by_cases hjm : j < m
          · have hjm' : (j : Int) < (m : Int) := by omega
            have kF := HF.out.keep hbq; have f0c := kF.blk.cell 0 rfl; have f1c := kF.blk.cell 1 rfl; have f2c := kF.blk.cell 2 rfl; have f3c := kF.blk.cell 3 rfl; have HRS : Hid (fts (List.replicate (j + 1) f0) = fts (List.replicate j f0) ++ [.int .i64 0, .int .i64 2, .slice none 0 0, .slice (some ⟨T + 1 + 1, 0, none⟩) 1 1]) := Lib.hid (by rw [List.replicate_succ', fts_snoc, HFV.out])
            go_wp2_with (at_builtin; go_must (refine wpList_appLit' Wn hbq rfl (.tmp 58) (.tmp 60) 34 rfl 32 (.agg #[.int .i64 0, .int .i64 0, .slice none 0 0, .slice none 0 0]) 4 64 Try.underlying34 Try.infoFeat rfl (by decide) (by decide) u11 j (fts (List.replicate j f0)) rfl hso 1 1 [.int .i64 0, .int .i64 2, .slice none 0 0, .slice (some ⟨T + 1 + 1, 0, none⟩) 1 1] _ rfl rfl (by simp [Value.oneCell']) (by omega) ?_); intro v8 W8 ho8 hg8 hb8; clear hso hbq hg8)
            go_roundw
            case rel => exact ⟨j + 1, by omega, by go_num, by rw [HRS.out]; exact ho8, hb8⟩
            case measure => simp [intOf]; omega
          · obtain rfl : j = m := by omega
            have hjm' : ¬ (j : Int) < (j : Int) := by omega
            obtain ⟨sa, sc, rfl, s1, s2, s3, hsr, hsb⟩ := hso.form; have hsT := ByT.of_owns hso; have hYne : Y ≠ [] := fun e => by
              have := HL.out; rw [e] at this; simp at this; omega
            obtain ⟨A, y, hAy⟩ : ∃ A y, Y = A ++ [y] := ⟨Y.dropLast, Y.getLast hYne, (List.dropLast_concat_getLast hYne).symm⟩; subst hAy; have hAl : A.length + 1 = k := by have := HL.out; rw [List.length_append] at this; exact this
            have hcore := HC.out; have hkk : k = k - 1 + 1 := by omega
            rw [hkk, List.range_succ, List.map_append, List.map_append] at hcore; have hsp := List.append_inj hcore (by simp; omega); have hym : y.core = mkY (k - 1) := by simpa using hsp.2
            obtain ⟨yn, yf, ya, yc⟩ := y; have hyn : yn = nmB (k - 1) := congrArg Prod.fst hym; have hoW := HO.out.below hbq; have kTW := HT.out.keep hbq; have hYW := fun z hz => (HY.out z hz).1.below hbq; have hfW := HFT.out.below hbq; have hbz0 := HB.out.trans (hbq.mono (by have := HT.out.lt; omega : T ≤ Wn.heap.size)); have hlen2 : (A ++ [(⟨yn, yf, ya, yc⟩ : Ly)]).length = k := HL.out; rw [hlen2] at hoW; obtain ⟨p, q, rfl, p1, p2, p3, hpr, hpb⟩ := hoW.form; have hg : ∃ g, p = some ⟨g, 0, none⟩ := by
              rcases hoW.2 with ⟨e1, e2⟩ | ⟨g, cap, cur, e1, -⟩
              · cases e1; omega
              · cases e1; exact ⟨g, rfl⟩
            obtain ⟨g, rfl⟩ := hg; have hls : lys (A ++ [(⟨yn, yf, ya, yc⟩ : Ly)]) = lys A ++ [.string yn, .slice ya yf.length yc] := by rw [lys_snoc]; rfl
            rw [hls] at hoW hpr; have hAl2 : (lys A).length = (k - 1) * 2 := by rw [lys_len]; omega
            have hix : (lys A ++ [Value.string yn, .slice ya yf.length yc])[(k - 1) * 2 + 1]? = some (.slice ya yf.length yc) := by
              rw [List.getElem?_append_right (by omega), show (k - 1) * 2 + 1 - (lys A).length = 1 by omega]; rfl
            obtain ⟨d0, d1, d2⟩ := ownsRow_cellS hoW hix; have hset : (lys A ++ [Value.string yn, .slice ya yf.length yc]).set ((k - 1) * 2 + 1) (.slice sa j sc) = lys (A ++ [(⟨yn, List.replicate j f0, sa, sc⟩ : Ly)]) := by
              rw [List.set_append_right _ _ (by omega), show (k - 1) * 2 + 1 - (lys A).length = 1 by omega, lys_snoc]; simp [Ly.cells, Ly.fval]
            have hoS := ownsRow_setS (i := (k - 1) * 2 + 1) hoW (.slice sa j sc); rw [hset] at hoS; obtain ⟨X, hX⟩ : ∃ X, (k - 1) * 2 + 1 = X := ⟨_, rfl⟩; have hgT : T < g := by
              have h8 := hoW.2
              rcases h8 with ⟨e1, e2⟩ | ⟨g2, cap2, cur2, e1, h9, -⟩
              · cases e1
              · cases e1; omega
            have hT2 := kTW.other (b' := g) (o := (k - 1) * 2 + 1) (by omega) (.slice sa j sc); have hof : Off wr T lyTs (some g) := Off.row (base := T) hoW (by decide); have hof2 : Off wr T ftTs (some g) := Off.row (base := T) hoW (by decide); have hTn : T ≤ Wn.heap.size := by have := HSZ.out; omega
            have hrl : (List.replicate j f0).length = j := List.length_replicate; have hy1 : LyT T wr ⟨yn, List.replicate j f0, sa, sc⟩ := ⟨⟨⟨hsr, by rw [hrl]; exact s1, s2, s3⟩, fun f hf => by rw [List.eq_of_mem_replicate hf]; exact hfW.1⟩, hsT.mono hTn, fun f hf => by rw [List.eq_of_mem_replicate hf]; exact hfW⟩; have hy2 := hy1.gr (grown_set wr g ((k - 1) * 2 + 1) (.slice sa j sc)) hof; have hyz : Ly.Sz ⟨yn, List.replicate j f0, sa, sc⟩ := ⟨(HY.out ⟨yn, yf, ya, yc⟩ (by simp)).2.1, (by show (List.replicate j f0).length ≤ 100000; rw [hrl]; omega), fun f hf => by rw [List.eq_of_mem_replicate hf]; exact HFS.out⟩; have hYA : ∀ z ∈ A ++ [(⟨yn, List.replicate j f0, sa, sc⟩ : Ly)], LyT T (wr.setCell ⟨g, (k - 1) * 2 + 1, none⟩ (.slice sa j sc)) z ∧ z.Sz := fun z hz => by
              rcases List.mem_append.1 hz with hz | hz
              · exact ⟨(hYW z (by simp [hz])).gr (grown_set wr g _ (.slice sa j sc)) hof, (HY.out z (by simp [hz])).2⟩
              · rw [List.mem_singleton.1 hz]; exact ⟨hy2, hyz⟩
            have hcm : (A ++ [(⟨yn, List.replicate j f0, sa, sc⟩ : Ly)]).map Ly.core = manyT k j := by
              rw [List.map_append, hsp.1, manyT, if_neg h0, hyn]
              congr 1
              simp [Ly.core, HFC.out]
            have hln : (A ++ [(⟨yn, List.replicate j f0, sa, sc⟩ : Ly)]).length = k := by rw [List.length_append]; exact hAl
            have hck := fun (W : World) h1 h2 => mcheck_any (some ⟨g, 0, none⟩) q (A ++ [(⟨yn, List.replicate j f0, sa, sc⟩ : Ly)]) (by rw [hln]; omega) (fun z hz => (hYA z hz).2) W h1 h2; rw [hcm, HMN.out, hln] at hck; have hdd : Rd (wr.setCell ⟨g, (k - 1) * 2 + 1, none⟩ (.slice sa j sc)) (some ⟨g, 0, none⟩) (lys (A ++ [(⟨yn, List.replicate j f0, sa, sc⟩ : Ly)])) := by
              obtain ⟨p3, q3, e3, -, -, -, hr3, -⟩ := hoS.form
              cases e3
              exact hr3
            have HCK : Hid (∀ W, Below (wr.setCell ⟨g, (k - 1) * 2 + 1, none⟩ (.slice sa j sc)).heap.size (wr.setCell ⟨g, (k - 1) * 2 + 1, none⟩ (.slice sa j sc)) W → Calls Try.prog 6 #[.agg #[.slice (some ⟨g, 0, none⟩) k q]] W fun e w' => e = .returned (.int .i64 (if 16 < k then 6 else if 0 < k ∧ j = 0 then 7 else if 0 < k ∧ 1024 < j then 6 else 0)) ∧ Below W.heap.size W w') := Lib.hid (fun W hb => hck W (hdd.keep hb) (fun z hz => ((hYA z hz).1.below hb).1)); have HKT : Hid (BkT (wr.setCell ⟨g, (k - 1) * 2 + 1, none⟩ (.slice sa j sc)) T 24 [.slice (some ⟨g, 0, none⟩) k q]) := Lib.hid hT2; have hbz := hbw.trans (hbq.mono hbw.size); have hbz2 := hbz.set_at (b := g) (o := (k - 1) * 2 + 1) (by omega) (.slice sa j sc); have t0 := kTW.blk.cell 0 rfl; obtain ⟨k1, hk1⟩ : ∃ k1, k - 1 = k1 := ⟨_, rfl⟩; have hkm : (k : Int) - 1 = (k1 : Int) := by omega
            have hlk : k1 < k := by omega
            rw [hk1] at d0 d1 HCK HKT hbz2; obtain ⟨TE, hTE⟩ : ∃ z, (if 16 < k then (6 : Int) else if 0 < k ∧ j = 0 then 7 else if 0 < k ∧ 1024 < j then 6 else 0) = z := ⟨_, rfl⟩; rw [hTE] at HCK; have HTV := Lib.hid hTE; clear hTE; have hpk : 0 < k := by omega
            have HPK := Lib.hid hpk; clear hpk; clear hkk hk1 hX hdd hck hln hcm hYA hyz hy2 hy1 hrl hof hof2 hT2 hoS hset hix hls hpr hoW hpb hbz0 hfW hYW hsp hcore hyn hym hAl hlen2 hYne hsT hsr hsb hso HMN HO HC HL HY HFT HSZ HB HT HF kTW hbz hbw hbq hlt hAl2
            by_cases c1 : 16 < k
            · have c1i : (16 : Int) < (k : Int) := by omega
              by_cases c2 : j = 0
              · subst c2; have c3i : ¬ (1024 : Int) < 0 := by omega
                have hv : TE = 6 := by rw [← HTV.out, if_pos c1]
                have HC2 := Lib.hid (fun W h => HCK.out W h); rw [hv] at HC2; clear HCK HTV hv
                go_wp2_with fail
                refine (known24_any _).mono ?_; rintro e w8 ⟨rfl, hx8⟩; have t8 := (HKT.out.keep hx8).blk.cell 0 rfl; have hb8 := hbz2.trans (hx8.mono hbz2.size); clear t0
                go_wp2_with fail
                refine (HC2.out w8 hx8).mono ?_; rintro e w9 ⟨rfl, hx9⟩; have hb9 := hb8.trans (hx9.mono hb8.size); go_wp2; go_ret; exact ⟨rfl, hb9⟩
              · have c2i : ¬ (j : Int) = 0 := by omega
                by_cases c3 : 1024 < j
                · have c3i : (1024 : Int) < (j : Int) := by omega
                  have hv : TE = 6 := by rw [← HTV.out, if_pos c1]
                  have HC2 := Lib.hid (fun W h => HCK.out W h); rw [hv] at HC2; clear HCK HTV hv
                  go_wp2_with fail
                  refine (known24_any _).mono ?_; rintro e w8 ⟨rfl, hx8⟩; have t8 := (HKT.out.keep hx8).blk.cell 0 rfl; have hb8 := hbz2.trans (hx8.mono hbz2.size); clear t0
                  go_wp2_with fail
                  refine (HC2.out w8 hx8).mono ?_; rintro e w9 ⟨rfl, hx9⟩; have hb9 := hb8.trans (hx9.mono hb8.size); go_wp2; go_ret; exact ⟨rfl, hb9⟩
                · have c3i : ¬ (1024 : Int) < (j : Int) := by omega
                  have hv : TE = 6 := by rw [← HTV.out, if_pos c1]
                  have HC2 := Lib.hid (fun W h => HCK.out W h); rw [hv] at HC2; clear HCK HTV hv
                  go_wp2_with fail
                  refine (known24_any _).mono ?_; rintro e w8 ⟨rfl, hx8⟩; have t8 := (HKT.out.keep hx8).blk.cell 0 rfl; have hb8 := hbz2.trans (hx8.mono hbz2.size); clear t0
                  go_wp2_with fail
                  refine (HC2.out w8 hx8).mono ?_; rintro e w9 ⟨rfl, hx9⟩; have hb9 := hb8.trans (hx9.mono hb8.size); go_wp2; go_ret; exact ⟨rfl, hb9⟩
            · have c1i : ¬ (16 : Int) < (k : Int) := by omega
              by_cases c2 : j = 0
              · subst c2; have c3i : ¬ (1024 : Int) < 0 := by omega
                have hv : TE = 7 := by rw [← HTV.out, if_neg c1, if_pos ⟨HPK.out, rfl⟩]
                have HC2 := Lib.hid (fun W h => HCK.out W h); rw [hv] at HC2; clear HCK HTV hv
                go_wp2_with fail
                refine (known24_any _).mono ?_; rintro e w8 ⟨rfl, hx8⟩; have t8 := (HKT.out.keep hx8).blk.cell 0 rfl; have hb8 := hbz2.trans (hx8.mono hbz2.size); clear t0
                go_wp2_with fail
                refine (HC2.out w8 hx8).mono ?_; rintro e w9 ⟨rfl, hx9⟩; have hb9 := hb8.trans (hx9.mono hb8.size); go_wp2; go_ret; exact ⟨rfl, hb9⟩
              · have c2i : ¬ (j : Int) = 0 := by omega
                by_cases c3 : 1024 < j
                · have c3i : (1024 : Int) < (j : Int) := by omega
                  have hv : TE = 6 := by rw [← HTV.out, if_neg c1, if_neg (fun h => c2 h.2), if_pos ⟨HPK.out, c3⟩]
                  have HC2 := Lib.hid (fun W h => HCK.out W h); rw [hv] at HC2; clear HCK HTV hv
                  go_wp2_with fail
                  refine (known24_any _).mono ?_; rintro e w8 ⟨rfl, hx8⟩; have t8 := (HKT.out.keep hx8).blk.cell 0 rfl; have hb8 := hbz2.trans (hx8.mono hbz2.size); clear t0
                  go_wp2_with fail
                  refine (HC2.out w8 hx8).mono ?_; rintro e w9 ⟨rfl, hx9⟩; have hb9 := hb8.trans (hx9.mono hb8.size); go_wp2; go_ret; exact ⟨rfl, hb9⟩
                · have c3i : ¬ (1024 : Int) < (j : Int) := by omega
                  have hv : TE = 0 := by rw [← HTV.out, if_neg c1, if_neg (fun h => c2 h.2), if_neg (fun h => c3 h.2)]
                  have HC2 := Lib.hid (fun W h => HCK.out W h); rw [hv] at HC2; clear HCK HTV hv
                  go_wp2_with fail
                  refine (known24_any _).mono ?_; rintro e w8 ⟨rfl, hx8⟩; have t8 := (HKT.out.keep hx8).blk.cell 0 rfl; have hb8 := hbz2.trans (hx8.mono hbz2.size); clear t0
                  go_wp2_with fail
                  refine (HC2.out w8 hx8).mono ?_; rintro e w9 ⟨rfl, hx9⟩; have hb9 := hb8.trans (hx9.mono hb8.size); go_wp2; go_ret; exact ⟨rfl, hb9⟩
end Go.Proofs.Ytjggoajfilnfjaa
