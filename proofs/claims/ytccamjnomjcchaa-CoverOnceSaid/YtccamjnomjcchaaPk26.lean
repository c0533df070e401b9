/-
  graticulelaw10.Cut, graticulelaw11.Cut. graticulelaw12.Few. How great few faces are. Few faces: their points are of those that came in, and no more than may be.
-/
import Derived.Test.YtccamjnomjcchaaPk6
import Derived.Test.YtccamjnomjcchaaPk5
import Derived.Test.YtccamjnomjcchaaPk25
import Derived.Test.YtccamjnomjcchaaPk7
/- graticulelaw10.Cut, graticulelaw11.Cut. -/
set_option linter.unusedVariables false
set_option linter.unusedSimpArgs false
set_option maxRecDepth 100000
namespace Go
open Go.RowKit
def cutS (s : ByteArray) : ByteArray := s.extract 0 (min s.size 100)
def cutA (a : At) : At := ⟨cutS a.key, a.kind, cutS a.text, a.n⟩
def AtOk (a : At) : Prop := a.key.size ≤ maxLen ∧ a.text.size ≤ maxLen
theorem cutS_ok (s : ByteArray) : (cutS s).size ≤ maxLen := by unfold cutS maxLen; simp; omega
theorem cutA_ok (a : At) : AtOk (cutA a) := ⟨cutS_ok _, cutS_ok _⟩
end Go
namespace Go.Proofs.Ytccamjnomjcchaa
open Go.RowKit
set_option maxHeartbeats 800000 in
theorem cut10_any (k n : Int) (s : ByteArray) (hs : s.size ≤ maxLen) (w : World) :
    Calls Try.prog 52 #[.agg #[.int .i64 k, .string s, .int .i64 n]] w fun e w' => e = .returned (.agg #[.int .i64 k, .string (cutS s), .int .i64 n]) ∧ Below w.heap.size w w' := by
  have hs2 : s.size ≤ 9223372036854775807 := by unfold maxLen at hs; omega
  obtain ⟨z0, hz0⟩ : ∃ z : Int, (if (100 : Int) < (s.size : Int) then (100 : Int) else (s.size : Int)) = z := ⟨_, rfl⟩; have e0 : z0.toNat = min s.size 100 := by rw [← hz0]; split <;> omega
  have hz1 : 0 ≤ z0 ∧ z0 ≤ (s.size : Int) := by rw [← hz0]; split <;> omega
  have hzm : min (s.size : Int) 100 = z0 := by rw [← hz0]; split <;> omega
  have HC : Hid (cutS s = s.extract 0 (min s.size 100)) := Lib.hid rfl; generalize cutS s = CS at *
  go_enter Try.func52, Try.ntmps52
  go_wp2; refine bodyPost_ret (v := .agg #[.int .i64 k, .string CS, .int .i64 n]) ?_ rfl ⟨rfl, (Below.new _ _).alloc (by simp) _⟩; rw [← HC.out]; simp [results, Try.results52, go_sem]

set_option maxHeartbeats 3200000 in
theorem cut11_any (a : Option Addr) (c : Nat) (l : List At) (hlc : l.length ≤ c) (hcm : c ≤ maxLen) (hok : ∀ x ∈ l, AtOk x) (w : World) (hr : Rd w a (ats l)) :
    Calls Try.prog 25 #[.slice a l.length c] w fun e w' => ∃ v, e = .returned v ∧ w'.ownsRow w.heap.size 93 4 v ((l.take 10).map cutA).length (ats ((l.take 10).map cutA)) ∧ Below w.heap.size w w' := by
  have HC := Lib.hid (fun k n s hs w => cut10_any k n s hs w); have HOK := Lib.hid hok; have HR := Lib.hid hr; unfold maxLen at hcm; obtain ⟨N, hN⟩ : ∃ N, l.length = N := ⟨_, rfl⟩; have HN := Lib.hid hN; rw [hN] at hlc ⊢; have hml : ((l.take 10).map cutA).length = min 10 N := by rw [List.length_map, List.length_take, hN]
  rw [hml]; clear hr hN hok hml
  go_enter Try.func25, Try.ntmps25
  go_wp2
  go_loopw [3, 4] (fun o i wr => ∃ k : Nat, k ≤ N ∧ k ≤ 10 ∧ i = .int .i64 k ∧ wr.ownsRow w.heap.size 93 4 o k (ats ((l.take k).map cutA)) ∧ Below w.heap.size w wr) (fun _ i _ => 10 - (intOf i).toNat)
  case atStart => exact ⟨0, by omega, by omega, rfl, World.ownsRow_nil _ _ _ _, Below.refl _ _⟩
  case round =>
    obtain ⟨i, hi, hi10, rfl, ho, hbl⟩ := hrel
    by_cases hlt : i < N ∧ i < 10
    · obtain ⟨h1, h2⟩ := hlt; have h1' : (i : Int) < (N : Int) := by omega
      have h2' : (i : Int) < 10 := by omega
      have hil : i < l.length := by rw [HN.out]; exact h1
      obtain ⟨b1, o1, rfl, hbb, c0, c1, c2, c3⟩ := HR.out.atr i hil; obtain ⟨k1, k2⟩ := HOK.out l[i] (List.getElem_mem hil); have HSN : Hid (ats ((l.take (i + 1)).map cutA) = ats ((l.take i).map cutA) ++ (cutA l[i]).cells) := Lib.hid (by
        rw [List.take_succ_eq_append_getElem hil, List.map_append, List.map_singleton, ats_snoc])
      have hcc : (cutA l[i]).cells = [.string (cutS l[i].key), .int .i64 l[i].kind, .string (cutS l[i].text), .int .i64 l[i].n] := rfl; rw [hcc] at HSN; have HC10 := Lib.hid (fun w => HC.out l[i].kind l[i].n l[i].text k2 w); generalize cutS l[i].text = T2 at *; obtain ⟨K1, hK1⟩ : ∃ K, l[i].key = K := ⟨_, rfl⟩; rw [hK1] at c0 HSN k1 hcc; obtain ⟨K2, hK2⟩ : ∃ K, cutS K1 = K := ⟨_, rfl⟩; rw [hK2] at HSN; obtain ⟨z0, hz0⟩ : ∃ z : Int, (if (100 : Int) < (K1.size : Int) then (100 : Int) else (K1.size : Int)) = z := ⟨_, rfl⟩; have e0 : z0.toNat = min K1.size 100 := by rw [← hz0]; split <;> omega
      have hz1 : 0 ≤ z0 ∧ z0 ≤ (K1.size : Int) := by rw [← hz0]; split <;> omega
      have hzm : min (K1.size : Int) 100 = z0 := by rw [← hz0]; split <;> omega
      have hks : K1.extract 0 (min K1.size 100) = K2 := hK2; generalize l[i].kind = kd at *; generalize l[i].text = T1 at *; generalize l[i].n = nn at *; clear hK1 hK2 hcc k2; unfold maxLen at k1; go_wp2; refine wp_region_lit_txt [0, 1, 2, 3, 4, 5, 6, 7, 8, 9, 10, 11, 12, 13, 14, 15, 16, 17, 18, 20, 23] (fun W => Below w.heap.size w W) (by kernel_rfl) (by kernel_rfl) (by kernel_rfl) (hbl.drew) ?_
      iterate 5 ((refine txt_light ?_ rfl rfl ?_ ?_; rotate_left; · (intro w' hS; (try dsimp only at hS); go_simp; with_reducible rfl)); try simp only [Act.put, List.setIfInBounds_toArray, List.set_cons_zero, List.set_cons_succ])
      refine txt_light (.string K1) rfl rfl ?_ ?_
      · intro w' hS; have e0 := (hS.cell (p := ⟨b1, o1 + i * 4, none⟩) hbb).trans c0; go_simp
      try simp only [Act.put, List.setIfInBounds_toArray, List.set_cons_zero, List.set_cons_succ]
      iterate 4 ((refine txt_light ?_ rfl rfl ?_ ?_; rotate_left; · (intro w' hS; (try dsimp only at hS); go_simp; with_reducible rfl)); try simp only [Act.put, List.setIfInBounds_toArray, List.set_cons_zero, List.set_cons_succ])
      refine txt_light (.string K1) rfl rfl ?_ ?_
      · intro w' hS; have e0 := (hS.cell (p := ⟨b1, o1 + i * 4, none⟩) hbb).trans c0; go_simp
      try simp only [Act.put, List.setIfInBounds_toArray, List.set_cons_zero, List.set_cons_succ]
      (refine txt_light ?_ rfl rfl ?_ ?_; rotate_left; · (intro w' hS; (try dsimp only at hS); go_simp; with_reducible rfl)); try simp only [Act.put, List.setIfInBounds_toArray, List.set_cons_zero, List.set_cons_succ]
      refine txt_light (.int .i64 z0) rfl rfl ?_ ?_
      · intro w' hS; go_simp
      try simp only [Act.put, List.setIfInBounds_toArray, List.set_cons_zero, List.set_cons_succ]
      refine txt_light (.string K2) rfl rfl ?_ ?_
      · intro w' hS; go_simp
      try simp only [Act.put, List.setIfInBounds_toArray, List.set_cons_zero, List.set_cons_succ]
      iterate 4 ((refine txt_light ?_ rfl rfl ?_ ?_; rotate_left; · (intro w' hS; (try dsimp only at hS); go_simp; with_reducible rfl)); try simp only [Act.put, List.setIfInBounds_toArray, List.set_cons_zero, List.set_cons_succ])
      refine txt_light (.agg #[.int .i64 kd, .string T1, .int .i64 nn]) rfl rfl ?_ ?_
      · intro w' hS; have e1 := (hS.cell (p := ⟨b1, o1 + i * 4 + 1, none⟩) hbb).trans c1; have e2 := (hS.cell (p := ⟨b1, o1 + i * 4 + 2, none⟩) hbb).trans c2; have e3 := (hS.cell (p := ⟨b1, o1 + i * 4 + 3, none⟩) hbb).trans c3; go_simp
      try simp only [Act.put, List.setIfInBounds_toArray, List.set_cons_zero, List.set_cons_succ]
      have ho0 : wr.drew.ownsRow w.heap.size 93 4 u3 i (ats ((l.take i).map cutA)) := ho; have hbd : Below w.heap.size w wr.drew := hbl.drew; generalize wr.drew = W0 at *; refine txt_call [.agg #[.int .i64 kd, .string T1, .int .i64 nn]] Try.f52 rfl rfl Try.func52 (by kernel_rfl) (by kernel_rfl) rfl ((HC10.out _).mono ?_); rintro e W1 ⟨rfl, hx1⟩; have ho1 := ho0.below hx1; have hb1 := hbd.trans (hx1.mono hbd.size); refine ⟨_, rfl, hb1, ?_⟩; clear hx1 ho0 hbd
      try simp only [Act.put, List.setIfInBounds_toArray, List.set_cons_zero, List.set_cons_succ]
      refine txt_light (.agg #[.string K2, .int .i64 kd, .string T2, .int .i64 nn]) rfl rfl ?_ ?_
      · intro w' hS; go_simp
      try simp only [Act.put, List.setIfInBounds_toArray, List.set_cons_zero, List.set_cons_succ]
      refine txt_heavy rfl rfl (fun K hK => ?_); go_step; have ho2 := ho1.below (Below.new W1 (.cells #[.string K2, .int .i64 kd, .string T2, .int .i64 nn] 93)); have hb2 := hb1.alloc hb1.size (.cells #[.string K2, .int .i64 kd, .string T2, .int .i64 nn] 93); have rd := Rd.lit W1 W1.heap.size [.string K2, .int .i64 kd, .string T2, .int .i64 nn] 93 rfl; refine hK.out _ _ hb2 ?_; clear hK K ho1 hb1; generalize W1.alloc (.cells #[.string K2, .int .i64 kd, .string T2, .int .i64 nn] 93) = W2 at *
      try simp only [Act.put, List.setIfInBounds_toArray, List.set_cons_zero, List.set_cons_succ]
      refine txt_app w hb2 rfl rfl (.tmp 15) (.tmp 36) 36 rfl 93 (.agg #[.string ⟨#[]⟩, .int .i64 0, .string ⟨#[]⟩, .int .i64 0]) 4 48 Try.underlying36 Try.infoAt rfl (by decide) u3 i (ats ((l.take i).map cutA)) rfl ho2 (some ⟨W1.heap.size, 0, none⟩) 1 1 [.string K2, .int .i64 kd, .string T2, .int .i64 nn] rfl (fun h => by cases h) rd rfl (by simp [Value.oneCell']) (by omega) (by decide) ?_; intro v3 W3 ho3 hg3 hb3; refine ⟨hb3, ?_⟩
      try simp only [Act.put, List.setIfInBounds_toArray, List.set_cons_zero, List.set_cons_succ]
      (refine txt_light ?_ rfl rfl ?_ ?_; rotate_left; · (intro w' hS; (try dsimp only at hS); go_simp; with_reducible rfl)); try simp only [Act.put, List.setIfInBounds_toArray, List.set_cons_zero, List.set_cons_succ]
      refine txt_nil ?_; clear c0 c1 c2 c3 ho2 hb2 hg3 rd; have HO9 : Hid (W3.ownsRow w.heap.size 93 4 v3 (i + 1) (ats ((l.take (i + 1)).map cutA))) := Lib.hid (by rw [HSN.out]; exact ho3); clear ho3; go_wp2; exact ⟨⟨i + 1, by omega, by omega, by go_num, by have := HO9.out; simpa only [List.map_take] using this, hb3⟩, by simp [intOf]; omega⟩
    · have HML : Hid (i = min 10 N) := Lib.hid (by omega); have HTK : Hid (l.take i = l.take 10) := Lib.hid (by
        by_cases h10 : i = 10
        · rw [h10]
        · rw [List.take_of_length_le (by rw [HN.out]; omega), List.take_of_length_le (by rw [HN.out]; omega)])
      have HO9 : Hid (wr.ownsRow w.heap.size 93 4 u3 (min 10 N) (ats ((l.take 10).map cutA))) := Lib.hid (by rw [← HML.out, ← HTK.out]; exact ho)
      by_cases h1 : i < N
      · have h1' : (i : Int) < (N : Int) := by omega
        have h2' : ¬ (i : Int) < 10 := by omega
        go_wp2; go_ret; exact ⟨u3, rfl, by have := HO9.out; simpa only [List.map_take] using this, hbl⟩
      · have h1' : ¬ (i : Int) < (N : Int) := by omega
        go_wp2; go_ret; exact ⟨u3, rfl, by have := HO9.out; simpa only [List.map_take] using this, hbl⟩
end Go.Proofs.Ytccamjnomjcchaa
/- graticulelaw12.Few. -/
set_option linter.unusedVariables false
set_option linter.unusedSimpArgs false
set_option maxRecDepth 100000
namespace Go
open Go.RowKit
structure Fp where
  rings : List (List Pt)
  ls : List At
def Fc.plain (f : Fc) : Fp := ⟨f.rings, f.ls⟩
def fewStep (most : Nat) (s : List (List Pt) × Nat) (r : List Pt) : List (List Pt) × Nat := (s.1 ++ [r.take (most - s.2)], s.2 + (r.take (most - s.2)).length)
def fewRs (most p : Nat) (l : List (List Pt)) : List (List Pt) × Nat := l.foldl (fewStep most) ([], p)
def fewStepF (most : Nat) (s : List Fp × Nat) (f : Fp) : List Fp × Nat := (s.1 ++ [⟨(fewRs most s.2 (f.rings.take 8)).1, (f.ls.take 10).map cutA⟩], (fewRs most s.2 (f.rings.take 8)).2)
def fewFs (most : Nat) (l : List Fp) : List Fp × Nat := l.foldl (fewStepF most) ([], 0)
def fewF (most : Nat) (l : List Fp) : List Fp := (fewFs most (l.take 10)).1
theorem fewRs_snoc (most p : Nat) (l : List (List Pt)) (r : List Pt) : fewRs most p (l ++ [r]) = fewStep most (fewRs most p l) r := by simp [fewRs, List.foldl_append]
theorem fewFs_snoc (most : Nat) (l : List Fp) (f : Fp) : fewFs most (l ++ [f]) = fewStepF most (fewFs most l) f := by simp [fewFs, List.foldl_append]
theorem fewRs_le (most p : Nat) (hp : p ≤ most) (l : List (List Pt)) : (fewRs most p l).2 ≤ most := by
  have key : ∀ (l : List (List Pt)) (s : List (List Pt) × Nat), s.2 ≤ most → (l.foldl (fewStep most) s).2 ≤ most := by
    intro l
    induction l with
    | nil => intro s h; exact h
    | cons r l ih =>
      intro s h; refine ih _ ?_; simp only [fewStep, List.length_take]; omega
  exact key l _ hp
theorem fewFs_le (most : Nat) (l : List Fp) : (fewFs most l).2 ≤ most := by
  have key : ∀ (l : List Fp) (s : List Fp × Nat), s.2 ≤ most → (l.foldl (fewStepF most) s).2 ≤ most := by
    intro l
    induction l with
    | nil => intro s h; exact h
    | cons r l ih =>
      intro s h; exact ih _ (fewRs_le most _ h _)
  exact key l _ (Nat.zero_le _)
def Fc.In (W : World) (f : Fc) : Prop := f.Ok W ∧ ∀ x ∈ f.ls, AtOk x
end Go
namespace Go
open Go.RowKit
theorem ownsRow_box {W : World} {base : Nat} {e T : TypeId} {size n B : Nat} {v : Value} {xs : List Value} {cs : Array Value} (h : W.ownsRow base e size v n xs) (hk : W.heap[B]? = some (.cells cs T (0, 0))) (hT : T ≠ e) (i : Nat) (u : Value) : (W.setCell ⟨B, i, none⟩ u).ownsRow base e size v n xs := by
  refine h.kept (row := some B) ⟨rfl, rfl, rfl, by simp [World.setCell], fun k _ hk => Below.heap_setCell W ⟨B, i, none⟩ u k (fun e => hk (by rw [e]))⟩ ?_
  rcases h.2 with ⟨rfl, _⟩ | ⟨g, cap, cur, rfl, _, hgb, _⟩
  · exact .inl rfl
  · refine .inr fun e' => ?_; obtain rfl : g = B := by simpa [Value.ownBlock] using e'
    rw [hk] at hgb
    cases hgb
    exact hT rfl
end Go
namespace Go.Proofs.Ytccamjnomjcchaa
open Go.RowKit

set_option maxHeartbeats 12800000 in
theorem few_any (a : Option Addr) (c : Nat) (l : List Fc) (hlc : l.length ≤ c) (hcm : c ≤ maxLen) (most : Nat) (hmo : most ≤ 1000000) (w : World) (hr : Rd w a (fcs l)) (hok : ∀ f ∈ l, f.In w) :
    Calls Try.prog 8 #[.slice a l.length c, .int .i64 (most : Int)] w fun e w' => ∃ (fs : List Fc) (v : Value), e = .returned v ∧ w'.ownsRow w.heap.size 38 2 v fs.length (fcs fs) ∧ (∀ f ∈ fs, FcT w' f) ∧ fs.map Fc.plain = fewF most (l.map Fc.plain) ∧ Below w.heap.size w w' := by
  have HCUT := Lib.hid (fun (f : Fc) (hf : f ∈ l) (W : World) (h : Rd W f.aa (ats f.ls)) => cut11_any f.aa f.ac f.ls (hok f hf).1.2.2.2.1 (hok f hf).1.2.2.2.2.1 (hok f hf).2 W h); have HOK := Lib.hid hok; have HR := Lib.hid hr; unfold maxLen at hcm; obtain ⟨N, hN⟩ : ∃ N, l.length = N := ⟨_, rfl⟩; have HN := Lib.hid hN; rw [hN] at hlc ⊢; have HFE : Hid (fewF most (l.map Fc.plain) = (fewFs most ((l.take 10).map Fc.plain)).1) := Lib.hid (by unfold fewF; rw [List.map_take]); generalize fewF most (l.map Fc.plain) = RES at *; clear hr hN hok
  go_enter Try.func8, Try.ntmps8
  go_wp2
  go_loopw [5, 6, 7] (fun o p i wr => ∃ (k : Nat) (fs : List Fc) (pn : Nat), k ≤ N ∧ k ≤ 10 ∧ i = .int .i64 k ∧ p = .int .i64 pn ∧ fs.length = k ∧ Hid (fewFs most ((l.take k).map Fc.plain) = (fs.map Fc.plain, pn)) ∧ pn ≤ most ∧ wr.ownsRow w.heap.size 38 2 o k (fcs fs) ∧ Hid (∀ f ∈ fs, FcT wr f) ∧ Below w.heap.size w wr) (fun _ _ i _ => 10 - (intOf i).toNat)
  case atStart => exact ⟨0, [], 0, by omega, by omega, rfl, rfl, rfl, Lib.hid rfl, by omega, World.ownsRow_nil _ _ _ _, Lib.hid (by simp), Below.refl _ _⟩
  case round =>
    obtain ⟨i, fs, pn, hi, hi10, rfl, rfl, hfl, HST, hpm, ho, HFT, hbl⟩ := hrel
    by_cases hlt : i < N ∧ i < 10
    · obtain ⟨h1, h2⟩ := hlt; have h1' : (i : Int) < (N : Int) := by omega
      have h2' : (i : Int) < 10 := by omega
      have hil : i < l.length := by rw [HN.out]; exact h1
      obtain ⟨b1, o1, rfl, hbb, c0, c1⟩ := (HR.out.keep hbl).fc i hil; have HIN := Lib.hid (HOK.out l[i] (List.getElem_mem hil)); have HCT := Lib.hid (fun (W : World) (h : Rd W (l[i]'hil).aa (ats (l[i]'hil).ls)) => HCUT.out (l[i]'hil) (List.getElem_mem hil) W h); have HSN : Hid (fewFs most ((l.take (i + 1)).map Fc.plain) = fewStepF most (fewFs most ((l.take i).map Fc.plain)) l[i].plain) := Lib.hid (by
        rw [List.take_succ_eq_append_getElem hil, List.map_append, List.map_singleton, fewFs_snoc])
      generalize l[i] = f at *; obtain ⟨rs, ra, rc, ls, aa, ac⟩ := f; dsimp only [Fc.rval, Fc.aval] at c0 c1 HCT
      go_wp2_with fail
      refine (HCT.out _ (HIN.out.1.2.2.1.keep hbl)).mono ?_; rintro e wB ⟨va, rfl, hoa, hxB⟩
      try dsimp only at hoa
      have hcu : ∀ x ∈ (ls.take 10).map cutA, AtOk x := fun x hx => by
        obtain ⟨y, -, rfl⟩ := List.mem_map.1 hx; exact cutA_ok y
      obtain ⟨AL, hAL⟩ : ∃ A, (ls.take 10).map cutA = A := ⟨_, rfl⟩; have HAL := Lib.hid hAL; rw [hAL] at hoa; obtain ⟨AN, hAN⟩ : ∃ A, AL.length = A := ⟨_, rfl⟩; have HAN := Lib.hid hAN; rw [hAN] at hoa; clear hAL hAN hcu HCT; obtain ⟨aa2, ac2, rfl, hac1, hac2, hac3, har, -⟩ := hoa.form; have hat := TypB.of_owns hoa; have hsr := hbl.size; have hsB := hxB.size; have hoB := ho.below hxB; have HFB : Hid (∀ f ∈ fs, FcT wB f) := Lib.hid (fun f hf => (HFT.out f hf).keep hxB); have hblB := hbl.trans (hxB.mono hsr); have kF : (wB.alloc (.cells #[.slice none 0 0, .slice aa2 AN ac2] 38)).heap[wB.heap.size]? = some (.cells #[.slice none 0 0, .slice aa2 AN ac2] 38 (0, 0)) := heap_alloc_new wB _; have hbC := Below.new wB (.cells #[.slice none 0 0, .slice aa2 AN ac2] 38); have cB0 := (hxB.cell (p := ⟨b1, o1 + i * 2, none⟩) hbb).trans c0; have hbB : b1 < wB.heap.size := by omega
      have hsB' : w.heap.size ≤ wB.heap.size := hblB.size; clear ho HFT; obtain ⟨RN, hRN⟩ : ∃ R, rs.length = R := ⟨_, rfl⟩; have HRN := Lib.hid hRN; have hrc := HIN.out.1.1.2; dsimp only at hrc; rw [hRN] at cB0 hrc; clear hRN; unfold maxLen at hrc; go_wp2
      go_loopw [6, 9] (fun p k W => ∃ (j : Nat) (q : List PC) (pm : Nat) (v : Value), j ≤ RN ∧ j ≤ 8 ∧ k = .int .i64 j ∧ p = .int .i64 pm ∧ q.length = j ∧ Hid (fewRs most pn ((rs.take j).map PC.l) = (q.map PC.l, pm)) ∧ pm ≤ most ∧ Hid (W.heap[wB.heap.size]? = some (.cells #[v, .slice aa2 AN ac2] 38 (0, 0))) ∧ W.ownsRow wB.heap.size 39 1 v j (rcs q) ∧ Hid (∀ r ∈ q, PcT W r) ∧ Below wB.heap.size wB W) (fun _ k _ => 8 - (intOf k).toNat)
      case atStart => exact ⟨0, [], pn, .slice none 0 0, by omega, by omega, rfl, rfl, rfl, Lib.hid rfl, hpm, Lib.hid kF, World.ownsRow_nil _ _ _ _, Lib.hid (by simp), hbC⟩
      case round =>
        obtain ⟨j, q, pm, v, hj, hj8, rfl, rfl, hql, HSR, hpm2, HKF, hor, HPT, hbr⟩ := hrel; have e0 := (hbr.cell (p := ⟨b1, o1 + i * 2, none⟩) hbB).trans cB0
        by_cases hlr : j < RN ∧ j < 8
        · obtain ⟨r1, r2⟩ := hlr; have r1' : (j : Int) < (RN : Int) := by omega
          have r2' : (j : Int) < 8 := by omega
          have hjl : j < rs.length := by rw [HRN.out]; exact r1
          have hbw := hblB.trans (hbr.mono hsB'); obtain ⟨b2, o2, rfl, hb2, d0⟩ := (HIN.out.1.1.1.keep hbw).rc j hjl; have HRO := Lib.hid ((HIN.out.1.2.1 _ (List.getElem_mem hjl)).keep hbw); have HRS : Hid (fewRs most pn ((rs.take (j + 1)).map PC.l) = fewStep most (fewRs most pn ((rs.take j).map PC.l)) rs[j].l) := Lib.hid (by
            rw [List.take_succ_eq_append_getElem hjl, List.map_append, List.map_singleton, fewRs_snoc])
          generalize rs[j] = R at *; obtain ⟨L, Rp, Rc⟩ := R; obtain ⟨LN, hLN⟩ : ∃ R, L.length = R := ⟨_, rfl⟩; have HLN := Lib.hid hLN; have q1 := HRO.out.2.1; have q2 := HRO.out.2.2.1; dsimp only [PC.val] at d0 q1 q2; rw [hLN] at d0 q1; clear hLN; unfold maxLen at q2; obtain ⟨MN, hMN⟩ : ∃ z : Nat, min (most - pm) LN = z := ⟨_, rfl⟩; have hz0 : (if ((most : Int) - (pm : Int)) < (LN : Int) then ((most : Int) - (pm : Int)) else (LN : Int)) = (MN : Int) := by split <;> omega
          have hzm : min (LN : Int) ((most : Int) - (pm : Int)) = (MN : Int) := by omega
          have HMN := Lib.hid hMN; have q3 : (MN : Int) ≤ LN := by omega
          have q4 : MN ≤ most - pm := by omega
          clear hMN; go_wp2; refine wp_region_lit_txtZ (some 8) [0, 1, 3, 7] (fun W => W.heap[wB.heap.size]? = some (.cells #[v, .slice aa2 AN ac2] 38 (0, 0)) ∧ Below wB.heap.size wB W) (by kernel_rfl) (by kernel_rfl) (by kernel_rfl) (by kernel_rfl) ⟨HKF.out, hbr.drew⟩ ?_
          (refine txt_light ?_ rfl rfl ?_ ?_; rotate_left; · (intro w' hS; (try dsimp only at hS); go_simp; with_reducible rfl)); try simp only [Act.put, List.getElem_toArray, List.getElem_cons_succ, List.getElem_cons_zero, List.setIfInBounds_toArray, List.set_cons_zero, List.set_cons_succ]
          refine txt_light (v) rfl rfl ?_ ?_
          · intro w' hS; obtain ⟨hS1, hS2⟩ := hS; have c7 : w'.cell? ⟨wB.heap.size, 0, none⟩ = some v := by simp [World.cell?, hS1]
            clear hS1; go_simp
          try simp only [Act.put, List.getElem_toArray, List.getElem_cons_succ, List.getElem_cons_zero, List.setIfInBounds_toArray, List.set_cons_zero, List.set_cons_succ]
          have HK0 : Hid (wr.drew.heap[wB.heap.size]? = some (.cells #[v, .slice aa2 AN ac2] 38 (0, 0))) := HKF; have hbd : Below wB.heap.size wB wr.drew := hbr.drew; have hor0 : wr.drew.ownsRow wB.heap.size 39 1 v j (rcs q) := hor; have HP0 : Hid (∀ r ∈ q, PcT wr.drew r) := HPT; have hrL : Rd wr.drew Rp (pts (L.take MN)) := by
            have := HRO.out.1.take (MN * 2); rw [pts_take] at this; exact this
          have hRN0 : Rp = none → Rc = 0 := HRO.out.2.2.2; clear hor HKF HPT hbr e0 d0; generalize wr.drew = W0 at *; refine txt_heavy rfl rfl (fun K hK => ?_); go_step; have hlW : wB.heap.size < W0.heap.size := (Array.getElem?_eq_some_iff.1 HK0.out).1; have hb1 := hbd.alloc (by omega) (.cells #[] 46); have k1 : (W0.alloc (.cells #[] 46)).heap[wB.heap.size]? = some (.cells #[v, .slice aa2 AN ac2] 38 (0, 0)) := (Below.heap_alloc _ _ _ hlW).trans HK0.out; have hr1 := hrL.keep (Below.new W0 (.cells #[] 46)); have ho1 : (W0.alloc (.cells #[] 46)).ownsRow W0.heap.size 46 2 (.slice (some ⟨W0.heap.size, 0, none⟩) 0 0) 0 [] := World.ownsRow_lit W0 #[] 0 (Nat.le_refl _) (by decide) rfl; have hlt : (L.take MN).length = MN := by rw [List.length_take, HLN.out]; omega
          refine hK.out _ _ ⟨k1, hb1⟩ ?_; clear hK K
          try simp only [Act.put, List.getElem_toArray, List.getElem_cons_succ, List.getElem_cons_zero, List.setIfInBounds_toArray, List.set_cons_zero, List.set_cons_succ]
          (refine txt_light ?_ rfl rfl ?_ ?_; rotate_left; · (intro w' hS; (try dsimp only at hS); go_simp; with_reducible rfl)); try simp only [Act.put, List.getElem_toArray, List.getElem_cons_succ, List.getElem_cons_zero, List.setIfInBounds_toArray, List.set_cons_zero, List.set_cons_succ]
          refine txt_app W0 (Below.new W0 (.cells #[] 46)) rfl rfl (.tmp 60) (.tmp 61) 39 rfl 46 (.agg #[.int .i64 0, .int .i64 0]) 2 16 Try.underlying39 Try.infoPnt rfl (by decide) (.slice (some ⟨W0.heap.size, 0, none⟩) 0 0) 0 [] rfl ho1 Rp MN Rc (pts (L.take MN)) rfl hRN0 hr1 (by rw [pts_len, hlt]) (pts_one _) (by omega) (by decide) ?_; intro v2 W2 ho2 hg2 hb2; rw [Nat.zero_add, List.nil_append] at ho2; have HK2 : Hid (W2.heap[wB.heap.size]? = some (.cells #[v, .slice aa2 AN ac2] 38 (0, 0))) := Lib.hid ((hb2.block _ hlW).trans HK0.out); have hbd2 := hbd.trans (hb2.mono hbd.size); refine ⟨⟨HK2.out, hbd2⟩, ?_⟩; have hor2 := hor0.below hb2; have HP2 : Hid (∀ r ∈ q, PcT W2 r) := Lib.hid (fun r hr => (HP0.out r hr).keep hb2); obtain ⟨p2, k2, rfl, f1, f2, f3, f4, -⟩ := ho2.form; have HPN : Hid (PcT W2 ⟨L.take MN, p2, k2⟩) := Lib.hid ⟨⟨f4, by dsimp only; omega, f2, f3⟩, TypB.of_owns ho2⟩; clear k1 hb1 hr1 ho1 hg2 hrL hor0 HK0 HP0
          try simp only [Act.put, List.getElem_toArray, List.getElem_cons_succ, List.getElem_cons_zero, List.setIfInBounds_toArray, List.set_cons_zero, List.set_cons_succ]
          refine txt_heavy rfl rfl (fun K hK => ?_); go_step; have hlX : wB.heap.size < W2.heap.size := (Array.getElem?_eq_some_iff.1 HK2.out).1; have hb3 := hbd2.alloc (by omega) (.cells #[.slice p2 MN k2] 39); have hx3 := Below.new W2 (.cells #[.slice p2 MN k2] 39); have k3 : (W2.alloc (.cells #[.slice p2 MN k2] 39)).heap[wB.heap.size]? = some (.cells #[v, .slice aa2 AN ac2] 38 (0, 0)) := (Below.heap_alloc _ _ _ hlX).trans HK2.out; have rd := Rd.lit W2 W2.heap.size [.slice p2 MN k2] 39 rfl; have hor3 := hor2.below hx3; have HP3 : Hid (∀ r ∈ q, PcT (W2.alloc (.cells #[.slice p2 MN k2] 39)) r) := Lib.hid (fun r hr => (HP2.out r hr).keep hx3); have HPN3 := Lib.hid (HPN.out.keep hx3); have HK3 := Lib.hid k3; refine hK.out _ _ ⟨k3, hb3⟩ ?_; clear hK K k3 hx3 ho2 hor2 HP2 HPN HK2 hbd2 hb2 hlX; generalize W2.alloc (.cells #[.slice p2 MN k2] 39) = W3 at *
          try simp only [Act.put, List.getElem_toArray, List.getElem_cons_succ, List.getElem_cons_zero, List.setIfInBounds_toArray, List.set_cons_zero, List.set_cons_succ]
          refine txt_app wB hb3 rfl rfl (.tmp 59) (.tmp 63) 35 rfl 39 (.slice none 0 0) 1 24 Try.underlying35 Try.infoRow rfl (by decide) v j (rcs q) rfl hor3 (some ⟨W2.heap.size, 0, none⟩) 1 1 [.slice p2 MN k2] rfl (fun h => by cases h) rd rfl (by simp [Value.oneCell']) (by omega) (by decide) ?_; intro v3 W4 ho4 hg4 hb4; have HK4 : Hid (W4.heap[wB.heap.size]? = some (.cells #[v, .slice aa2 AN ac2] 38 (0, 0))) := Lib.hid (((KeepS.of_row (S := fun T => T = 38) hor3 (by decide) hg4).2 _ _ _ _ HK3.out rfl).trans HK3.out); have HKS := Lib.hid (KeepS.of_row (S := fun T => T = 46) hor3 (by decide) hg4); have HP4 : Hid (∀ r ∈ q ++ [⟨L.take MN, p2, k2⟩], PcT W4 r) := Lib.hid (fun r hr => by
            rcases List.mem_append.1 hr with hr | hr
            · exact (HP3.out r hr).keepS (S := fun T => T = 46) rfl HKS.out
            · rw [List.mem_singleton.1 hr]; exact HPN3.out.keepS (S := fun T => T = 46) rfl HKS.out)
          have hqc : rcs q ++ [.slice p2 MN k2] = rcs (q ++ [⟨L.take MN, p2, k2⟩]) := by rw [rcs_snoc]; simp [PC.val, hlt]
          rw [hqc] at ho4; obtain ⟨p3, k3, rfl, -⟩ := ho4.form; refine ⟨⟨HK4.out, hb4⟩, ?_⟩; clear hor3 HP3 HPN3 HK3 HKS hg4 rd hb3 hqc
          try simp only [Act.put, List.getElem_toArray, List.getElem_cons_succ, List.getElem_cons_zero, List.setIfInBounds_toArray, List.set_cons_zero, List.set_cons_succ]
          (refine txt_light ?_ rfl rfl ?_ ?_; rotate_left; · (intro w' hS; (try dsimp only at hS); go_simp; with_reducible rfl)); try simp only [Act.put, List.getElem_toArray, List.getElem_cons_succ, List.getElem_cons_zero, List.setIfInBounds_toArray, List.set_cons_zero, List.set_cons_succ]
          refine txt_last rfl rfl rfl (fun K hK => ?_); have c7 : W4.cell? ⟨wB.heap.size, 0, none⟩ = some v := by simp [World.cell?, HK4.out]
          have c8 : W4.frozen? ⟨wB.heap.size, 0, none⟩ = false := by simp [World.frozen?, HK4.out]
          go_step; refine hK.out _ _ ?_; refine txt_nil ?_; have HK5 : Hid ((W4.setCell ⟨wB.heap.size, 0, none⟩ (.slice p3 (j + 1) k3)).heap[wB.heap.size]? = some (.cells #[.slice p3 (j + 1) k3, .slice aa2 AN ac2] 38 (0, 0))) := Lib.hid (blkT_set (vs := [v, .slice aa2 AN ac2]) HK4.out 0 _); have ho5 := ownsRow_box ho4 HK4.out (by decide) 0 (.slice p3 (j + 1) k3); have HP5 : Hid (∀ r ∈ q ++ [⟨L.take MN, p2, k2⟩], PcT (W4.setCell ⟨wB.heap.size, 0, none⟩ (.slice p3 (j + 1) k3)) r) := Lib.hid (fun r hr => (HP4.out r hr).keepS (S := fun T => T = 46) rfl (KeepS.store HK4.out (by decide) _)); have hb5 := hb4.setCell (p := ⟨wB.heap.size, 0, none⟩) (Nat.le_refl _) (.slice p3 (j + 1) k3); have HSQ : Hid (fewRs most pn ((rs.take (j + 1)).map PC.l) = ((q ++ [(⟨L.take MN, p2, k2⟩ : PC)]).map PC.l, pm + MN)) := Lib.hid (by
            have ht : L.take (most - pm) = L.take MN := by
              rw [← HMN.out, ← HLN.out]
              by_cases h : most - pm ≤ L.length
              · rw [Nat.min_eq_left h]
              · rw [Nat.min_eq_right (by omega), List.take_length, List.take_of_length_le (by omega)]
            rw [HRS.out, HSR.out]; simp [fewStep, ht, hlt])
          have hql5 : (q ++ [(⟨L.take MN, p2, k2⟩ : PC)]).length = j + 1 := by simp [hql]
          clear hK K c7 c8 ho4 HP4 hb4 HK4 HRS HSR HRO hlt HMN HLN hRN0 f1 f2 f3 f4 hz0 hbd; generalize q ++ [(⟨L.take MN, p2, k2⟩ : PC)] = q5 at *; generalize W4.setCell ⟨wB.heap.size, 0, none⟩ (.slice p3 (j + 1) k3) = W5 at *; go_wp2; exact ⟨⟨j + 1, q5, pm + MN, .slice p3 (j + 1) k3, by omega, by omega, by go_num, by go_num, hql5, HSQ, by omega, HK5, ho5, HP5, hb5⟩, by simp [intOf]; omega⟩
          trace_state
          done
        · obtain ⟨p3, k3, rfl, g1, g2, g3, g4, -⟩ := hor.form; have e6 : wr.cell? ⟨wB.heap.size, 0, none⟩ = some (.slice p3 j k3) := by simp [World.cell?, HKF.out]
          have e7 : wr.cell? ⟨wB.heap.size, 0 + 1, none⟩ = some (.slice aa2 AN ac2) := by simp [World.cell?, HKF.out]
          have HTK : Hid (rs.take j = rs.take 8) := Lib.hid (by
            by_cases h8 : j = 8
            · rw [h8]
            · rw [List.take_of_length_le (by rw [HRN.out]; omega), List.take_of_length_le (by rw [HRN.out]; omega)])
          have hbw := hblB.trans (hbr.mono hsB'); have hoX := hoB.below hbr; have HFC : Hid (fcs fs ++ [.slice p3 j k3, .slice aa2 AN ac2] = fcs (fs ++ [⟨q, p3, k3, AL, aa2, ac2⟩])) := Lib.hid (by
            rw [fcs_snoc]; simp [Fc.cells, Fc.rval, Fc.aval, hql, HAN.out])
          have HSX : Hid (fewFs most ((l.take (i + 1)).map Fc.plain) = ((fs ++ [(⟨q, p3, k3, AL, aa2, ac2⟩ : Fc)]).map Fc.plain, pm)) := Lib.hid (by
            have e : fewRs most pn ((rs.map PC.l).take 8) = (q.map PC.l, pm) := by rw [← List.map_take, ← HTK.out]; exact HSR.out
            rw [HSN.out, HST.out]; simp only [fewStepF, Fc.plain, Fc.rings, e, HAL.out, List.map_append, List.map_cons, List.map_nil])
          have HFA : Hid (∀ f ∈ fs ++ [(⟨q, p3, k3, AL, aa2, ac2⟩ : Fc)], FcT wr f) := Lib.hid (fun f hf => by
            rcases List.mem_append.1 hf with hf | hf
            · exact (HFB.out f hf).keep hbr
            · rw [List.mem_singleton.1 hf]; exact ⟨⟨⟨g4, by rw [hql]; exact g1, g2, g3⟩, fun r hr => (HPT.out r hr).1, ⟨har.keep hbr, by rw [HAN.out]; exact hac1, hac2, hac3⟩⟩, TypB.of_owns hor, HPT.out, hat.keepS (S := fun _ => True) trivial (KeepS.of_below hbr)⟩)
          clear hor HSR HKF HPT HTK g1 g2 g3 g4 hoB HFB
          by_cases r1 : j < RN
          · have r1' : (j : Int) < (RN : Int) := by omega
            have r2' : ¬ (j : Int) < 8 := by omega
            go_wp2_with (at_builtin; go_must (refine wpList_appLit' w hbw rfl (.tmp 70) (.tmp 72) 22 rfl 38 (.agg #[.slice none 0 0, .slice none 0 0]) 2 48 Try.underlying22 Try.infoFace rfl (by decide) (by decide) u5 i (fcs fs) rfl hoX 1 1 [.slice p3 j k3, .slice aa2 AN ac2] _ rfl rfl (by simp [Value.oneCell']) (by omega) ?_); intro v9 W9 ho9 hg9 hb9; have HKP := Lib.hid (KeepS.of_row hoX faceS_face hg9); clear hg9 hoX)
            rw [HFC.out] at ho9; exact ⟨⟨i + 1, fs ++ [⟨q, p3, k3, AL, aa2, ac2⟩], pm, by omega, by omega, by go_num, rfl, by simp [hfl], HSX, hpm2, ho9, Lib.hid (fun f hf => (HFA.out f hf).keepS HKP.out), hb9⟩, by simp [intOf]; omega⟩
          · have r1' : ¬ (j : Int) < (RN : Int) := by omega
            go_wp2_with (at_builtin; go_must (refine wpList_appLit' w hbw rfl (.tmp 70) (.tmp 72) 22 rfl 38 (.agg #[.slice none 0 0, .slice none 0 0]) 2 48 Try.underlying22 Try.infoFace rfl (by decide) (by decide) u5 i (fcs fs) rfl hoX 1 1 [.slice p3 j k3, .slice aa2 AN ac2] _ rfl rfl (by simp [Value.oneCell']) (by omega) ?_); intro v9 W9 ho9 hg9 hb9; have HKP := Lib.hid (KeepS.of_row hoX faceS_face hg9); clear hg9 hoX)
            rw [HFC.out] at ho9; exact ⟨⟨i + 1, fs ++ [⟨q, p3, k3, AL, aa2, ac2⟩], pm, by omega, by omega, by go_num, rfl, by simp [hfl], HSX, hpm2, ho9, Lib.hid (fun f hf => (HFA.out f hf).keepS HKP.out), hb9⟩, by simp [intOf]; omega⟩
    · have HTK : Hid (l.take i = l.take 10) := Lib.hid (by
        by_cases h10 : i = 10
        · rw [h10]
        · rw [List.take_of_length_le (by rw [HN.out]; omega), List.take_of_length_le (by rw [HN.out]; omega)])
      have HRE : Hid (fs.map Fc.plain = RES) := Lib.hid (by rw [HFE.out, ← HTK.out, HST.out]); rw [← hfl] at ho
      by_cases h1 : i < N
      · have h1' : (i : Int) < (N : Int) := by omega
        have h2' : ¬ (i : Int) < 10 := by omega
        go_wp2; go_ret; exact ⟨fs, _, rfl, ho, HFT.out, HRE.out, hbl⟩
      · have h1' : ¬ (i : Int) < (N : Int) := by omega
        go_wp2; go_ret; exact ⟨fs, _, rfl, ho, HFT.out, HRE.out, hbl⟩
end Go.Proofs.Ytccamjnomjcchaa
/- How great few faces are. -/
set_option linter.unusedVariables false
set_option linter.unusedSimpArgs false
namespace Go
open Go.RowKit
theorem fewFs_ls (most : Nat) (l : List Fp) : (∀ f ∈ (fewFs most l).1, f.rings.length ≤ 8 ∧ f.ls.length ≤ 10 ∧ ∀ r ∈ f.rings, r.length ≤ most) ∧ (fewFs most l).1.length = l.length := by
  have kr : ∀ (l : List (List Pt)) (s : List (List Pt) × Nat), (∀ r ∈ s.1, r.length ≤ most) → (l.foldl (fewStep most) s).1.length = s.1.length + l.length ∧ ∀ r ∈ (l.foldl (fewStep most) s).1, r.length ≤ most := by
    intro l
    induction l with
    | nil => intro s h; exact ⟨rfl, h⟩
    | cons r l ih =>
      intro s h; have h2 : ∀ r' ∈ (fewStep most s r).1, r'.length ≤ most := by
        intro r' hr; simp only [fewStep, List.mem_append, List.mem_singleton] at hr
        rcases hr with hr | hr
        · exact h r' hr
        · rw [hr, List.length_take]; omega
      obtain ⟨k1, k2⟩ := ih _ h2; refine ⟨?_, k2⟩; simp only [List.foldl_cons]; rw [k1]; simp [fewStep]; omega
  have key : ∀ (l : List Fp) (s : List Fp × Nat), (∀ f ∈ s.1, f.rings.length ≤ 8 ∧ f.ls.length ≤ 10 ∧ ∀ r ∈ f.rings, r.length ≤ most) → (∀ f ∈ (l.foldl (fewStepF most) s).1, f.rings.length ≤ 8 ∧ f.ls.length ≤ 10 ∧ ∀ r ∈ f.rings, r.length ≤ most) ∧ (l.foldl (fewStepF most) s).1.length = s.1.length + l.length := by
    intro l
    induction l with
    | nil => intro s h; exact ⟨h, rfl⟩
    | cons f l ih =>
      intro s h; have h2 : ∀ g ∈ (fewStepF most s f).1, g.rings.length ≤ 8 ∧ g.ls.length ≤ 10 ∧ ∀ r ∈ g.rings, r.length ≤ most := by
        intro g hg; simp only [fewStepF, List.mem_append, List.mem_singleton] at hg
        rcases hg with hg | hg
        · exact h g hg
        · obtain ⟨k1, k2⟩ := kr (f.rings.take 8) ([], s.2) (by simp); rw [hg]; refine ⟨?_, by simp; omega, fun r hr => k2 r hr⟩; show (fewRs most s.2 (f.rings.take 8)).1.length ≤ 8; unfold fewRs; rw [k1]; simp; omega
      obtain ⟨k1, k2⟩ := ih _ h2; refine ⟨k1, ?_⟩; simp only [List.foldl_cons]; rw [k2]; simp [fewStepF]; omega
  obtain ⟨k1, k2⟩ := key l ([], 0) (by simp); exact ⟨k1, by unfold fewFs; rw [k2]; simp⟩
theorem few_one {fs : List Fc} {most : Nat} {x : Fp} (h : fs.map Fc.plain = fewF most [x]) : ∃ g, fs = [g] ∧ g.rs.length ≤ 8 ∧ g.ls.length ≤ 10 ∧ ∀ r ∈ g.rs, r.l.length ≤ most := by
  have h0 : fewF most [x] = (fewFs most [x]).1 := rfl; obtain ⟨k1, k2⟩ := fewFs_ls most [x]; rw [← h0, ← h] at k1 k2; rw [List.length_map] at k2
  match fs, k2 with
  | [g], _ =>
    have := k1 g.plain (by simp); refine ⟨g, rfl, by simpa [Fc.plain, Fc.rings] using this.1, this.2.1, fun r hr => this.2.2 r.l ?_⟩; exact List.mem_map_of_mem hr
theorem few_bd {fs : List Fc} {most : Nat} {l : List Fp} (h : fs.map Fc.plain = fewF most l) : fs.length ≤ 10 ∧ ∀ f ∈ fs, f.rs.length ≤ 8 ∧ f.ls.length ≤ 10 ∧ ∀ r ∈ f.rs, r.l.length ≤ most := by
  obtain ⟨k1, k2⟩ := fewFs_ls most (l.take 10); have h0 : fewF most l = (fewFs most (l.take 10)).1 := rfl; rw [← h0, ← h] at k1 k2; rw [List.length_map, List.length_take] at k2; refine ⟨by omega, fun f hf => ?_⟩; have := k1 f.plain (List.mem_map_of_mem hf); refine ⟨by simpa [Fc.plain, Fc.rings] using this.1, this.2.1, fun r hr => this.2.2 r.l ?_⟩; exact List.mem_map_of_mem hr
end Go
/- Few faces: their points are of those that came in, and no more than may be. -/
set_option linter.unusedVariables false
set_option linter.unusedSimpArgs false
namespace Go
open Go.RowKit
theorem fewRs_pts (most p : Nat) (l : List (List Pt)) : (∀ r ∈ (fewRs most p l).1, ∀ x ∈ r, ∃ s ∈ l, x ∈ s) ∧ (fewRs most p l).2 = p + lenS (fewRs most p l).1 := by
  have key : ∀ (l : List (List Pt)) (s : List (List Pt) × Nat) (Q : Pt → Prop), (∀ r ∈ s.1, ∀ x ∈ r, Q x) → (∀ r ∈ l, ∀ x ∈ r, Q x) → (∀ r ∈ (l.foldl (fewStep most) s).1, ∀ x ∈ r, Q x) ∧ (s.2 = p + lenS s.1 → (l.foldl (fewStep most) s).2 = p + lenS (l.foldl (fewStep most) s).1) := by
    intro l
    induction l with
    | nil => intro s Q h _; exact ⟨h, id⟩
    | cons r l ih =>
      intro s Q h hl; obtain ⟨k1, k2⟩ := ih (fewStep most s r) Q (by
        intro r' hr x hx; simp only [fewStep, List.mem_append, List.mem_singleton] at hr
        rcases hr with hr | hr
        · exact h r' hr x hx
        · rw [hr] at hx; exact hl r List.mem_cons_self x (List.mem_of_mem_take hx)) (fun r hr => hl r (List.mem_cons_of_mem _ hr))
      refine ⟨k1, fun e => k2 ?_⟩; simp only [fewStep, lenS_append, lenS, e]; omega
  obtain ⟨k1, k2⟩ := key l ([], p) (fun x => ∃ s ∈ l, x ∈ s) (by simp) (fun r hr x hx => ⟨r, hr, hx⟩); exact ⟨k1, k2 (by simp [lenS])⟩
theorem few_all (most : Nat) (l : List Fp) : (∀ f ∈ fewF most l, ∀ r ∈ f.rings, ∀ x ∈ r, ∃ g ∈ l, ∃ s ∈ g.rings, x ∈ s) ∧ cntP ((fewF most l).map Fp.rings) ≤ most := by
  have key : ∀ (l : List Fp) (s : List Fp × Nat) (Q : Pt → Prop), (∀ f ∈ s.1, ∀ r ∈ f.rings, ∀ x ∈ r, Q x) → (∀ f ∈ l, ∀ r ∈ f.rings, ∀ x ∈ r, Q x) → (∀ f ∈ (l.foldl (fewStepF most) s).1, ∀ r ∈ f.rings, ∀ x ∈ r, Q x) ∧ (s.2 = cntP (s.1.map Fp.rings) → (l.foldl (fewStepF most) s).2 = cntP ((l.foldl (fewStepF most) s).1.map Fp.rings)) := by
    intro l
    induction l with
    | nil => intro s Q h _; exact ⟨h, id⟩
    | cons f l ih =>
      intro s Q h hl; obtain ⟨q1, q2⟩ := fewRs_pts most s.2 (f.rings.take 8); obtain ⟨k1, k2⟩ := ih (fewStepF most s f) Q (by
        intro g hg r hr x hx; simp only [fewStepF, List.mem_append, List.mem_singleton] at hg
        rcases hg with hg | hg
        · exact h g hg r hr x hx
        · rw [hg] at hr; obtain ⟨t, ht, hxt⟩ := q1 r hr x hx; exact hl f List.mem_cons_self t (List.mem_of_mem_take ht) x hxt) (fun g hg => hl g (List.mem_cons_of_mem _ hg))
      refine ⟨k1, fun e => k2 ?_⟩; simp only [fewStepF, List.map_append, List.map_cons, List.map_nil, cntP_append, cntP]; rw [q2, e]; omega
  have h0 : fewF most l = (fewFs most (l.take 10)).1 := rfl; obtain ⟨k1, k2⟩ := key (l.take 10) ([], 0) (fun x => ∃ g ∈ l, ∃ s ∈ g.rings, x ∈ s) (by simp) (fun f hf r hr x hx => ⟨f, List.mem_of_mem_take hf, r, hr, hx⟩); refine ⟨k1, ?_⟩; have h1 := k2 rfl; have h2 := fewFs_le most (l.take 10); rw [h0]; unfold fewFs at h2 ⊢; omega
theorem plain_rings (fs : List Fc) : (fs.map Fc.plain).map Fp.rings = fs.map Fc.rings := by
  rw [List.map_map]; rfl
theorem few_13 {fs : List Fc} {most : Nat} {l : List Fc} (h : fs.map Fc.plain = fewF most (l.map Fc.plain)) (Q : Pt → Prop) (hq : ∀ f ∈ l, ∀ r ∈ f.rs, ∀ x ∈ r.l, Q x) :
    fs.length ≤ 10 ∧ (∀ f ∈ fs, f.rs.length ≤ 8 ∧ f.ls.length ≤ 10 ∧ ∀ r ∈ f.rs, r.l.length ≤ most) ∧ cntP (fs.map Fc.rings) ≤ most ∧ cntR (fs.map Fc.rings) ≤ 80 ∧ ∀ f ∈ fs, ∀ r ∈ f.rs, ∀ x ∈ r.l, Q x := by
  obtain ⟨k1, k2⟩ := few_bd h; obtain ⟨k3, k4⟩ := few_all most (l.map Fc.plain); rw [← h] at k3 k4; rw [plain_rings] at k4; refine ⟨k1, k2, k4, ?_, fun f hf r hr x hx => ?_⟩
  · have hc : ∀ fs : List Fc, (∀ f ∈ fs, f.rs.length ≤ 8) → cntR (fs.map Fc.rings) ≤ fs.length * 8 := by
      intro fs
      induction fs with
      | nil => intro _; simp [cntR]
      | cons f fs ih =>
        intro hh; have h1 := ih (fun g hg => hh g (List.mem_cons_of_mem _ hg)); have h2 := hh f List.mem_cons_self; have h3 : f.rings.length = f.rs.length := by simp [Fc.rings]
        simp only [List.map_cons, cntR, List.length_cons, h3]; omega
    have := hc fs (fun f hf => (k2 f hf).1); omega
  · obtain ⟨g, hg, s, hs, hxs⟩ := k3 f.plain (List.mem_map_of_mem hf) r.l (List.mem_map_of_mem hr) x hx; obtain ⟨g', hg', rfl⟩ := List.mem_map.1 hg; obtain ⟨s', hs', rfl⟩ := List.mem_map.1 hs; exact hq g' hg' s' hs' x hxs
end Go
