/-
  order.Find, Strips, Common of a rising row.
-/
import Derived.Test.YtoljdocfbgjnfaaLib
import Derived.Test.YtoljdocfbgjnfaaZmerge
set_option linter.unusedVariables false
set_option linter.unusedSimpArgs false
set_option maxRecDepth 100000
namespace Go
/-- Place k parts what is less than n from the rest. -/
def Sp (l : List Int) (n : Int) (k : Nat) : Prop := k ≤ l.length ∧ (∀ i, i < k → l[i]! < n) ∧ ∀ i, k ≤ i → i < l.length → n ≤ l[i]!
theorem rise_get {l : List Int} (h : l.Pairwise (· < ·)) {i j : Nat} (hij : i < j) (hj : j < l.length) : l[i]! < l[j]! := by
  rw [getElem!_pos l i (by omega), getElem!_pos l j hj]
  exact List.pairwise_iff_getElem.1 h i j (by omega) hj hij
end Go
namespace Go.Proofs.Ytoljdocfbgjnfaa
open Go.RowKit
set_option maxHeartbeats 3200000 in
theorem find_any (a : Option Addr) (c : Nat) (l : List Int) (hs : l.Pairwise (· < ·)) (hl : l.length ≤ 1000000) (n : Int) (w : World) (hr : Rd w a (ins l)) :
    Calls Try.prog 38 #[.slice a l.length c, .int .i64 n] w fun e w' => ∃ k : Nat, e = .returned (.tuple #[.int .i64 k, .bool (decide (k < l.length ∧ l[k]! = n))]) ∧ Sp l n k ∧ ∃ q, w' = w.drewN q := by
  have HS := Lib.hid hs
  have HR := Lib.hid hr
  obtain ⟨m, hm⟩ : ∃ m, l.length = m := ⟨_, rfl⟩
  have HM := Lib.hid hm
  rw [hm] at hl ⊢
  clear hs hr hm
  go_enter Try.func38, Try.ntmps38
  go_wp2
  refine wp_goto_pre 0 (fun t a' w' => ∃ (lo h : Nat) (u8 u9 u10 u11 u12 u13 u14 u15 u16 u17 u18 u19 u20 u21 u22 u23 u24 u25 u26 u27 u28 u29 u30 u31 u32 u33 u34 u35 u36 u37 u38 u39 u40 u41 : Value),
    (t = h - lo ∧ lo ≤ h ∧ h ≤ m ∧ Hid (∀ i, i < lo → l[i]! < n) ∧ Hid (∀ i, h ≤ i → i < m → n ≤ l[i]!) ∧ w' = w) ∧
    a' = { tmps := #[.slice a m c, .int .i64 n, undef, undef, .int .i64 0, .bool false, .int .i64 (lo : Nat), .int .i64 (h : Nat), u8, u9, u10, u11, u12, u13, u14, u15, u16, u17, u18, u19, u20, u21, u22, u23, u24, u25, u26, u27, u28, u29, u30, u31, u32, u33, u34, u35, u36, u37, u38, u39, u40, u41], defers := [] }) rfl ?_ ?_
  · rintro _ a' w' ⟨lo, h, u8, u9, u10, u11, u12, u13, u14, u15, u16, u17, u18, u19, u20, u21, u22, u23, u24, u25, u26, u27, u28, u29, u30, u31, u32, u33, u34, u35, u36, u37, u38, u39, u40, u41, ⟨rfl, hlh, hhm, HL, HH, rfl⟩, rfl⟩ J hJ
    have HJ := Lib.hid hJ
    clear hJ
    by_cases he : lo = h
    · subst he
      have HSP : Hid (Sp l n lo) := Lib.hid ⟨by rw [HM.out]; exact hhm, HL.out, by rw [HM.out]; exact HH.out⟩
      by_cases hlt : lo < m
      · have hlt2 : (lo : Int) < (m : Int) := by omega
        obtain ⟨b1, o1, rfl, hc, -⟩ := HR.out.at (i := lo) (v := .int .i64 l[lo]!) (by simp [ins, HM.out, hlt])
        obtain ⟨x, hxe⟩ : ∃ x, l[lo]! = x := ⟨_, rfl⟩
        have HX := Lib.hid hxe
        rw [hxe] at hc
        clear hxe
        by_cases hx : x = n
        · subst hx
          go_wp2
          go_quiet (fail)
          go_wp2
          try rw [Exit.jump_ret]
          refine bodyPost_ret (v := .tuple #[.int .i64 lo, .bool true]) (by simp [results, Try.results38, go_sem]) rfl ⟨lo, ?_, HSP.out, _, rfl⟩
          rw [HX.out]; simp [hlt]
        · go_wp2
          go_quiet (fail)
          go_wp2
          try rw [Exit.jump_ret]
          refine bodyPost_ret (v := .tuple #[.int .i64 lo, .bool false]) (by simp [results, Try.results38, go_sem, hx]) rfl ⟨lo, ?_, HSP.out, _, rfl⟩
          rw [HX.out]; simp [hx]
      · have hlt2 : ¬ (lo : Int) < (m : Int) := by omega
        go_wp2
        go_quiet (fail)
        go_wp2
        try rw [Exit.jump_ret]
        refine bodyPost_ret (v := .tuple #[.int .i64 lo, .bool false]) (by simp [results, Try.results38, go_sem]) rfl ⟨lo, ?_, HSP.out, _, rfl⟩
        simp [hlt]
    · have he2 : ¬ (lo : Int) = (h : Int) := by omega
      obtain ⟨D, hD⟩ : ∃ D : Nat, h - lo = D := ⟨_, rfl⟩
      obtain ⟨E, hE⟩ : ∃ E : Nat, D / 2 = E := ⟨_, rfl⟩
      obtain ⟨M, hM⟩ : ∃ M : Nat, lo + E = M := ⟨_, rfl⟩
      have w1 : IntKind.i64.wrap ((h : Int) - (lo : Int)) = (D : Int) := by rw [show (h : Int) - (lo : Int) = (D : Int) by omega]; exact IntWalk.i64_in _ (by omega)
      have w2 : (D : Int).tdiv 2 = (E : Int) := by rw [Int.tdiv_eq_ediv_of_nonneg (by omega)]; omega
      have w2b : IntKind.i64.wrap (E : Int) = (E : Int) := IntWalk.i64_in _ (by omega)
      have hEb : E ≤ 1000000 := by omega
      have w3 : IntKind.i64.wrap ((lo : Int) + (E : Int)) = (M : Int) := by rw [show (lo : Int) + (E : Int) = (M : Int) by omega]; exact IntWalk.i64_in _ (by omega)
      have hMm : M < m := by omega
      have hMl : lo ≤ M ∧ M < h := by omega
      have hMi : (M : Int) < (m : Int) := by omega
      clear hM hE
      obtain ⟨b1, o1, rfl, hc, -⟩ := HR.out.at (i := M) (v := .int .i64 l[M]!) (by simp [ins, HM.out, hMm])
      obtain ⟨x, hxe⟩ : ∃ x, l[M]! = x := ⟨_, rfl⟩
      have HX := Lib.hid hxe
      rw [hxe] at hc
      clear hxe
      by_cases hx : x < n
      · have HLT : Hid (∀ i, i < M + 1 → l[i]! < n) := Lib.hid (fun i hi => by
          by_cases h1 : i = M
          · subst h1; rw [HX.out]; exact hx
          · have := rise_get HS.out (show i < M by omega) (by rw [HM.out]; exact hMm)
            rw [HX.out] at this; omega)
        go_wp2
        go_step3
        show (0 : Nat) = 0 ∧ J _ _
        exact ⟨rfl, HJ.out (h - (M + 1)) _ _ (by omega) ⟨M + 1, h, _, _, _, _, _, _, _, _, _, _, _, _, _, _, _, _, _, _, _, _, _, _, _, _, _, _, _, _, _, _, _, _, _, _, ⟨rfl, by omega, by omega, HLT, HH, rfl⟩, rfl⟩⟩
      · have HGE : Hid (∀ i, M ≤ i → i < m → n ≤ l[i]!) := Lib.hid (fun i h1 h2 => by
          by_cases h3 : i = M
          · subst h3; rw [HX.out]; omega
          · have := rise_get HS.out (show M < i by omega) (by rw [HM.out]; exact h2)
            rw [HX.out] at this; omega)
        go_wp2
        go_step3
        show (0 : Nat) = 0 ∧ J _ _
        exact ⟨rfl, HJ.out (M - lo) _ _ (by omega) ⟨lo, M, _, _, _, _, _, _, _, _, _, _, _, _, _, _, _, _, _, _, _, _, _, _, _, _, _, _, _, _, _, _, _, _, _, _, ⟨rfl, by omega, by omega, HL, HGE, rfl⟩, rfl⟩⟩
  · intro J HI
    go_wp2
    go_step3
    go_step
    go_step
    exact HI.out (m - 0) _ _ ⟨0, m, _, _, _, _, _, _, _, _, _, _, _, _, _, _, _, _, _, _, _, _, _, _, _, _, _, _, _, _, _, _, _, _, _, _, ⟨rfl, by omega, by omega, Lib.hid (fun i h => by omega), Lib.hid (fun i h1 h2 => by omega), rfl⟩, rfl⟩
/-- Place k parts what is at most n from the rest. -/
def Sq (l : List Int) (n : Int) (k : Nat) : Prop := k ≤ l.length ∧ (∀ i, i < k → l[i]! ≤ n) ∧ ∀ i, k ≤ i → i < l.length → n < l[i]!
theorem sq_miss {l : List Int} {n : Int} {k : Nat} (h : Sp l n k) (hs : l.Pairwise (· < ·)) (hf : ¬ (k < l.length ∧ l[k]! = n)) : Sq l n k := by
  refine ⟨h.1, fun i hi => Int.le_of_lt (h.2.1 i hi), fun i h1 h2 => ?_⟩
  have h3 := h.2.2 k (Nat.le_refl _) (by omega)
  have h4 : n ≠ l[k]! := fun e => hf ⟨by omega, e.symm⟩
  by_cases h5 : i = k
  · subst h5; omega
  · have := rise_get hs (show k < i by omega) h2; omega
theorem sq_hit {l : List Int} {n : Int} {k : Nat} (h : Sp l n k) (hs : l.Pairwise (· < ·)) (hf : k < l.length ∧ l[k]! = n) : Sq l n (k + 1) := by
  refine ⟨hf.1, fun i hi => ?_, fun i h1 h2 => ?_⟩
  · by_cases h5 : i = k
    · subst h5; omega
    · have := h.2.1 i (by omega); omega
  · have := rise_get hs (show k < i by omega) h2; omega

set_option maxHeartbeats 1600000 in
theorem strips_any (a : Option Addr) (c : Nat) (l : List Int) (hs : l.Pairwise (· < ·)) (hl : l.length ≤ 1000000) (n : Int) (w : World) (hr : Rd w a (ins l)) :
    Calls Try.prog 19 #[.slice a l.length c, .int .i64 n] w fun e w' => ∃ k q : Nat, e = .returned (.tuple #[.int .i64 k, .int .i64 q]) ∧ Sp l n k ∧ Sq l n q ∧ ∃ q, w' = w.drewN q := by
  have HS := Lib.hid hs
  have HR := Lib.hid hr
  have HF := Lib.hid (find_any a c l hs hl n w hr)
  obtain ⟨m, hm⟩ : ∃ m, l.length = m := ⟨_, rfl⟩
  have HM := Lib.hid hm
  rw [hm] at hl HF ⊢
  clear hs hr hm
  go_enter Try.func19, Try.ntmps19
  go_wp2_with fail
  refine HF.out.mono ?_
  rintro e w1 ⟨k, rfl, hsp, nq, rfl⟩
  have HSP := Lib.hid hsp
  have hkm : k ≤ m := by have := hsp.1; rwa [HM.out] at this
  clear hsp HF
  by_cases hf : k < m ∧ l[k]! = n
  · have HSQ := Lib.hid (sq_hit HSP.out HS.out (by rw [HM.out]; exact hf))
    rw [decide_eq_true hf]
    obtain ⟨hk2, hkn⟩ := hf
    have HN := Lib.hid (fun i (h1 : k + 1 ≤ i) (h2 : i < l.length) => HSQ.out.2.2 i h1 h2)
    have HR := Lib.hid (HR.out.drewN nq)
    have HKN := Lib.hid hkn
    clear hkn
    go_wp2
    go_loopw [8] (fun i wr => wr = w.drewN nq ∧ (i = .int .i64 k ∨ i = .int .i64 ((k + 1 : Nat) : Int))) (fun i _ => k + 2 - (intOf i).toNat)
    case atStart => exact ⟨rfl, .inl rfl⟩
    case round =>
      obtain ⟨rfl, h | h⟩ := hrel
      · subst h
        obtain ⟨b1, o1, rfl, hc, -⟩ := HR.out.at (i := k) (v := .int .i64 l[k]!) (by simp [ins, HM.out, hk2])
        rw [HKN.out] at hc
        have hk3 : (k : Int) < (m : Int) := by omega
        go_wp2
        exact ⟨⟨trivial, .inr (val_int (by omega))⟩, by simp [intOf]⟩
      · subst h
        by_cases hk3 : k + 1 < m
        · have hk4 : ((k + 1 : Nat) : Int) < (m : Int) := by omega
          obtain ⟨b1, o1, rfl, hc, -⟩ := HR.out.at (i := k + 1) (v := .int .i64 l[k + 1]!) (by simp [ins, HM.out, hk3])
          have hx : ¬ l[k + 1]! = n := by have := HN.out (k + 1) (Nat.le_refl _) (by rw [HM.out]; exact hk3); omega
          generalize l[k + 1]! = x at *
          go_wp2
          refine bodyPost_ret (v := .tuple #[.int .i64 k, .int .i64 ((k + 1 : Nat) : Int)]) (by simp [results, Try.results19, go_sem]) rfl ⟨k, k + 1, by simp, HSP.out, HSQ.out, _, rfl⟩
        · have hk4 : ¬ ((k + 1 : Nat) : Int) < (m : Int) := by omega
          go_wp2
          refine bodyPost_ret (v := .tuple #[.int .i64 k, .int .i64 ((k + 1 : Nat) : Int)]) (by simp [results, Try.results19, go_sem]) rfl ⟨k, k + 1, by simp, HSP.out, HSQ.out, _, rfl⟩
  · have HSQ := Lib.hid (sq_miss HSP.out HS.out (by rw [HM.out]; exact hf))
    rw [decide_eq_false hf]
    clear hf
    go_wp2
    go_loopw [8] (fun i wr => wr = w.drewN nq ∧ i = .int .i64 k) (fun i _ => k + 2 - (intOf i).toNat)
    case atStart => exact ⟨rfl, rfl⟩
    case round =>
      obtain ⟨rfl, h⟩ := hrel
      subst h
      go_wp2
      refine bodyPost_ret (v := .tuple #[.int .i64 k, .int .i64 k]) (by simp [results, Try.results19, go_sem]) rfl ⟨k, k, rfl, HSP.out, HSQ.out, _, rfl⟩

set_option maxHeartbeats 1600000 in
theorem common_yes (a : Option Addr) (c : Nat) (l : List Int) (hs : l.Pairwise (· < ·)) (hl : l.length ≤ 1000000) (x y : Int) (hn : ∀ c ∈ l, ¬ (x < c ∧ c < y) ∧ ¬ (y < c ∧ c < x)) (w : World) (hr : Rd w a (ins l)) :
    Calls Try.prog 9 #[.slice a l.length c, .int .i64 x, .int .i64 y] w fun e w' => e = .returned (.bool true) ∧ ∃ q, w' = w.drewN q := by
  have HN := Lib.hid hn
  have HF1 := Lib.hid (strips_any a c l hs hl x w hr)
  have HF2 := Lib.hid (fun q => strips_any a c l hs hl y (w.drewN q) (hr.drewN q))
  generalize l.length = m at *
  clear hs hr hn
  go_enter Try.func9, Try.ntmps9
  go_wp2_with fail
  refine HF1.out.mono ?_
  rintro e w1 ⟨k1, q1, rfl, hp1, hq1, nq, rfl⟩
  go_wp2_with fail
  refine (HF2.out nq).mono ?_
  rintro e w1 ⟨k2, q2, rfl, hp2, hq2, nr, rfl⟩
  have h1 : (k1 : Int) ≤ (q2 : Int) := by
    by_cases h : k1 ≤ q2
    · omega
    · exfalso
      have g1 := hp1.2.1 q2 (by omega)
      have g0 := hp1.1
      have g2 := hq2.2.2 q2 (Nat.le_refl _) (by omega)
      have := HN.out l[q2]! (by rw [getElem!_pos l q2 (by omega)]; exact List.getElem_mem (by omega))
      omega
  have h2 : (k2 : Int) ≤ (q1 : Int) := by
    by_cases h : k2 ≤ q1
    · omega
    · exfalso
      have g1 := hp2.2.1 q1 (by omega)
      have g0 := hp2.1
      have g2 := hq1.2.2 q1 (Nat.le_refl _) (by omega)
      have := HN.out l[q1]! (by rw [getElem!_pos l q1 (by omega)]; exact List.getElem_mem (by omega))
      omega
  clear hp1 hq1 hp2 hq2 HF1 HF2 HN
  go_wp2
  go_ret
  exact ⟨rfl, nq + nr, by simp [World.drewN, Nat.add_assoc]⟩
end Go.Proofs.Ytoljdocfbgjnfaa
