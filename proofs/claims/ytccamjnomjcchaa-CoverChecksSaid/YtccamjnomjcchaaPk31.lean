/-
  graticuleref09.Runes. graticuleref09.Name.
-/
import Derived.Test.YtccamjnomjcchaaPk27
import Derived.Test.YtccamjnomjcchaaPk30
import Derived.Test.YtccamjnomjcchaaPk7
import Derived.Test.YtccamjnomjcchaaPk5
/- graticuleref09.Runes. -/
set_option linter.unusedVariables false
set_option linter.unusedSimpArgs false
set_option maxRecDepth 100000
namespace Go
open Go.RowKit
def rns (l : List (Nat × Nat)) : List Value := l.map (fun x => .int .i64 (x.1 : Int))
def rps (l : List (Nat × Nat)) : List Value := l.map (fun x => .int .i64 (x.2 : Int))
def runesT (s : ByteArray) : List (Nat × Nat) := if rightF s then runesF s else []
end Go
namespace Go.Proofs.Ytccamjnomjcchaa
open Go.RowKit
theorem Try.infoI64 : (Try.prog.info? 3).map (fun i => (i.zero, i.size, i.bytes)) = some (some (.int .i64 0), 1, 8) := by kernel_rfl

set_option maxHeartbeats 1600000 in
theorem rrunes_any (s : ByteArray) (hs : s.size ≤ 100000) (w : World) :
    Calls Try.prog 113 #[.string s] w fun e w' => ∃ vo va, e = .returned (.tuple #[vo, va, .bool (rightF s)]) ∧ w'.ownsRow w.heap.size 3 1 vo (runesT s).length (rns (runesT s)) ∧ w'.ownsRow w.heap.size 3 1 va (runesT s).length (rps (runesT s)) ∧ Below w.heap.size w w' := by
  have hF : Hid (runesT s = if rightF s then runesF s else []) := Lib.hid rfl
  generalize runesT s = L at *
  obtain ⟨T, hT⟩ : ∃ T : Bool, rightF s = T := ⟨_, rfl⟩
  rw [hT] at hF ⊢
  have HT := Lib.hid hT
  clear hT
  go_enter Try.func113, Try.ntmps113
  go_wp2
  go_loopw [5, 6, 7] (fun o a i wr => ∃ (p f : Nat) (pre : List (Nat × Nat)), i = .int .i64 (p : Int) ∧ wr.ownsRow w.heap.size 3 1 o pre.length (rns pre) ∧ wr.ownsRow w.heap.size 3 1 a pre.length (rps pre) ∧ Hid (Disj o a) ∧ Below w.heap.size w wr ∧ Hid (runesF s = pre ++ rl s f p) ∧ Hid (pre.all (fun x => !badAt s x.2) = true) ∧ s.size ≤ p + f ∧ pre.length ≤ p ∧ p ≤ s.size) (fun _ _ i _ => s.size - (intOf i).toNat)
  case atStart => exact ⟨0, s.size, [], rfl, World.ownsRow_nil _ _ _ _, World.ownsRow_nil _ _ _ _, Lib.hid (fun k h => by simp [Value.ownBlock] at h), Below.refl _ _, Lib.hid rfl, Lib.hid rfl, by omega, by simp, by omega⟩
  case round =>
    obtain ⟨p, f, pre, rfl, hoo, hoa, HD, hbl, HR, HA, hpf, hpl, hps⟩ := hrel
    by_cases hp : p < s.size
    · obtain ⟨f, rfl⟩ : ∃ g, f = g + 1 := ⟨f - 1, by omega⟩
      have hwd := decode_wid hp
      rw [rl_step s f p hp] at HR
      have hfi := first_any (s.extract p s.size) (by rw [ext_size]; unfold maxLen; omega)
      have hft : firstT (s.extract p s.size) = firstF s p := by
        unfold firstT
        rw [if_neg (by rw [ext_size]; omega), ext_first]; rfl
      rw [hft] at hfi
      have hff : firstF s p = if badAt s p then (0, 0) else Utf8.decode s p := rfl
      rw [hff] at hfi
      have HRT : Hid (badAt s p = true → T = false) := Lib.hid (fun h => by
        rw [← HT.out]; unfold rightF
        rw [HR.out, List.all_append, List.all_cons]
        simp [h])
      obtain ⟨B, hB⟩ : ∃ B, badAt s p = B := ⟨_, rfl⟩
      have HBB := Lib.hid hB
      rw [hB] at hfi HRT
      clear hB hff hft
      obtain ⟨D, hD⟩ : ∃ D, Utf8.decode s p = D := ⟨_, rfl⟩
      rw [hD] at hfi HR hwd
      obtain ⟨R, Wd⟩ := D
      dsimp only at HR hwd
      have hpi : (p : Int) ≤ (s.size : Int) := by omega
      have hpi2 : (p : Int) < (s.size : Int) := by omega
      cases B with
      | true =>
        have hz := HRT.out rfl
        subst hz
        have hLz := hF.out
        rw [if_neg (by decide)] at hLz
        subst hLz
        rw [if_pos rfl] at hfi
        have HFI := Lib.hid hfi
        clear hfi hF HRT HR HA HT HD
        go_wp2_with fail
        refine (HFI.out _).mono ?_
        rintro e w1 ⟨rfl, rfl⟩
        go_wp2
        refine bodyPost_ret (v := .tuple #[.slice none 0 0, .slice none 0 0, .bool false]) (by simp [results, Try.results113, go_sem]) rfl ⟨_, _, rfl, World.ownsRow_nil _ _ _ _, World.ownsRow_nil _ _ _ _, hbl⟩
      | false =>
        rw [if_neg (by decide)] at hfi
        have HFI := Lib.hid hfi
        clear hfi hD HRT
        have hwz : ((Wd : Int) == 0) = false := by rw [beq_eq_false_iff_ne]; omega
        have hw0 : IntKind.i64.wrap ((p : Int) + (Wd : Int)) = ((p + Wd : Nat) : Int) := by rw [IntWalk.i64_in _ (by omega)]; omega
        go_wp2_with fail
        refine (HFI.out _).mono ?_
        rintro e w1 ⟨rfl, rfl⟩
        dsimp only
        have hoa1 : ∀ k, u6.ownBlock = some k → k < w1.heap.size := fun k hk => (hoa.lt k hk).2
        go_wp2_with (at_builtin; first
          | (refine wpList_appLitAt w hbl rfl (.tmp 23) (.tmp 25) 43 rfl 3 (.int .i64 0) 1 8 Try.underlying43 Try.infoI64 rfl (by decide) (by decide) u5 pre.length (rns pre) rfl hoo 1 1 w1.heap.size rfl [.int .i64 (R : Int)] _ rfl rfl (by simp [Value.oneCell']) (by omega) ?_
             intro v2 w2 ho2 hg2 hb2 hl2
             have hoa2 := hoa.kept hg2 HD.out.kept
             have hd2 : Disj v2 u6 := HD.out.left hl2 (fun k hk => by have := hoa1 k hk; omega)
             have hob2 := ho2.lt
             have hsz2 := hg2.size)
          | (refine wpList_appLitAt w hb2 rfl (.tmp 27) (.tmp 29) 43 rfl 3 (.int .i64 0) 1 8 Try.underlying43 Try.infoI64 rfl (by decide) (by decide) u6 pre.length (rps pre) rfl hoa2 1 1 w2.heap.size rfl [.int .i64 (p : Int)] _ rfl rfl (by simp [Value.oneCell']) (by omega) ?_
             intro v3 w3 ho3 hg3 hb3 hl3
             have ho4 := ho2.kept hg3 hd2.symm.kept
             have hd3 : Disj v3 v2 := hd2.symm.left hl3 (fun k hk => by have := (hob2 k hk).2; omega)))
        have hlen : (pre ++ [(R, p)]).length = pre.length + 1 := by simp
        have e1 : rns (pre ++ [(R, p)]) = rns pre ++ [.int .i64 (R : Int)] := by simp [rns]
        have e2 : rps (pre ++ [(R, p)]) = rps pre ++ [.int .i64 (p : Int)] := by simp [rps]
        refine ⟨⟨p + Wd, f, pre ++ [(R, p)], val_int (by omega), ?_, ?_, Lib.hid hd3.symm, hb3, Lib.hid (by rw [HR.out, List.append_assoc]; rfl), Lib.hid (by rw [List.all_append, HA.out]; simp [HBB.out]), by omega, by rw [hlen]; omega, by omega⟩, by simp [intOf]; omega⟩
        · rw [e1, hlen]; exact ho4
        · rw [e2, hlen]; exact ho3
    · have hlt : ¬ (p : Int) < (s.size : Int) := by omega
      rw [rl_end s f p hp, List.append_nil] at HR
      have hF1 : T = true := by rw [← HT.out]; unfold rightF; rw [HR.out]; exact HA.out
      subst hF1
      have hL := hF.out
      rw [if_pos rfl, HR.out] at hL
      subst hL
      clear HR HA hF HT HD
      go_wp2
      refine bodyPost_ret (v := .tuple #[u5, u6, .bool true]) (by simp [results, Try.results113, go_sem]) rfl ⟨_, _, rfl, hoo, hoa, hbl⟩
end Go.Proofs.Ytccamjnomjcchaa
/- graticuleref09.Name. -/
set_option linter.unusedVariables false
set_option linter.unusedSimpArgs false
set_option maxRecDepth 100000
namespace Go
open Go.RowKit
theorem rl_pos (s : ByteArray) : ∀ (f p : Nat) (x : Nat × Nat), x ∈ rl s f p → p ≤ x.2 := by
  intro f
  induction f with
  | zero => intro p x h; simp [rl] at h
  | succ f ih =>
    intro p x h
    by_cases hp : p < s.size
    · rw [rl_step s f p hp, List.mem_cons] at h
      rcases h with rfl | h
      · exact Nat.le_refl _
      · have := ih _ x h; omega
    · rw [rl_end s _ p hp] at h; simp at h
theorem runes_zero (s : ByteArray) (k : Nat) (x : Nat × Nat) (h : (runesF s)[k]? = some x) : x.2 = 0 ↔ k = 0 := by
  unfold runesF at h
  cases hs : s.size with
  | zero => rw [hs] at h; simp [rl] at h
  | succ f =>
    rw [hs, rl_step s f 0 (by omega)] at h
    cases k with
    | zero => simp at h; rw [← h]
    | succ k =>
      rw [List.getElem?_cons_succ] at h
      have h1 := rl_pos s f _ x (List.mem_of_getElem? h)
      have h2 := decode_wid (s := s) (i := 0) (by omega)
      omega
theorem runes_bd (s : ByteArray) : ∀ (f p : Nat) (x : Nat × Nat), x ∈ rl s f p → x.1 ≤ 1114111 := by
  intro f
  induction f with
  | zero => intro p x h; simp [rl] at h
  | succ f ih =>
    intro p x h
    by_cases hp : p < s.size
    · rw [rl_step s f p hp, List.mem_cons] at h
      rcases h with rfl | h
      · exact (decode_wid hp).2.2.2
      · exact ih _ x h
    · rw [rl_end s _ p hp] at h; simp at h
theorem nameAt_eq (R p k : Nat) (h : p = 0 ↔ k = 0) : nameAt (R, p) = decide ((97 ≤ R ∧ R ≤ 122 ∨ 65 ≤ R ∧ R ≤ 90 ∨ R = 95 ∨ 128 ≤ R) ∨ (k ≠ 0 ∧ (R = 45 ∨ R = 46 ∨ 48 ≤ R ∧ R ≤ 57))) := by
  unfold nameAt letterF otherF
  rw [Bool.eq_iff_iff]
  simp only [Bool.or_eq_true, Bool.and_eq_true, decide_eq_true_eq, ne_eq, h]
end Go
namespace Go.Proofs.Ytccamjnomjcchaa
open Go.RowKit

set_option maxHeartbeats 12800000 in
theorem rname_any (s : ByteArray) (hs : s.size ≤ 100000) (w : World) :
    Calls Try.prog 97 #[.string s] w fun e w' => e = .returned (.bool (nameF s)) ∧ Below w.heap.size w w' := by
  have hR := Lib.hid (rrunes_any s hs)
  have hN : Hid (nameF s = (rightF s && decide (1 ≤ (runesF s).length ∧ (runesF s).length ≤ 32) && (runesF s).all nameAt)) := Lib.hid rfl
  have hL : Hid (runesT s = if rightF s then runesF s else []) := Lib.hid rfl
  have hZ := Lib.hid (runes_zero s)
  have hBD := Lib.hid (fun x h => runes_bd s s.size 0 x h)
  have hZ2 : Hid (∀ x, x ∈ runesF s → x.1 ≤ 1114111) := hBD
  clear hBD
  generalize runesF s = L at *
  generalize nameF s = N at *
  generalize runesT s = L2 at *
  obtain ⟨T, hT⟩ : ∃ T, rightF s = T := ⟨_, rfl⟩
  rw [hT] at hR hN hL
  clear hT
  go_enter Try.func97, Try.ntmps97
  go_wp2_with fail
  refine (hR.out _).mono ?_
  rintro e w1 ⟨vo, va, rfl, ho, -, hb⟩
  obtain ⟨a, c, rfl, hc1, hc2, -, hr, -⟩ := ho.form
  clear ho hR
  cases T with
  | false =>
    have hn : N = false := by rw [hN.out]; rfl
    subst hn
    clear hN hL
    go_wp2
    go_ret
    exact ⟨rfl, hb⟩
  | true =>
    have hl := hL.out
    rw [if_pos rfl] at hl
    subst hl
    clear hL
    by_cases h1 : L2.length < 1
    · have hn : N = false := by rw [hN.out]; have : ¬ 1 ≤ L2.length := by omega
                                simp [this]
      subst hn
      have h1i : (L2.length : Int) < 1 := by omega
      clear hN
      go_wp2
      go_ret
      exact ⟨rfl, hb⟩
    have h1i : ¬ (L2.length : Int) < 1 := by omega
    by_cases h2 : 32 < L2.length
    · have hn : N = false := by rw [hN.out]; have : ¬ L2.length ≤ 32 := by omega
                                simp [this]
      subst hn
      have h2i : 32 < (L2.length : Int) := by omega
      clear hN
      go_wp2
      go_ret
      exact ⟨rfl, hb⟩
    have h2i : ¬ 32 < (L2.length : Int) := by omega
    have HN : Hid (N = L2.all nameAt) := Lib.hid (by
      rw [hN.out]
      have : 1 ≤ L2.length ∧ L2.length ≤ 32 := by omega
      simp [this])
    clear hN
    go_wp2
    go_loopw [6] (fun i wr => ∃ k : Nat, i = .int .i64 (k : Int) ∧ k ≤ L2.length ∧ Hid ((L2.take k).all nameAt = true) ∧ Rd wr a (rns L2) ∧ Below w.heap.size w wr) (fun i _ => L2.length - (intOf i).toNat)
    case atStart => exact ⟨0, rfl, by omega, Lib.hid rfl, hr, hb⟩
    case round =>
      clear hr hb
      obtain ⟨k, rfl, hk, HP, hr, hb⟩ := hrel
      by_cases hkl : k < L2.length
      · have hki : (k : Int) < (L2.length : Int) := by omega
        obtain ⟨x, hx⟩ : ∃ x, L2[k]? = some x := ⟨_, List.getElem?_eq_getElem hkl⟩
        obtain ⟨b, off, rfl, hcell, -⟩ := hr.at (i := k) (v := .int .i64 (x.1 : Int)) (by simp [rns, hx])
        have hz := hZ.out k x hx
        have hbd := hZ2.out x (List.mem_of_getElem? hx)
        have HXF : Hid (nameAt x = false → N = false) := Lib.hid (fun h => by
          rw [HN.out, List.all_eq_false]
          exact ⟨x, List.mem_of_getElem? hx, by simp [h]⟩)
        have HXT : Hid (nameAt x = true → (L2.take (k + 1)).all nameAt = true) := Lib.hid (fun h => by
          rw [List.take_add_one, List.all_append, HP.out, hx]; simp [h])
        obtain ⟨R, p⟩ := x
        have HX := Lib.hid (nameAt_eq R p k hz)
        generalize nameAt (R, p) = X at *
        dsimp only at hcell hbd
        clear hx hz
        by_cases r0 : R ≤ 44
        · by_cases hk0 : k = 0
          · have hX : X = false := by rw [HX.out]; simp; omega
            have hN := HXF.out hX
            subst hN
            subst hk0
            have hcell : wr.cell? ⟨b, off, none⟩ = some (.int .i64 (R : Int)) := hcell
            clear HX HXT HXF hX
            have g0 : ¬ (96 < (R : Int)) := by omega
            have g1 : ((R : Int) < 123) := by omega
            have g2 : ¬ (64 < (R : Int)) := by omega
            have g3 : ((R : Int) < 91) := by omega
            have g4 : ¬ (127 < (R : Int)) := by omega
            have g5 : ¬ (47 < (R : Int)) := by omega
            have g6 : ((R : Int) < 58) := by omega
            have e0 : ((R : Int) == 95) = false := by rw [beq_eq_false_iff_ne]; omega
            have e1 : ((R : Int) == 45) = false := by rw [beq_eq_false_iff_ne]; omega
            have e2 : ((R : Int) == 46) = false := by rw [beq_eq_false_iff_ne]; omega
            go_wp2
            refine bodyPost_ret (v := .bool false) (by simp [results, Try.results97, go_sem]) rfl ⟨rfl, hb⟩
          · have z : ((k : Int) == 0) = false := by rw [beq_eq_false_iff_ne]; omega
            have hX : X = false := by rw [HX.out]; simp; omega
            have hN := HXF.out hX
            subst hN
            clear HX HXT HXF hX
            have g0 : ¬ (96 < (R : Int)) := by omega
            have g1 : ((R : Int) < 123) := by omega
            have g2 : ¬ (64 < (R : Int)) := by omega
            have g3 : ((R : Int) < 91) := by omega
            have g4 : ¬ (127 < (R : Int)) := by omega
            have g5 : ¬ (47 < (R : Int)) := by omega
            have g6 : ((R : Int) < 58) := by omega
            have e0 : ((R : Int) == 95) = false := by rw [beq_eq_false_iff_ne]; omega
            have e1 : ((R : Int) == 45) = false := by rw [beq_eq_false_iff_ne]; omega
            have e2 : ((R : Int) == 46) = false := by rw [beq_eq_false_iff_ne]; omega
            go_wp2
            refine bodyPost_ret (v := .bool false) (by simp [results, Try.results97, go_sem]) rfl ⟨rfl, hb⟩
        by_cases r1 : R ≤ 45
        · by_cases hk0 : k = 0
          · have hX : X = false := by rw [HX.out]; simp; omega
            have hN := HXF.out hX
            subst hN
            subst hk0
            have hcell : wr.cell? ⟨b, off, none⟩ = some (.int .i64 (R : Int)) := hcell
            clear HX HXT HXF hX
            have g0 : ¬ (96 < (R : Int)) := by omega
            have g1 : ((R : Int) < 123) := by omega
            have g2 : ¬ (64 < (R : Int)) := by omega
            have g3 : ((R : Int) < 91) := by omega
            have g4 : ¬ (127 < (R : Int)) := by omega
            have g5 : ¬ (47 < (R : Int)) := by omega
            have g6 : ((R : Int) < 58) := by omega
            have e0 : ((R : Int) == 95) = false := by rw [beq_eq_false_iff_ne]; omega
            have e1 : ((R : Int) == 45) = true := by rw [beq_iff_eq]; omega
            have e2 : ((R : Int) == 46) = false := by rw [beq_eq_false_iff_ne]; omega
            go_wp2
            refine bodyPost_ret (v := .bool false) (by simp [results, Try.results97, go_sem]) rfl ⟨rfl, hb⟩
          · have z : ((k : Int) == 0) = false := by rw [beq_eq_false_iff_ne]; omega
            have hX : X = true := by rw [HX.out]; simp; omega
            have HP2 := Lib.hid (HXT.out hX)
            clear HX HXT HXF hX
            have g0 : ¬ (96 < (R : Int)) := by omega
            have g1 : ((R : Int) < 123) := by omega
            have g2 : ¬ (64 < (R : Int)) := by omega
            have g3 : ((R : Int) < 91) := by omega
            have g4 : ¬ (127 < (R : Int)) := by omega
            have g5 : ¬ (47 < (R : Int)) := by omega
            have g6 : ((R : Int) < 58) := by omega
            have e0 : ((R : Int) == 95) = false := by rw [beq_eq_false_iff_ne]; omega
            have e1 : ((R : Int) == 45) = true := by rw [beq_iff_eq]; omega
            have e2 : ((R : Int) == 46) = false := by rw [beq_eq_false_iff_ne]; omega
            go_wp2
            go_roundw
            case rel => exact ⟨k + 1, val_int (by omega), by omega, HP2, hr, hb⟩
            case measure => simp [intOf]; omega
        by_cases r2 : R ≤ 46
        · by_cases hk0 : k = 0
          · have hX : X = false := by rw [HX.out]; simp; omega
            have hN := HXF.out hX
            subst hN
            subst hk0
            have hcell : wr.cell? ⟨b, off, none⟩ = some (.int .i64 (R : Int)) := hcell
            clear HX HXT HXF hX
            have g0 : ¬ (96 < (R : Int)) := by omega
            have g1 : ((R : Int) < 123) := by omega
            have g2 : ¬ (64 < (R : Int)) := by omega
            have g3 : ((R : Int) < 91) := by omega
            have g4 : ¬ (127 < (R : Int)) := by omega
            have g5 : ¬ (47 < (R : Int)) := by omega
            have g6 : ((R : Int) < 58) := by omega
            have e0 : ((R : Int) == 95) = false := by rw [beq_eq_false_iff_ne]; omega
            have e1 : ((R : Int) == 45) = false := by rw [beq_eq_false_iff_ne]; omega
            have e2 : ((R : Int) == 46) = true := by rw [beq_iff_eq]; omega
            go_wp2
            refine bodyPost_ret (v := .bool false) (by simp [results, Try.results97, go_sem]) rfl ⟨rfl, hb⟩
          · have z : ((k : Int) == 0) = false := by rw [beq_eq_false_iff_ne]; omega
            have hX : X = true := by rw [HX.out]; simp; omega
            have HP2 := Lib.hid (HXT.out hX)
            clear HX HXT HXF hX
            have g0 : ¬ (96 < (R : Int)) := by omega
            have g1 : ((R : Int) < 123) := by omega
            have g2 : ¬ (64 < (R : Int)) := by omega
            have g3 : ((R : Int) < 91) := by omega
            have g4 : ¬ (127 < (R : Int)) := by omega
            have g5 : ¬ (47 < (R : Int)) := by omega
            have g6 : ((R : Int) < 58) := by omega
            have e0 : ((R : Int) == 95) = false := by rw [beq_eq_false_iff_ne]; omega
            have e1 : ((R : Int) == 45) = false := by rw [beq_eq_false_iff_ne]; omega
            have e2 : ((R : Int) == 46) = true := by rw [beq_iff_eq]; omega
            go_wp2
            go_roundw
            case rel => exact ⟨k + 1, val_int (by omega), by omega, HP2, hr, hb⟩
            case measure => simp [intOf]; omega
        by_cases r3 : R ≤ 47
        · by_cases hk0 : k = 0
          · have hX : X = false := by rw [HX.out]; simp; omega
            have hN := HXF.out hX
            subst hN
            subst hk0
            have hcell : wr.cell? ⟨b, off, none⟩ = some (.int .i64 (R : Int)) := hcell
            clear HX HXT HXF hX
            have g0 : ¬ (96 < (R : Int)) := by omega
            have g1 : ((R : Int) < 123) := by omega
            have g2 : ¬ (64 < (R : Int)) := by omega
            have g3 : ((R : Int) < 91) := by omega
            have g4 : ¬ (127 < (R : Int)) := by omega
            have g5 : ¬ (47 < (R : Int)) := by omega
            have g6 : ((R : Int) < 58) := by omega
            have e0 : ((R : Int) == 95) = false := by rw [beq_eq_false_iff_ne]; omega
            have e1 : ((R : Int) == 45) = false := by rw [beq_eq_false_iff_ne]; omega
            have e2 : ((R : Int) == 46) = false := by rw [beq_eq_false_iff_ne]; omega
            go_wp2
            refine bodyPost_ret (v := .bool false) (by simp [results, Try.results97, go_sem]) rfl ⟨rfl, hb⟩
          · have z : ((k : Int) == 0) = false := by rw [beq_eq_false_iff_ne]; omega
            have hX : X = false := by rw [HX.out]; simp; omega
            have hN := HXF.out hX
            subst hN
            clear HX HXT HXF hX
            have g0 : ¬ (96 < (R : Int)) := by omega
            have g1 : ((R : Int) < 123) := by omega
            have g2 : ¬ (64 < (R : Int)) := by omega
            have g3 : ((R : Int) < 91) := by omega
            have g4 : ¬ (127 < (R : Int)) := by omega
            have g5 : ¬ (47 < (R : Int)) := by omega
            have g6 : ((R : Int) < 58) := by omega
            have e0 : ((R : Int) == 95) = false := by rw [beq_eq_false_iff_ne]; omega
            have e1 : ((R : Int) == 45) = false := by rw [beq_eq_false_iff_ne]; omega
            have e2 : ((R : Int) == 46) = false := by rw [beq_eq_false_iff_ne]; omega
            go_wp2
            refine bodyPost_ret (v := .bool false) (by simp [results, Try.results97, go_sem]) rfl ⟨rfl, hb⟩
        by_cases r4 : R ≤ 57
        · by_cases hk0 : k = 0
          · have hX : X = false := by rw [HX.out]; simp; omega
            have hN := HXF.out hX
            subst hN
            subst hk0
            have hcell : wr.cell? ⟨b, off, none⟩ = some (.int .i64 (R : Int)) := hcell
            clear HX HXT HXF hX
            have g0 : ¬ (96 < (R : Int)) := by omega
            have g1 : ((R : Int) < 123) := by omega
            have g2 : ¬ (64 < (R : Int)) := by omega
            have g3 : ((R : Int) < 91) := by omega
            have g4 : ¬ (127 < (R : Int)) := by omega
            have g5 : (47 < (R : Int)) := by omega
            have g6 : ((R : Int) < 58) := by omega
            have e0 : ((R : Int) == 95) = false := by rw [beq_eq_false_iff_ne]; omega
            have e1 : ((R : Int) == 45) = false := by rw [beq_eq_false_iff_ne]; omega
            have e2 : ((R : Int) == 46) = false := by rw [beq_eq_false_iff_ne]; omega
            go_wp2
            refine bodyPost_ret (v := .bool false) (by simp [results, Try.results97, go_sem]) rfl ⟨rfl, hb⟩
          · have z : ((k : Int) == 0) = false := by rw [beq_eq_false_iff_ne]; omega
            have hX : X = true := by rw [HX.out]; simp; omega
            have HP2 := Lib.hid (HXT.out hX)
            clear HX HXT HXF hX
            have g0 : ¬ (96 < (R : Int)) := by omega
            have g1 : ((R : Int) < 123) := by omega
            have g2 : ¬ (64 < (R : Int)) := by omega
            have g3 : ((R : Int) < 91) := by omega
            have g4 : ¬ (127 < (R : Int)) := by omega
            have g5 : (47 < (R : Int)) := by omega
            have g6 : ((R : Int) < 58) := by omega
            have e0 : ((R : Int) == 95) = false := by rw [beq_eq_false_iff_ne]; omega
            have e1 : ((R : Int) == 45) = false := by rw [beq_eq_false_iff_ne]; omega
            have e2 : ((R : Int) == 46) = false := by rw [beq_eq_false_iff_ne]; omega
            go_wp2
            go_roundw
            case rel => exact ⟨k + 1, val_int (by omega), by omega, HP2, hr, hb⟩
            case measure => simp [intOf]; omega
        by_cases r5 : R ≤ 64
        · by_cases hk0 : k = 0
          · have hX : X = false := by rw [HX.out]; simp; omega
            have hN := HXF.out hX
            subst hN
            subst hk0
            have hcell : wr.cell? ⟨b, off, none⟩ = some (.int .i64 (R : Int)) := hcell
            clear HX HXT HXF hX
            have g0 : ¬ (96 < (R : Int)) := by omega
            have g1 : ((R : Int) < 123) := by omega
            have g2 : ¬ (64 < (R : Int)) := by omega
            have g3 : ((R : Int) < 91) := by omega
            have g4 : ¬ (127 < (R : Int)) := by omega
            have g5 : (47 < (R : Int)) := by omega
            have g6 : ¬ ((R : Int) < 58) := by omega
            have e0 : ((R : Int) == 95) = false := by rw [beq_eq_false_iff_ne]; omega
            have e1 : ((R : Int) == 45) = false := by rw [beq_eq_false_iff_ne]; omega
            have e2 : ((R : Int) == 46) = false := by rw [beq_eq_false_iff_ne]; omega
            go_wp2
            refine bodyPost_ret (v := .bool false) (by simp [results, Try.results97, go_sem]) rfl ⟨rfl, hb⟩
          · have z : ((k : Int) == 0) = false := by rw [beq_eq_false_iff_ne]; omega
            have hX : X = false := by rw [HX.out]; simp; omega
            have hN := HXF.out hX
            subst hN
            clear HX HXT HXF hX
            have g0 : ¬ (96 < (R : Int)) := by omega
            have g1 : ((R : Int) < 123) := by omega
            have g2 : ¬ (64 < (R : Int)) := by omega
            have g3 : ((R : Int) < 91) := by omega
            have g4 : ¬ (127 < (R : Int)) := by omega
            have g5 : (47 < (R : Int)) := by omega
            have g6 : ¬ ((R : Int) < 58) := by omega
            have e0 : ((R : Int) == 95) = false := by rw [beq_eq_false_iff_ne]; omega
            have e1 : ((R : Int) == 45) = false := by rw [beq_eq_false_iff_ne]; omega
            have e2 : ((R : Int) == 46) = false := by rw [beq_eq_false_iff_ne]; omega
            go_wp2
            refine bodyPost_ret (v := .bool false) (by simp [results, Try.results97, go_sem]) rfl ⟨rfl, hb⟩
        by_cases r6 : R ≤ 90
        · have hX : X = true := by rw [HX.out]; simp; omega
          have HP2 := Lib.hid (HXT.out hX)
          clear HX HXT HXF hX
          have g0 : ¬ (96 < (R : Int)) := by omega
          have g1 : ((R : Int) < 123) := by omega
          have g2 : (64 < (R : Int)) := by omega
          have g3 : ((R : Int) < 91) := by omega
          have g4 : ¬ (127 < (R : Int)) := by omega
          have g5 : (47 < (R : Int)) := by omega
          have g6 : ¬ ((R : Int) < 58) := by omega
          have e0 : ((R : Int) == 95) = false := by rw [beq_eq_false_iff_ne]; omega
          have e1 : ((R : Int) == 45) = false := by rw [beq_eq_false_iff_ne]; omega
          have e2 : ((R : Int) == 46) = false := by rw [beq_eq_false_iff_ne]; omega
          go_wp2
          go_roundw
          case rel => exact ⟨k + 1, val_int (by omega), by omega, HP2, hr, hb⟩
          case measure => simp [intOf]; omega
        by_cases r7 : R ≤ 94
        · by_cases hk0 : k = 0
          · have hX : X = false := by rw [HX.out]; simp; omega
            have hN := HXF.out hX
            subst hN
            subst hk0
            have hcell : wr.cell? ⟨b, off, none⟩ = some (.int .i64 (R : Int)) := hcell
            clear HX HXT HXF hX
            have g0 : ¬ (96 < (R : Int)) := by omega
            have g1 : ((R : Int) < 123) := by omega
            have g2 : (64 < (R : Int)) := by omega
            have g3 : ¬ ((R : Int) < 91) := by omega
            have g4 : ¬ (127 < (R : Int)) := by omega
            have g5 : (47 < (R : Int)) := by omega
            have g6 : ¬ ((R : Int) < 58) := by omega
            have e0 : ((R : Int) == 95) = false := by rw [beq_eq_false_iff_ne]; omega
            have e1 : ((R : Int) == 45) = false := by rw [beq_eq_false_iff_ne]; omega
            have e2 : ((R : Int) == 46) = false := by rw [beq_eq_false_iff_ne]; omega
            go_wp2
            refine bodyPost_ret (v := .bool false) (by simp [results, Try.results97, go_sem]) rfl ⟨rfl, hb⟩
          · have z : ((k : Int) == 0) = false := by rw [beq_eq_false_iff_ne]; omega
            have hX : X = false := by rw [HX.out]; simp; omega
            have hN := HXF.out hX
            subst hN
            clear HX HXT HXF hX
            have g0 : ¬ (96 < (R : Int)) := by omega
            have g1 : ((R : Int) < 123) := by omega
            have g2 : (64 < (R : Int)) := by omega
            have g3 : ¬ ((R : Int) < 91) := by omega
            have g4 : ¬ (127 < (R : Int)) := by omega
            have g5 : (47 < (R : Int)) := by omega
            have g6 : ¬ ((R : Int) < 58) := by omega
            have e0 : ((R : Int) == 95) = false := by rw [beq_eq_false_iff_ne]; omega
            have e1 : ((R : Int) == 45) = false := by rw [beq_eq_false_iff_ne]; omega
            have e2 : ((R : Int) == 46) = false := by rw [beq_eq_false_iff_ne]; omega
            go_wp2
            refine bodyPost_ret (v := .bool false) (by simp [results, Try.results97, go_sem]) rfl ⟨rfl, hb⟩
        by_cases r8 : R ≤ 95
        · have hX : X = true := by rw [HX.out]; simp; omega
          have HP2 := Lib.hid (HXT.out hX)
          clear HX HXT HXF hX
          have g0 : ¬ (96 < (R : Int)) := by omega
          have g1 : ((R : Int) < 123) := by omega
          have g2 : (64 < (R : Int)) := by omega
          have g3 : ¬ ((R : Int) < 91) := by omega
          have g4 : ¬ (127 < (R : Int)) := by omega
          have g5 : (47 < (R : Int)) := by omega
          have g6 : ¬ ((R : Int) < 58) := by omega
          have e0 : ((R : Int) == 95) = true := by rw [beq_iff_eq]; omega
          have e1 : ((R : Int) == 45) = false := by rw [beq_eq_false_iff_ne]; omega
          have e2 : ((R : Int) == 46) = false := by rw [beq_eq_false_iff_ne]; omega
          go_wp2
          go_roundw
          case rel => exact ⟨k + 1, val_int (by omega), by omega, HP2, hr, hb⟩
          case measure => simp [intOf]; omega
        by_cases r9 : R ≤ 96
        · by_cases hk0 : k = 0
          · have hX : X = false := by rw [HX.out]; simp; omega
            have hN := HXF.out hX
            subst hN
            subst hk0
            have hcell : wr.cell? ⟨b, off, none⟩ = some (.int .i64 (R : Int)) := hcell
            clear HX HXT HXF hX
            have g0 : ¬ (96 < (R : Int)) := by omega
            have g1 : ((R : Int) < 123) := by omega
            have g2 : (64 < (R : Int)) := by omega
            have g3 : ¬ ((R : Int) < 91) := by omega
            have g4 : ¬ (127 < (R : Int)) := by omega
            have g5 : (47 < (R : Int)) := by omega
            have g6 : ¬ ((R : Int) < 58) := by omega
            have e0 : ((R : Int) == 95) = false := by rw [beq_eq_false_iff_ne]; omega
            have e1 : ((R : Int) == 45) = false := by rw [beq_eq_false_iff_ne]; omega
            have e2 : ((R : Int) == 46) = false := by rw [beq_eq_false_iff_ne]; omega
            go_wp2
            refine bodyPost_ret (v := .bool false) (by simp [results, Try.results97, go_sem]) rfl ⟨rfl, hb⟩
          · have z : ((k : Int) == 0) = false := by rw [beq_eq_false_iff_ne]; omega
            have hX : X = false := by rw [HX.out]; simp; omega
            have hN := HXF.out hX
            subst hN
            clear HX HXT HXF hX
            have g0 : ¬ (96 < (R : Int)) := by omega
            have g1 : ((R : Int) < 123) := by omega
            have g2 : (64 < (R : Int)) := by omega
            have g3 : ¬ ((R : Int) < 91) := by omega
            have g4 : ¬ (127 < (R : Int)) := by omega
            have g5 : (47 < (R : Int)) := by omega
            have g6 : ¬ ((R : Int) < 58) := by omega
            have e0 : ((R : Int) == 95) = false := by rw [beq_eq_false_iff_ne]; omega
            have e1 : ((R : Int) == 45) = false := by rw [beq_eq_false_iff_ne]; omega
            have e2 : ((R : Int) == 46) = false := by rw [beq_eq_false_iff_ne]; omega
            go_wp2
            refine bodyPost_ret (v := .bool false) (by simp [results, Try.results97, go_sem]) rfl ⟨rfl, hb⟩
        by_cases r10 : R ≤ 122
        · have hX : X = true := by rw [HX.out]; simp; omega
          have HP2 := Lib.hid (HXT.out hX)
          clear HX HXT HXF hX
          have g0 : (96 < (R : Int)) := by omega
          have g1 : ((R : Int) < 123) := by omega
          have g2 : (64 < (R : Int)) := by omega
          have g3 : ¬ ((R : Int) < 91) := by omega
          have g4 : ¬ (127 < (R : Int)) := by omega
          have g5 : (47 < (R : Int)) := by omega
          have g6 : ¬ ((R : Int) < 58) := by omega
          have e0 : ((R : Int) == 95) = false := by rw [beq_eq_false_iff_ne]; omega
          have e1 : ((R : Int) == 45) = false := by rw [beq_eq_false_iff_ne]; omega
          have e2 : ((R : Int) == 46) = false := by rw [beq_eq_false_iff_ne]; omega
          go_wp2
          go_roundw
          case rel => exact ⟨k + 1, val_int (by omega), by omega, HP2, hr, hb⟩
          case measure => simp [intOf]; omega
        by_cases r11 : R ≤ 127
        · by_cases hk0 : k = 0
          · have hX : X = false := by rw [HX.out]; simp; omega
            have hN := HXF.out hX
            subst hN
            subst hk0
            have hcell : wr.cell? ⟨b, off, none⟩ = some (.int .i64 (R : Int)) := hcell
            clear HX HXT HXF hX
            have g0 : (96 < (R : Int)) := by omega
            have g1 : ¬ ((R : Int) < 123) := by omega
            have g2 : (64 < (R : Int)) := by omega
            have g3 : ¬ ((R : Int) < 91) := by omega
            have g4 : ¬ (127 < (R : Int)) := by omega
            have g5 : (47 < (R : Int)) := by omega
            have g6 : ¬ ((R : Int) < 58) := by omega
            have e0 : ((R : Int) == 95) = false := by rw [beq_eq_false_iff_ne]; omega
            have e1 : ((R : Int) == 45) = false := by rw [beq_eq_false_iff_ne]; omega
            have e2 : ((R : Int) == 46) = false := by rw [beq_eq_false_iff_ne]; omega
            go_wp2
            refine bodyPost_ret (v := .bool false) (by simp [results, Try.results97, go_sem]) rfl ⟨rfl, hb⟩
          · have z : ((k : Int) == 0) = false := by rw [beq_eq_false_iff_ne]; omega
            have hX : X = false := by rw [HX.out]; simp; omega
            have hN := HXF.out hX
            subst hN
            clear HX HXT HXF hX
            have g0 : (96 < (R : Int)) := by omega
            have g1 : ¬ ((R : Int) < 123) := by omega
            have g2 : (64 < (R : Int)) := by omega
            have g3 : ¬ ((R : Int) < 91) := by omega
            have g4 : ¬ (127 < (R : Int)) := by omega
            have g5 : (47 < (R : Int)) := by omega
            have g6 : ¬ ((R : Int) < 58) := by omega
            have e0 : ((R : Int) == 95) = false := by rw [beq_eq_false_iff_ne]; omega
            have e1 : ((R : Int) == 45) = false := by rw [beq_eq_false_iff_ne]; omega
            have e2 : ((R : Int) == 46) = false := by rw [beq_eq_false_iff_ne]; omega
            go_wp2
            refine bodyPost_ret (v := .bool false) (by simp [results, Try.results97, go_sem]) rfl ⟨rfl, hb⟩
        have hX : X = true := by rw [HX.out]; simp; omega
        have HP2 := Lib.hid (HXT.out hX)
        clear HX HXT HXF hX
        have g0 : (96 < (R : Int)) := by omega
        have g1 : ¬ ((R : Int) < 123) := by omega
        have g2 : (64 < (R : Int)) := by omega
        have g3 : ¬ ((R : Int) < 91) := by omega
        have g4 : (127 < (R : Int)) := by omega
        have g5 : (47 < (R : Int)) := by omega
        have g6 : ¬ ((R : Int) < 58) := by omega
        have e0 : ((R : Int) == 95) = false := by rw [beq_eq_false_iff_ne]; omega
        have e1 : ((R : Int) == 45) = false := by rw [beq_eq_false_iff_ne]; omega
        have e2 : ((R : Int) == 46) = false := by rw [beq_eq_false_iff_ne]; omega
        go_wp2
        go_roundw
        case rel => exact ⟨k + 1, val_int (by omega), by omega, HP2, hr, hb⟩
        case measure => simp [intOf]; omega
      · have hki : ¬ (k : Int) < (L2.length : Int) := by omega
        have hn : N = true := by
          rw [HN.out]
          have := HP.out
          rwa [List.take_of_length_le (by omega)] at this
        subst hn
        clear HN HP
        go_wp2
        go_ret
        exact ⟨rfl, hb⟩
end Go.Proofs.Ytccamjnomjcchaa
