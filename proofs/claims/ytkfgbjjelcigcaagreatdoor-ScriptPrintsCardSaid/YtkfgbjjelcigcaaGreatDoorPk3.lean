/-
  text.letter, text.Name. Items of scripts: in memory; their words; script.words, Word, fits. text.form, graticuleref09.form. text.Quote.
-/
import Derived.Test.YtkfgbjjelcigcaaGreatDoorPk2
import Derived.Test.YtkfgbjjelcigcaaGreatDoorPk1
import Derived.Lib.RuneBytes
import Derived.WalkSpells
import Derived.Laws.Shifts
/- text.letter, text.Name. -/
set_option linter.unusedVariables false
set_option linter.unusedSimpArgs false
set_option maxRecDepth 100000
namespace Go
open Go.RowKit
def letterF (r : Nat) : Bool := decide (97 ≤ r ∧ r ≤ 122 ∨ 65 ≤ r ∧ r ≤ 90 ∨ r = 95 ∨ 128 ≤ r)
def otherF (r : Nat) : Bool := decide (r = 45 ∨ r = 46 ∨ 48 ≤ r ∧ r ≤ 57)
def nameAt (x : Nat × Nat) : Bool := letterF x.1 || (decide (x.2 ≠ 0) && otherF x.1)
def nameF (s : ByteArray) : Bool := rightF s && decide (1 ≤ (runesF s).length ∧ (runesF s).length ≤ 32) && (runesF s).all nameAt
end Go
namespace Go.Proofs.YtkfgbjjelcigcaaGreatDoor
open Go.RowKit

set_option maxHeartbeats 800000 in
theorem letter_any (r : Nat) (hr : r ≤ 1114111) (w : World) :
    Calls Tryz.prog 51 #[.int .i32 (r : Int)] w fun e w' => e = .returned (.bool (letterF r)) ∧ w' = w := by
  have hL : Hid (letterF r = decide (97 ≤ r ∧ r ≤ 122 ∨ 65 ≤ r ∧ r ≤ 90 ∨ r = 95 ∨ 128 ≤ r)) := Lib.hid rfl; generalize letterF r = L at *
  go_enter Tryz.func51, Tryz.ntmps51
  go_wp2
  all_goals (go_ret; refine ⟨ret_bool ?_, rfl⟩; rw [hL.out]; clear hL; first | (simp_all; done) | (rw [Bool.eq_iff_iff]; simp only [Bool.or_eq_true, decide_eq_true_eq, beq_iff_eq]; omega) | (simp_all; omega))

set_option maxHeartbeats 1600000 in
theorem name_any (s : ByteArray) (hs : s.size ≤ maxLen) (w : World) :
    Calls Tryz.prog 28 #[.string s] w fun e w' => e = .returned (.bool (nameF s)) ∧ Below w.heap.size w w' := by
  have hs2 : s.size ≤ 9223372036854775807 := by unfold maxLen at hs; omega
  have hc := Lib.hid (count_any s hs); have hN : Hid (nameF s = (rightF s && decide (1 ≤ (runesF s).length ∧ (runesF s).length ≤ 32) && (runesF s).all nameAt)) := Lib.hid rfl; generalize nameF s = N at *; obtain ⟨C, hC⟩ : ∃ C : Int, (if rightF s then ((runesF s).length : Int) else 0) = C := ⟨_, rfl⟩; rw [hC] at hc; obtain ⟨T, hT⟩ : ∃ T : Bool, rightF s = T := ⟨_, rfl⟩; rw [hT] at hC hc hN; clear hT
  go_enter Tryz.func28, Tryz.ntmps28
  go_wp2_with fail
  refine (hc.out _).mono ?_; rintro e w1 ⟨rfl, hb1⟩; have hs1 := hb1.size
  cases T with
  | false =>
    have hn : N = false := by rw [hN.out]; rfl
    subst hn; clear hC hN hc; go_wp2; go_ret; exact ⟨rfl, hb1⟩
  | true =>
    rw [if_pos rfl] at hC
    by_cases h1 : C < 1
    · have hn : N = false := by rw [hN.out]; have : ¬ 1 ≤ (runesF s).length := by omega
                                simp [this]
      subst hn; clear hC hN hc; go_wp2; go_ret; exact ⟨rfl, hb1⟩
    · by_cases h2 : 32 < C
      · have hn : N = false := by rw [hN.out]; have : ¬ (runesF s).length ≤ 32 := by omega
                                  simp [this]
        subst hn; clear hC hN hc; go_wp2; go_ret; exact ⟨rfl, hb1⟩
      · have HN : Hid (N = (runesF s).all nameAt) := Lib.hid (by
          rw [hN.out]; have : 1 ≤ (runesF s).length ∧ (runesF s).length ≤ 32 := by omega
          simp [this])
        clear hC hN hc; go_wp2
        go_loopw [] (fun wr => ∃ (p f : Nat) (pre : List (Nat × Nat)), wr = w1.iter s p ∧ Hid (runesF s = pre ++ rl s f p) ∧ Hid (pre.all nameAt = true) ∧ s.size ≤ p + f ∧ p ≤ s.size) (fun wr => s.size - wr.iterPos w1.heap.size)
        case atStart => exact ⟨0, s.size, [], rfl, Lib.hid rfl, Lib.hid rfl, by omega, by omega⟩
        case round =>
          obtain ⟨p, f, pre, rfl, HR, HA, hpf, hps⟩ := hrel
          by_cases hp : p < s.size
          · obtain ⟨f, rfl⟩ : ∃ g, f = g + 1 := ⟨f - 1, by omega⟩; have hnx : ∀ ty, (Instr.next (.pointer (some ⟨w1.heap.size, 0, none⟩)) true ty).run Tryz.prog (w1.iter s p) = _ := fun ty => run_next_any w1 s p ty hp; have hwd := decode_wid hp; rw [rl_step s f p hp] at HR; obtain ⟨W, hW⟩ : ∃ W, p + (Utf8.decode s p).2 = W := ⟨_, rfl⟩; rw [hW] at hnx HR; obtain ⟨R, hR⟩ : ∃ R, (Utf8.decode s p).1 = R := ⟨_, rfl⟩; rw [hR] at hnx HR hwd; have hlet := letter_any R hwd.2.2.2; have hbW : Below w.heap.size w (w1.iter s W) := hb1.trans ((below_iter w1 s W).mono hs1); have hWb : p < W ∧ W ≤ s.size := by omega
            have HX : Hid (nameAt (R, p) = (letterF R || (decide (p ≠ 0) && otherF R))) := Lib.hid rfl; have HXF : Hid (nameAt (R, p) = false → N = false) := Lib.hid (fun h => by
              rw [HN.out, HR.out, List.all_append, List.all_cons, h]; simp)
            have HXT : Hid (nameAt (R, p) = true → (pre ++ [(R, p)]).all nameAt = true) := Lib.hid (fun h => by
              rw [List.all_append, HA.out]; simp [h])
            have HOT : Hid (otherF R = decide (R = 45 ∨ R = 46 ∨ 48 ≤ R ∧ R ≤ 57)) := Lib.hid rfl; generalize nameAt (R, p) = X at *; generalize letterF R = L at *; have HLT := Lib.hid hlet; have hRb : R ≤ 1114111 := hwd.2.2.2; clear hlet hwd hR hW
            go_wp2_with fail
            refine (HLT.out _).mono ?_; rintro e w2 ⟨rfl, rfl⟩
            cases L with
            | true =>
              have hX : X = true := by rw [HX.out]; rfl
              have HP := Lib.hid (HXT.out hX); clear HX HXF HXT HOT HLT hX; go_wp2; go_roundw
              case rel => exact ⟨W, f, pre ++ [(R, p)], rfl, Lib.hid (by rw [HR.out, List.append_assoc]; rfl), HP, by omega, by omega⟩
              case measure => simp; omega
            | false =>
              by_cases hp0 : p = 0
              · subst hp0; have hN0 : N = false := HXF.out (by rw [HX.out]; rfl); subst hN0; clear HX HXF HXT HOT HLT HN HR HA; go_wp2; go_ret; exact ⟨rfl, hbW⟩
              · have hpb : ((p : Int) == 0) = false := by rw [beq_eq_false_iff_ne]; omega
                by_cases r1 : (R : Int) = 45
                · have hR1 : R = 45 := by omega
                  have hX : X = true := by rw [HX.out, HOT.out]; simp; omega
                  have HP := Lib.hid (HXT.out hX); clear HX HXF HXT HOT HLT hX; go_wp2
                  all_goals (refine ⟨⟨W, f, pre ++ [(R, p)], rfl, Lib.hid (by rw [HR.out, List.append_assoc]; rfl), HP, by omega, by omega⟩, ?_⟩; simp; omega)
                · by_cases r2 : (R : Int) = 46
                  · have hR1 : R = 46 := by omega
                    have hX : X = true := by rw [HX.out, HOT.out]; simp; omega
                    have HP := Lib.hid (HXT.out hX); clear HX HXF HXT HOT HLT hX; go_wp2
                    all_goals (refine ⟨⟨W, f, pre ++ [(R, p)], rfl, Lib.hid (by rw [HR.out, List.append_assoc]; rfl), HP, by omega, by omega⟩, ?_⟩; simp; omega)
                  · have n1 : ((R : Int) != 45) = true := bne_iff_ne.2 r1; have n2 : ((R : Int) != 46) = true := bne_iff_ne.2 r2
                    by_cases r3 : (R : Int) < 48
                    · have hN0 : N = false := HXF.out (by rw [HX.out, HOT.out]; simp; omega); subst hN0; clear HX HXF HXT HOT HLT HN HR HA; go_wp2; go_ret; exact ⟨rfl, hbW⟩
                    · by_cases r4 : 57 < (R : Int)
                      · have hN0 : N = false := HXF.out (by rw [HX.out, HOT.out]; simp; omega); subst hN0; clear HX HXF HXT HOT HLT HN HR HA; go_wp2; go_ret; exact ⟨rfl, hbW⟩
                      · have hX : X = true := by rw [HX.out, HOT.out]; simp; omega
                        have HP := Lib.hid (HXT.out hX); clear HX HXF HXT HOT HLT hX; go_wp2; go_roundw
                        case rel => exact ⟨W, f, pre ++ [(R, p)], rfl, Lib.hid (by rw [HR.out, List.append_assoc]; rfl), HP, by omega, by omega⟩
                        case measure => simp; omega
          · have hnx : ∀ ty, (Instr.next (.pointer (some ⟨w1.heap.size, 0, none⟩)) true ty).run Tryz.prog (w1.iter s p) = _ := fun ty => Lib.run_next_end_at (w1.iter s p) w1.heap.size s p ty (World.iter_heap w1 s p) hp; have hbW : Below w.heap.size w (w1.iter s p) := hb1.trans ((below_iter w1 s p).mono hs1); rw [rl_end s f p hp, List.append_nil] at HR; have hF : N = true := by rw [HN.out, HR.out]; exact HA.out
            subst hF; clear HR HA HN; go_wp2; go_ret; exact ⟨rfl, hbW⟩
end Go.Proofs.YtkfgbjjelcigcaaGreatDoor
/- Items of scripts: in memory; their words; script.words, Word, fits. -/
set_option linter.unusedVariables false
set_option linter.unusedSimpArgs false
set_option maxRecDepth 100000
namespace Go
open Go.RowKit
structure It where
  kind : Int
  n : List Int
  key : ByteArray
  v : VV
  np : Option Addr
  nc : Nat
instance : Inhabited It := ⟨⟨0, [], ByteArray.empty, vZ, none, 0⟩⟩
def It.nval (x : It) : Value := .slice x.np x.n.length x.nc
def It.cells (x : It) : List Value := [.int .i64 x.kind, x.nval, .string x.key, .int .i64 x.v.1, .string x.v.2.1, .int .i64 x.v.2.2]
def It.val (x : It) : Value := .agg #[.int .i64 x.kind, x.nval, .string x.key, .int .i64 x.v.1, .string x.v.2.1, .int .i64 x.v.2.2]
def its (l : List It) : List Value := l.flatMap It.cells
theorem its_len (l : List It) : (its l).length = l.length * 6 := by
  unfold its
  induction l with
  | nil => rfl
  | cons a l ih => simp only [List.flatMap_cons, List.length_append, ih, List.length_cons, It.cells, List.length_nil]; omega
theorem its_snoc (l : List It) (x : It) : its (l ++ [x]) = its l ++ x.cells := by simp [its]
theorem its_one (l : List It) : ∀ u ∈ its l, u.oneCell' = true := by
  intro u hu; obtain ⟨p, -, hu⟩ := List.mem_flatMap.1 hu; simp [It.cells, It.nval] at hu
  rcases hu with rfl | rfl | rfl | rfl | rfl | rfl <;> rfl
def It.Ok (W : World) (x : It) : Prop := Rd W x.np (x.n.map (Value.int .i64)) ∧ x.n.length ≤ x.nc ∧ x.nc ≤ maxLen ∧ (x.np = none → x.nc = 0)
theorem It.Ok.keep {w w' : World} {x : It} (h : x.Ok w) (hb : Below w.heap.size w w') : x.Ok w' := ⟨h.1.keep hb, h.2⟩
def It.Sz (x : It) : Prop := x.key.size ≤ maxLen ∧ x.v.2.1.size ≤ maxLen
theorem Rd.it {w : World} {a : Option Addr} {l : List It} (h : Rd w a (its l)) (i : Nat) (hi : i < l.length) :
    ∃ b off, a = some ⟨b, off, none⟩ ∧ b < w.heap.size ∧ w.cell? ⟨b, off + i * 6, none⟩ = some (.int .i64 l[i].kind) ∧ w.cell? ⟨b, off + i * 6 + 1, none⟩ = some l[i].nval ∧ w.cell? ⟨b, off + i * 6 + 2, none⟩ = some (.string l[i].key) ∧ w.cell? ⟨b, off + i * 6 + 3, none⟩ = some (.int .i64 l[i].v.1) ∧ w.cell? ⟨b, off + i * 6 + 4, none⟩ = some (.string l[i].v.2.1) ∧ w.cell? ⟨b, off + i * 6 + 5, none⟩ = some (.int .i64 l[i].v.2.2) := by
  have g : ∀ j, j < 6 → (its l)[i * 6 + j]? = (l[i]).cells[j]? := fun j hj => flatMap_get It.cells 6 (fun _ => rfl) l i j hi hj; obtain ⟨b, off, rfl, h0, hb⟩ := h.at (i := i * 6 + 0) (v := .int .i64 l[i].kind) (by rw [g 0 (by omega)]; rfl); obtain ⟨b', off', e, h1, -⟩ := h.at (i := i * 6 + 1) (v := l[i].nval) (by rw [g 1 (by omega)]; rfl)
  cases e
  obtain ⟨b', off', e, h2, -⟩ := h.at (i := i * 6 + 2) (v := .string l[i].key) (by rw [g 2 (by omega)]; rfl)
  cases e
  obtain ⟨b', off', e, h3, -⟩ := h.at (i := i * 6 + 3) (v := .int .i64 l[i].v.1) (by rw [g 3 (by omega)]; rfl)
  cases e
  obtain ⟨b', off', e, h4, -⟩ := h.at (i := i * 6 + 4) (v := .string l[i].v.2.1) (by rw [g 4 (by omega)]; rfl)
  cases e
  obtain ⟨b', off', e, h5, -⟩ := h.at (i := i * 6 + 5) (v := .int .i64 l[i].v.2.2) (by rw [g 5 (by omega)]; rfl)
  cases e
  simp only [← Nat.add_assoc] at h0 h1 h2 h3 h4 h5; exact ⟨b, off, rfl, hb, h0, h1, h2, h3, h4, h5⟩
def kws : List ByteArray := [⟨#[]⟩, ⟨#[98, 117, 102, 102, 101, 114]⟩, ⟨#[116, 111, 108]⟩, ⟨#[122, 111, 111, 109, 115]⟩, ⟨#[102, 97, 99, 101]⟩, ⟨#[114, 105, 110, 103]⟩, ⟨#[97, 116, 116, 114]⟩, ⟨#[116, 105, 108, 101]⟩, ⟨#[108, 111, 99, 97, 116, 101]⟩, ⟨#[110, 101, 97, 114]⟩, ⟨#[115, 116, 97, 116, 117, 115]⟩, ⟨#[108, 101, 118, 101, 108]⟩]
def kwS (k : Int) : ByteArray := if k < 1 ∨ 11 < k then ⟨#[]⟩ else kws.getD k.toNat ⟨#[]⟩
theorem kwS_cases (k : Int) : (kwS k = ⟨#[]⟩ ∧ (k < 1 ∨ 11 < k)) ∨ (kwS k ≠ ⟨#[]⟩ ∧ (1 ≤ k ∧ k ≤ 11)) := by
  by_cases h : k < 1 ∨ 11 < k
  · exact .inl ⟨if_pos h, h⟩
  · right
    refine ⟨?_, by omega⟩; have : k = 1 ∨ k = 2 ∨ k = 3 ∨ k = 4 ∨ k = 5 ∨ k = 6 ∨ k = 7 ∨ k = 8 ∨ k = 9 ∨ k = 10 ∨ k = 11 := by omega
    rcases this with rfl | rfl | rfl | rfl | rfl | rfl | rfl | rfl | rfl | rfl | rfl <;> (intro h; revert h; decide)
def fitsF (k : Int) (n : Nat) : Bool :=
  if k = 3 then decide (n ≤ 16) else if k = 5 then (decide (n ≤ 600) && decide (n % 2 = 0)) else if k = 4 then decide (n = 0) else if k = 6 then decide (n = 0)
  else if k = 9 then decide (n = 2) else if k = 7 then decide (n = 3) else if k = 8 then decide (n = 4) else decide (n = 1)
def farN (n : Int) : Bool := decide (1152921504606846976 < n) || decide (n < -1152921504606846976)
def chkI (x : It) : Int :=
  if kwS x.kind = ⟨#[]⟩ then 14 else if fitsF x.kind x.n.length = false then 3 else if x.n.any farN = true then 5
  else if x.kind ≠ 6 then (if x.key.size ≠ 0 ∨ x.v ≠ vZ then 3 else 0) else if nameF x.key = false then 13 else vE x.v
end Go
namespace Go.Proofs.YtkfgbjjelcigcaaGreatDoor
open Go.RowKit
theorem Tryz.infoIt : (Tryz.prog.info? 46).map (fun i => (i.zero, i.size, i.bytes)) = some (some (.agg #[.int .i64 0, .slice none 0 0, .string ⟨#[]⟩, .int .i64 0, .string ⟨#[]⟩, .int .i64 0]), 6, 80) := by kernel_rfl
def kwVal : Value := .agg (kws.map Value.string).toArray
set_option maxHeartbeats 800000 in
theorem words_any' (w : World) :
    Calls Tryz.prog 39 #[] w fun e w' => e = .returned kwVal ∧ Below w.heap.size w w' := by
  go_enter Tryz.func39, Tryz.ntmps39
  go_wp2; have q := Blk.new w (kws.map Value.string) 99; dsimp only [kws, List.map] at q; have q0 := q.cell 0 rfl; have q1 := q.cell 1 rfl; have q2 := q.cell 2 rfl; have q3 := q.cell 3 rfl; have q4 := q.cell 4 rfl; have q5 := q.cell 5 rfl; have q6 := q.cell 6 rfl; have q7 := q.cell 7 rfl; have q8 := q.cell 8 rfl; have q9 := q.cell 9 rfl; have q10 := q.cell 10 rfl; have q11 := q.cell 11 rfl; refine bodyPost_ret (v := kwVal) (by simp [results, Tryz.results39, go_sem, kwVal, kws, q0, q1, q2, q3, q4, q5, q6, q7, q8, q9, q10, q11]) rfl ⟨rfl, Below.new _ _⟩
theorem kwix1 (W : World) : (Instr.index 99 kwVal (.int .i64 1)).run Tryz.prog W = .ok (.string (kwS 1)) W := by kernel_rfl
theorem kwix2 (W : World) : (Instr.index 99 kwVal (.int .i64 2)).run Tryz.prog W = .ok (.string (kwS 2)) W := by kernel_rfl
theorem kwix3 (W : World) : (Instr.index 99 kwVal (.int .i64 3)).run Tryz.prog W = .ok (.string (kwS 3)) W := by kernel_rfl
theorem kwix4 (W : World) : (Instr.index 99 kwVal (.int .i64 4)).run Tryz.prog W = .ok (.string (kwS 4)) W := by kernel_rfl
theorem kwix5 (W : World) : (Instr.index 99 kwVal (.int .i64 5)).run Tryz.prog W = .ok (.string (kwS 5)) W := by kernel_rfl
theorem kwix6 (W : World) : (Instr.index 99 kwVal (.int .i64 6)).run Tryz.prog W = .ok (.string (kwS 6)) W := by kernel_rfl
theorem kwix7 (W : World) : (Instr.index 99 kwVal (.int .i64 7)).run Tryz.prog W = .ok (.string (kwS 7)) W := by kernel_rfl
theorem kwix8 (W : World) : (Instr.index 99 kwVal (.int .i64 8)).run Tryz.prog W = .ok (.string (kwS 8)) W := by kernel_rfl
theorem kwix9 (W : World) : (Instr.index 99 kwVal (.int .i64 9)).run Tryz.prog W = .ok (.string (kwS 9)) W := by kernel_rfl
theorem kwix10 (W : World) : (Instr.index 99 kwVal (.int .i64 10)).run Tryz.prog W = .ok (.string (kwS 10)) W := by kernel_rfl
theorem kwix11 (W : World) : (Instr.index 99 kwVal (.int .i64 11)).run Tryz.prog W = .ok (.string (kwS 11)) W := by kernel_rfl
set_option maxHeartbeats 800000 in
theorem kword_any (k : Int) (w : World) :
    Calls Tryz.prog 17 #[.int .i64 k] w fun e w' => e = .returned (.string (kwS k)) ∧ Below w.heap.size w w' := by
  have HW := Lib.hid (fun W => words_any' W); have HK := Lib.hid (kwS.eq_1 k); have HI : Hid (1 ≤ k → k ≤ 11 → ∀ W, (Instr.index 99 kwVal (.int .i64 k)).run Tryz.prog W = .ok (.string (kwS k)) W) := Lib.hid (by
    intro h1 h2 W; have : k = 1 ∨ k = 2 ∨ k = 3 ∨ k = 4 ∨ k = 5 ∨ k = 6 ∨ k = 7 ∨ k = 8 ∨ k = 9 ∨ k = 10 ∨ k = 11 := by omega
    rcases this with rfl | rfl | rfl | rfl | rfl | rfl | rfl | rfl | rfl | rfl | rfl
    · exact kwix1 W
    · exact kwix2 W
    · exact kwix3 W
    · exact kwix4 W
    · exact kwix5 W
    · exact kwix6 W
    · exact kwix7 W
    · exact kwix8 W
    · exact kwix9 W
    · exact kwix10 W
    · exact kwix11 W)
  generalize kwS k = KS at *
  go_enter Tryz.func17, Tryz.ntmps17
  by_cases h1 : k < 1
  · rw [if_pos (.inl h1)] at HK; go_wp2; go_ret; exact ⟨by rw [HK.out]; rfl, Below.refl _ _⟩
  · by_cases h2 : 11 < k
    · rw [if_pos (.inr h2)] at HK; go_wp2; go_ret; exact ⟨by rw [HK.out]; rfl, Below.refl _ _⟩
    · have HX := HI.out (by omega) (by omega); clear HI HK; generalize kwVal = KV at *
      go_wp2_with fail
      refine (HW.out w).mono ?_; rintro e w1 ⟨rfl, hb⟩; have hx := HX w1; go_wp2; go_ret; exact ⟨rfl, hb⟩
set_option maxHeartbeats 1600000 in
theorem kfits_any (k : Int) (n : Nat) (hn : n ≤ 1000000000) (w : World) :
    Calls Tryz.prog 25 #[.int .i64 k, .int .i64 n] w fun e w' => e = .returned (.bool (fitsF k n)) ∧ w' = w := by
  have HF := Lib.hid (fitsF.eq_1 k n); generalize fitsF k n = FF at *
  go_enter Tryz.func25, Tryz.ntmps25
  go_wp2
  all_goals (go_ret; refine ⟨ret_bool ?_, rfl⟩; rw [HF.out]; clear HF; rw [Bool.eq_iff_iff]; first | (simp_all; done) | (simp_all; omega))
end Go.Proofs.YtkfgbjjelcigcaaGreatDoor
/- text.form, graticuleref09.form. -/
set_option linter.unusedVariables false
set_option linter.unusedSimpArgs false
set_option maxRecDepth 100000
namespace Go
open Go.RowKit
def hexD (n : Nat) : UInt8 := if n < 10 then UInt8.ofNat (48 + n) else UInt8.ofNat (87 + n)
def formR (r : Nat) : List UInt8 :=
  if r = 92 then [92, 92] else if r = 34 then [92, 34] else if r = 10 then [92, 110] else if r = 9 then [92, 116]
  else if r < 32 ∨ r = 127 then [92, 120, hexD (r / 16), hexD (r % 16)] else []
def formF (r : Nat) : List UInt8 := if formR r = [] then Lib.encodeRune r else formR r
theorem enc_eq (r : Nat) (hr : r ≤ 1114111) : (⟨(Lib.encodeRune (r : Int)).toArray⟩ : ByteArray) = Utf8.encode (r : Int) := by
  unfold Lib.encodeRune Utf8.encode Utf8.valid
  by_cases h1 : r ≤ 127
  · rw [Lib.encodeRuneZ_one (by omega) (by omega)]; have hc : (if ((0 ≤ (r : Int) && (r : Int) < 0xD800) || (0xE000 ≤ (r : Int) && (r : Int) ≤ 0x10FFFF)) then (r : Int).toNat else Utf8.runeError) = r := by
      rw [if_pos (by simp; omega)]; omega
    simp only [hc]; rw [if_pos (by omega)]; simp [Nat.toUInt8]
  · by_cases h2 : r ≤ 2047
    · rw [Lib.encodeRuneZ_two (by omega) (by omega)]; have hc : (if ((0 ≤ (r : Int) && (r : Int) < 0xD800) || (0xE000 ≤ (r : Int) && (r : Int) ≤ 0x10FFFF)) then (r : Int).toNat else Utf8.runeError) = r := by
        rw [if_pos (by simp; omega)]; omega
      simp only [hc]; rw [if_neg (by omega), if_pos (by omega)]; have e1 : (192 + (r : Int) / 64).toNat = 0xC0 + r / 64 := by omega
      have e2 : (128 + (r : Int) % 64).toNat = 0x80 + r % 64 := by omega
      simp only [List.map_cons, List.map_nil, e1, e2, Nat.toUInt8]
    · by_cases h3 : (2048 ≤ r ∧ r < 55296) ∨ (57343 < r ∧ r ≤ 65535)
      · rw [Lib.encodeRuneZ_three (by omega)]; have hc : (if ((0 ≤ (r : Int) && (r : Int) < 0xD800) || (0xE000 ≤ (r : Int) && (r : Int) ≤ 0x10FFFF)) then (r : Int).toNat else Utf8.runeError) = r := by
          rw [if_pos (by simp; omega)]; omega
        simp only [hc]; rw [if_neg (by omega), if_neg (by omega), if_pos (by omega)]; have e1 : (224 + (r : Int) / 4096).toNat = 0xE0 + r / 4096 := by omega
        have e2 : (128 + (r : Int) / 64 % 64).toNat = 0x80 + r / 64 % 64 := by omega
        have e3 : (128 + (r : Int) % 64).toNat = 0x80 + r % 64 := by omega
        simp only [List.map_cons, List.map_nil, e1, e2, e3, Nat.toUInt8]
      · by_cases h4 : 65536 ≤ r
        · rw [Lib.encodeRuneZ_four (by omega) (by omega)]; have hc : (if ((0 ≤ (r : Int) && (r : Int) < 0xD800) || (0xE000 ≤ (r : Int) && (r : Int) ≤ 0x10FFFF)) then (r : Int).toNat else Utf8.runeError) = r := by
            rw [if_pos (by simp; omega)]; omega
          simp only [hc]; rw [if_neg (by omega), if_neg (by omega), if_neg (by omega)]; have e1 : (240 + (r : Int) / 262144).toNat = 0xF0 + r / 262144 := by omega
          have e2 : (128 + (r : Int) / 4096 % 64).toNat = 0x80 + r / 4096 % 64 := by omega
          have e3 : (128 + (r : Int) / 64 % 64).toNat = 0x80 + r / 64 % 64 := by omega
          have e4 : (128 + (r : Int) % 64).toNat = 0x80 + r % 64 := by omega
          simp only [List.map_cons, List.map_nil, e1, e2, e3, e4, Nat.toUInt8]
        · have hc : (if ((0 ≤ (r : Int) && (r : Int) < 0xD800) || (0xE000 ≤ (r : Int) && (r : Int) ≤ 0x10FFFF)) then (r : Int).toNat else Utf8.runeError) = 65533 := by
            rw [if_neg (by simp; omega)]; rfl
          simp only [hc]; have : Lib.encodeRuneZ (r : Int) = [239, 191, 189] := by
            unfold Lib.encodeRuneZ; rw [if_neg (by omega), if_neg (by omega), if_neg (by omega), if_neg (by omega)]
          rw [this]
          rfl
end Go
namespace Go.Proofs.YtkfgbjjelcigcaaGreatDoor
open Go.RowKit

set_option maxHeartbeats 12800000 in
theorem form_low (r : Nat) (hr : r < 32 ∨ r = 127) (w : World) :
    Calls Tryz.prog 69 #[.int .i32 (r : Int)] w fun e w' => e = .returned (.string ⟨(formR r).toArray⟩) ∧ ∃ n, w' = w.drewN n := by
  have : r = 0 ∨ r = 1 ∨ r = 2 ∨ r = 3 ∨ r = 4 ∨ r = 5 ∨ r = 6 ∨ r = 7 ∨ r = 8 ∨ r = 9 ∨ r = 10 ∨ r = 11 ∨ r = 12 ∨ r = 13 ∨ r = 14 ∨ r = 15 ∨ r = 16 ∨ r = 17 ∨ r = 18 ∨ r = 19 ∨ r = 20 ∨ r = 21 ∨ r = 22 ∨ r = 23 ∨ r = 24 ∨ r = 25 ∨ r = 26 ∨ r = 27 ∨ r = 28 ∨ r = 29 ∨ r = 30 ∨ r = 31 ∨ r = 127 := by omega
  clear hr
  go_enter Tryz.func69, Tryz.ntmps69
  rcases this with rfl | rfl | rfl | rfl | rfl | rfl | rfl | rfl | rfl | rfl | rfl | rfl | rfl | rfl | rfl | rfl | rfl | rfl | rfl | rfl | rfl | rfl | rfl | rfl | rfl | rfl | rfl | rfl | rfl | rfl | rfl | rfl | rfl
  · have q1 : IntKind.i32.wrap (0 + 1) = 1 := by decide
    have q2 : IntKind.i32.wrap (0 + 1) = 1 := by decide
    have q3 : IntKind.i32.wrap 1 = 1 := by decide
    have q4 : IntKind.i32.wrap 1 = 1 := by decide
    have b1 : bits .and .i32 0 15 = 0 := by decide +kernel
    go_wp2
    go_quiet (fail)
    go_wp2; go_ret; exact ⟨by first | rfl | decide +kernel, nq, rfl⟩
  · have q1 : IntKind.i32.wrap (0 + 1) = 1 := by decide
    have q2 : IntKind.i32.wrap (1 + 1) = 2 := by decide
    have q3 : IntKind.i32.wrap 1 = 1 := by decide
    have q4 : IntKind.i32.wrap 2 = 2 := by decide
    have b1 : bits .and .i32 1 15 = 1 := by decide +kernel
    go_wp2
    go_quiet (fail)
    go_wp2; go_ret; exact ⟨by first | rfl | decide +kernel, nq, rfl⟩
  · have q1 : IntKind.i32.wrap (0 + 1) = 1 := by decide
    have q2 : IntKind.i32.wrap (2 + 1) = 3 := by decide
    have q3 : IntKind.i32.wrap 1 = 1 := by decide
    have q4 : IntKind.i32.wrap 3 = 3 := by decide
    have b1 : bits .and .i32 2 15 = 2 := by decide +kernel
    go_wp2
    go_quiet (fail)
    go_wp2; go_ret; exact ⟨by first | rfl | decide +kernel, nq, rfl⟩
  · have q1 : IntKind.i32.wrap (0 + 1) = 1 := by decide
    have q2 : IntKind.i32.wrap (3 + 1) = 4 := by decide
    have q3 : IntKind.i32.wrap 1 = 1 := by decide
    have q4 : IntKind.i32.wrap 4 = 4 := by decide
    have b1 : bits .and .i32 3 15 = 3 := by decide +kernel
    go_wp2
    go_quiet (fail)
    go_wp2; go_ret; exact ⟨by first | rfl | decide +kernel, nq, rfl⟩
  · have q1 : IntKind.i32.wrap (0 + 1) = 1 := by decide
    have q2 : IntKind.i32.wrap (4 + 1) = 5 := by decide
    have q3 : IntKind.i32.wrap 1 = 1 := by decide
    have q4 : IntKind.i32.wrap 5 = 5 := by decide
    have b1 : bits .and .i32 4 15 = 4 := by decide +kernel
    go_wp2
    go_quiet (fail)
    go_wp2; go_ret; exact ⟨by first | rfl | decide +kernel, nq, rfl⟩
  · have q1 : IntKind.i32.wrap (0 + 1) = 1 := by decide
    have q2 : IntKind.i32.wrap (5 + 1) = 6 := by decide
    have q3 : IntKind.i32.wrap 1 = 1 := by decide
    have q4 : IntKind.i32.wrap 6 = 6 := by decide
    have b1 : bits .and .i32 5 15 = 5 := by decide +kernel
    go_wp2
    go_quiet (fail)
    go_wp2; go_ret; exact ⟨by first | rfl | decide +kernel, nq, rfl⟩
  · have q1 : IntKind.i32.wrap (0 + 1) = 1 := by decide
    have q2 : IntKind.i32.wrap (6 + 1) = 7 := by decide
    have q3 : IntKind.i32.wrap 1 = 1 := by decide
    have q4 : IntKind.i32.wrap 7 = 7 := by decide
    have b1 : bits .and .i32 6 15 = 6 := by decide +kernel
    go_wp2
    go_quiet (fail)
    go_wp2; go_ret; exact ⟨by first | rfl | decide +kernel, nq, rfl⟩
  · have q1 : IntKind.i32.wrap (0 + 1) = 1 := by decide
    have q2 : IntKind.i32.wrap (7 + 1) = 8 := by decide
    have q3 : IntKind.i32.wrap 1 = 1 := by decide
    have q4 : IntKind.i32.wrap 8 = 8 := by decide
    have b1 : bits .and .i32 7 15 = 7 := by decide +kernel
    go_wp2
    go_quiet (fail)
    go_wp2; go_ret; exact ⟨by first | rfl | decide +kernel, nq, rfl⟩
  · have q1 : IntKind.i32.wrap (0 + 1) = 1 := by decide
    have q2 : IntKind.i32.wrap (8 + 1) = 9 := by decide
    have q3 : IntKind.i32.wrap 1 = 1 := by decide
    have q4 : IntKind.i32.wrap 9 = 9 := by decide
    have b1 : bits .and .i32 8 15 = 8 := by decide +kernel
    go_wp2
    go_quiet (fail)
    go_wp2; go_ret; exact ⟨by first | rfl | decide +kernel, nq, rfl⟩
  · go_wp2; go_ret; exact ⟨rfl, 0, rfl⟩
  · go_wp2; go_ret; exact ⟨rfl, 0, rfl⟩
  · have q1 : IntKind.i32.wrap (0 + 1) = 1 := by decide
    have q2 : IntKind.i32.wrap (11 + 1) = 12 := by decide
    have q3 : IntKind.i32.wrap 1 = 1 := by decide
    have q4 : IntKind.i32.wrap 12 = 12 := by decide
    have b1 : bits .and .i32 11 15 = 11 := by decide +kernel
    go_wp2
    go_quiet (fail)
    go_wp2; go_ret; exact ⟨by first | rfl | decide +kernel, nq, rfl⟩
  · have q1 : IntKind.i32.wrap (0 + 1) = 1 := by decide
    have q2 : IntKind.i32.wrap (12 + 1) = 13 := by decide
    have q3 : IntKind.i32.wrap 1 = 1 := by decide
    have q4 : IntKind.i32.wrap 13 = 13 := by decide
    have b1 : bits .and .i32 12 15 = 12 := by decide +kernel
    go_wp2
    go_quiet (fail)
    go_wp2; go_ret; exact ⟨by first | rfl | decide +kernel, nq, rfl⟩
  · have q1 : IntKind.i32.wrap (0 + 1) = 1 := by decide
    have q2 : IntKind.i32.wrap (13 + 1) = 14 := by decide
    have q3 : IntKind.i32.wrap 1 = 1 := by decide
    have q4 : IntKind.i32.wrap 14 = 14 := by decide
    have b1 : bits .and .i32 13 15 = 13 := by decide +kernel
    go_wp2
    go_quiet (fail)
    go_wp2; go_ret; exact ⟨by first | rfl | decide +kernel, nq, rfl⟩
  · have q1 : IntKind.i32.wrap (0 + 1) = 1 := by decide
    have q2 : IntKind.i32.wrap (14 + 1) = 15 := by decide
    have q3 : IntKind.i32.wrap 1 = 1 := by decide
    have q4 : IntKind.i32.wrap 15 = 15 := by decide
    have b1 : bits .and .i32 14 15 = 14 := by decide +kernel
    go_wp2
    go_quiet (fail)
    go_wp2; go_ret; exact ⟨by first | rfl | decide +kernel, nq, rfl⟩
  · have q1 : IntKind.i32.wrap (0 + 1) = 1 := by decide
    have q2 : IntKind.i32.wrap (15 + 1) = 16 := by decide
    have q3 : IntKind.i32.wrap 1 = 1 := by decide
    have q4 : IntKind.i32.wrap 16 = 16 := by decide
    have b1 : bits .and .i32 15 15 = 15 := by decide +kernel
    go_wp2
    go_quiet (fail)
    go_wp2; go_ret; exact ⟨by first | rfl | decide +kernel, nq, rfl⟩
  · have q1 : IntKind.i32.wrap (1 + 1) = 2 := by decide
    have q2 : IntKind.i32.wrap (0 + 1) = 1 := by decide
    have q3 : IntKind.i32.wrap 2 = 2 := by decide
    have q4 : IntKind.i32.wrap 1 = 1 := by decide
    have b1 : bits .and .i32 16 15 = 0 := by decide +kernel
    go_wp2
    go_quiet (fail)
    go_wp2; go_ret; exact ⟨by first | rfl | decide +kernel, nq, rfl⟩
  · have q1 : IntKind.i32.wrap (1 + 1) = 2 := by decide
    have q2 : IntKind.i32.wrap (1 + 1) = 2 := by decide
    have q3 : IntKind.i32.wrap 2 = 2 := by decide
    have q4 : IntKind.i32.wrap 2 = 2 := by decide
    have b1 : bits .and .i32 17 15 = 1 := by decide +kernel
    go_wp2
    go_quiet (fail)
    go_wp2; go_ret; exact ⟨by first | rfl | decide +kernel, nq, rfl⟩
  · have q1 : IntKind.i32.wrap (1 + 1) = 2 := by decide
    have q2 : IntKind.i32.wrap (2 + 1) = 3 := by decide
    have q3 : IntKind.i32.wrap 2 = 2 := by decide
    have q4 : IntKind.i32.wrap 3 = 3 := by decide
    have b1 : bits .and .i32 18 15 = 2 := by decide +kernel
    go_wp2
    go_quiet (fail)
    go_wp2; go_ret; exact ⟨by first | rfl | decide +kernel, nq, rfl⟩
  · have q1 : IntKind.i32.wrap (1 + 1) = 2 := by decide
    have q2 : IntKind.i32.wrap (3 + 1) = 4 := by decide
    have q3 : IntKind.i32.wrap 2 = 2 := by decide
    have q4 : IntKind.i32.wrap 4 = 4 := by decide
    have b1 : bits .and .i32 19 15 = 3 := by decide +kernel
    go_wp2
    go_quiet (fail)
    go_wp2; go_ret; exact ⟨by first | rfl | decide +kernel, nq, rfl⟩
  · have q1 : IntKind.i32.wrap (1 + 1) = 2 := by decide
    have q2 : IntKind.i32.wrap (4 + 1) = 5 := by decide
    have q3 : IntKind.i32.wrap 2 = 2 := by decide
    have q4 : IntKind.i32.wrap 5 = 5 := by decide
    have b1 : bits .and .i32 20 15 = 4 := by decide +kernel
    go_wp2
    go_quiet (fail)
    go_wp2; go_ret; exact ⟨by first | rfl | decide +kernel, nq, rfl⟩
  · have q1 : IntKind.i32.wrap (1 + 1) = 2 := by decide
    have q2 : IntKind.i32.wrap (5 + 1) = 6 := by decide
    have q3 : IntKind.i32.wrap 2 = 2 := by decide
    have q4 : IntKind.i32.wrap 6 = 6 := by decide
    have b1 : bits .and .i32 21 15 = 5 := by decide +kernel
    go_wp2
    go_quiet (fail)
    go_wp2; go_ret; exact ⟨by first | rfl | decide +kernel, nq, rfl⟩
  · have q1 : IntKind.i32.wrap (1 + 1) = 2 := by decide
    have q2 : IntKind.i32.wrap (6 + 1) = 7 := by decide
    have q3 : IntKind.i32.wrap 2 = 2 := by decide
    have q4 : IntKind.i32.wrap 7 = 7 := by decide
    have b1 : bits .and .i32 22 15 = 6 := by decide +kernel
    go_wp2
    go_quiet (fail)
    go_wp2; go_ret; exact ⟨by first | rfl | decide +kernel, nq, rfl⟩
  · have q1 : IntKind.i32.wrap (1 + 1) = 2 := by decide
    have q2 : IntKind.i32.wrap (7 + 1) = 8 := by decide
    have q3 : IntKind.i32.wrap 2 = 2 := by decide
    have q4 : IntKind.i32.wrap 8 = 8 := by decide
    have b1 : bits .and .i32 23 15 = 7 := by decide +kernel
    go_wp2
    go_quiet (fail)
    go_wp2; go_ret; exact ⟨by first | rfl | decide +kernel, nq, rfl⟩
  · have q1 : IntKind.i32.wrap (1 + 1) = 2 := by decide
    have q2 : IntKind.i32.wrap (8 + 1) = 9 := by decide
    have q3 : IntKind.i32.wrap 2 = 2 := by decide
    have q4 : IntKind.i32.wrap 9 = 9 := by decide
    have b1 : bits .and .i32 24 15 = 8 := by decide +kernel
    go_wp2
    go_quiet (fail)
    go_wp2; go_ret; exact ⟨by first | rfl | decide +kernel, nq, rfl⟩
  · have q1 : IntKind.i32.wrap (1 + 1) = 2 := by decide
    have q2 : IntKind.i32.wrap (9 + 1) = 10 := by decide
    have q3 : IntKind.i32.wrap 2 = 2 := by decide
    have q4 : IntKind.i32.wrap 10 = 10 := by decide
    have b1 : bits .and .i32 25 15 = 9 := by decide +kernel
    go_wp2
    go_quiet (fail)
    go_wp2; go_ret; exact ⟨by first | rfl | decide +kernel, nq, rfl⟩
  · have q1 : IntKind.i32.wrap (1 + 1) = 2 := by decide
    have q2 : IntKind.i32.wrap (10 + 1) = 11 := by decide
    have q3 : IntKind.i32.wrap 2 = 2 := by decide
    have q4 : IntKind.i32.wrap 11 = 11 := by decide
    have b1 : bits .and .i32 26 15 = 10 := by decide +kernel
    go_wp2
    go_quiet (fail)
    go_wp2; go_ret; exact ⟨by first | rfl | decide +kernel, nq, rfl⟩
  · have q1 : IntKind.i32.wrap (1 + 1) = 2 := by decide
    have q2 : IntKind.i32.wrap (11 + 1) = 12 := by decide
    have q3 : IntKind.i32.wrap 2 = 2 := by decide
    have q4 : IntKind.i32.wrap 12 = 12 := by decide
    have b1 : bits .and .i32 27 15 = 11 := by decide +kernel
    go_wp2
    go_quiet (fail)
    go_wp2; go_ret; exact ⟨by first | rfl | decide +kernel, nq, rfl⟩
  · have q1 : IntKind.i32.wrap (1 + 1) = 2 := by decide
    have q2 : IntKind.i32.wrap (12 + 1) = 13 := by decide
    have q3 : IntKind.i32.wrap 2 = 2 := by decide
    have q4 : IntKind.i32.wrap 13 = 13 := by decide
    have b1 : bits .and .i32 28 15 = 12 := by decide +kernel
    go_wp2
    go_quiet (fail)
    go_wp2; go_ret; exact ⟨by first | rfl | decide +kernel, nq, rfl⟩
  · have q1 : IntKind.i32.wrap (1 + 1) = 2 := by decide
    have q2 : IntKind.i32.wrap (13 + 1) = 14 := by decide
    have q3 : IntKind.i32.wrap 2 = 2 := by decide
    have q4 : IntKind.i32.wrap 14 = 14 := by decide
    have b1 : bits .and .i32 29 15 = 13 := by decide +kernel
    go_wp2
    go_quiet (fail)
    go_wp2; go_ret; exact ⟨by first | rfl | decide +kernel, nq, rfl⟩
  · have q1 : IntKind.i32.wrap (1 + 1) = 2 := by decide
    have q2 : IntKind.i32.wrap (14 + 1) = 15 := by decide
    have q3 : IntKind.i32.wrap 2 = 2 := by decide
    have q4 : IntKind.i32.wrap 15 = 15 := by decide
    have b1 : bits .and .i32 30 15 = 14 := by decide +kernel
    go_wp2
    go_quiet (fail)
    go_wp2; go_ret; exact ⟨by first | rfl | decide +kernel, nq, rfl⟩
  · have q1 : IntKind.i32.wrap (1 + 1) = 2 := by decide
    have q2 : IntKind.i32.wrap (15 + 1) = 16 := by decide
    have q3 : IntKind.i32.wrap 2 = 2 := by decide
    have q4 : IntKind.i32.wrap 16 = 16 := by decide
    have b1 : bits .and .i32 31 15 = 15 := by decide +kernel
    go_wp2
    go_quiet (fail)
    go_wp2; go_ret; exact ⟨by first | rfl | decide +kernel, nq, rfl⟩
  · have q1 : IntKind.i32.wrap (7 + 1) = 8 := by decide
    have q2 : IntKind.i32.wrap (15 + 1) = 16 := by decide
    have q3 : IntKind.i32.wrap 8 = 8 := by decide
    have q4 : IntKind.i32.wrap 16 = 16 := by decide
    have b1 : bits .and .i32 127 15 = 15 := by decide +kernel
    go_wp2
    go_quiet (fail)
    go_wp2; go_ret; exact ⟨by first | rfl | decide +kernel, nq, rfl⟩

set_option maxHeartbeats 1600000 in
theorem form_any (r : Nat) (hr : r ≤ 1114111) (w : World) :
    Calls Tryz.prog 69 #[.int .i32 (r : Int)] w fun e w' => e = .returned (.string ⟨(formF r).toArray⟩) ∧ ∃ n, w' = w.drewN n := by
  by_cases hl : r < 32 ∨ r = 127
  · have hf : formF r = formR r := by
      unfold formF; rw [if_neg]; unfold formR
      repeat' split
      all_goals first | simp | (exfalso; omega)
    rw [hf]; exact form_low r hl w
  · by_cases h1 : r = 92
    · subst h1
      go_enter Tryz.func69, Tryz.ntmps69
      go_wp2; go_ret; exact ⟨rfl, 0, rfl⟩
    · by_cases h2 : r = 34
      · subst h2
        go_enter Tryz.func69, Tryz.ntmps69
        go_wp2; go_ret; exact ⟨rfl, 0, rfl⟩
      · have hf : formF r = Lib.encodeRune r := by
          have h0 : formR r = [] := by
            unfold formR; rw [if_neg h1, if_neg h2, if_neg (by omega), if_neg (by omega), if_neg hl]
          unfold formF; rw [if_pos h0]
        have HF := Lib.hid hf; clear hf; have e1 : ((r : Int) == 92) = false := by rw [beq_eq_false_iff_ne]; omega
        have e2 : ((r : Int) == 34) = false := by rw [beq_eq_false_iff_ne]; omega
        have e3 : ((r : Int) == 10) = false := by rw [beq_eq_false_iff_ne]; omega
        have e4 : ((r : Int) == 9) = false := by rw [beq_eq_false_iff_ne]; omega
        have e5 : ((r : Int) == 127) = false := by rw [beq_eq_false_iff_ne]; omega
        have e6 : ¬ (r : Int) < 32 := by omega
        go_enter Tryz.func69, Tryz.ntmps69
        go_wp2; go_ret; exact ⟨by rw [HF.out, ← enc_eq r hr]; rfl, 0, rfl⟩
end Go.Proofs.YtkfgbjjelcigcaaGreatDoor
/- text.Quote. -/
set_option linter.unusedVariables false
set_option linter.unusedSimpArgs false
set_option maxRecDepth 100000
namespace Go
open Go.RowKit
def formsF (l : List (Nat × Nat)) : List UInt8 := l.flatMap (fun x => formF x.1)
def quoteF (s : ByteArray) : List UInt8 := [34] ++ formsF (runesF s) ++ [34]
theorem formF_len (r : Nat) : (formF r).length ≤ 4 := by
  unfold formF
  split
  · have := Lib.runeCells_le (r : Int); rw [Lib.runeCells_length] at this; exact this.2
  · unfold formR
    repeat' split
    all_goals simp
theorem forms_snoc (l : List (Nat × Nat)) (x : Nat × Nat) : formsF (l ++ [x]) = formsF l ++ formF x.1 := by simp [formsF]
theorem forms_len (l : List (Nat × Nat)) : (formsF l).length ≤ 4 * l.length := by
  induction l with
  | nil => simp [formsF]
  | cons x l ih =>
    have := formF_len x.1; simp only [formsF, List.flatMap_cons, List.length_append, List.length_cons] at *; omega
end Go
namespace Go.Proofs.YtkfgbjjelcigcaaGreatDoor
open Go.RowKit

set_option maxHeartbeats 3200000 in
theorem quote_any (s : ByteArray) (hs : s.size ≤ 100000) (w : World) :
    Calls Tryz.prog 56 #[.string s] w fun e w' => e = .returned (.tuple #[.string ⟨(if rightF s then quoteF s else []).toArray⟩, .int .i64 (if rightF s then 0 else 13)]) ∧ Below w.heap.size w w' := by
  have hc := Lib.hid (right_any s (by unfold maxLen; omega)); obtain ⟨T, hT⟩ : ∃ T : Bool, rightF s = T := ⟨_, rfl⟩; rw [hT] at hc ⊢; have HT := Lib.hid hT; clear hT
  go_enter Tryz.func56, Tryz.ntmps56
  go_wp2_with fail
  refine (hc.out _).mono ?_; rintro e w1 ⟨rfl, hb1⟩; have hs1 := hb1.size
  cases T with
  | false =>
    clear hc HT; go_wp2; refine bodyPost_ret (v := .tuple #[.string ⟨#[]⟩, .int .i64 13]) (by simp [results, Tryz.results56, go_sem]) rfl ⟨rfl, hb1⟩
  | true =>
    clear hc HT; have hI0 : Lib.IsBuilderF 91 5 w1.heap.size w1.heap.size (Lib.byteCells []) (w1.alloc (.cells #[.pointer none, .slice none 0 0] 91)) := Lib.IsBuilderF.of (Lib.fresh_isBuilder 91 5 w1); have hbA : Below w1.heap.size w1 (w1.alloc (.cells #[.pointer none, .slice none 0 0] 91)) := Below.new _ _
    go_wp2_with (go_at_call 68; refine (Tryz.Builder_WriteByte_k w1.heap.size w1.heap.size _ 34 _ hI0 (by rw [Lib.byteCells_length]; simp) (by simp)).mono ?_)
    rintro e w2 ⟨rfl, h2, b2, k2⟩; have hB2 := hbA.trans b2; have hK : w1.heap.size < w2.heap.size := by
      have := b2.size; simp at this; omega
    have hI2 : Lib.IsBuilderF 91 5 w1.heap.size w1.heap.size (Lib.byteCells [34]) w2 := Or.inr h2; have hI3 := hI2.alloc (.stringIter s 0); have hit3 : (w2.alloc (.stringIter s 0)).heap[w2.heap.size]? = some (.stringIter s 0) := heap_alloc_new w2 _; have hB3 := hB2.alloc (Nat.le_of_lt hK) (.stringIter s 0); obtain ⟨KI, hKI⟩ : ∃ k, w2.heap.size = k := ⟨_, rfl⟩; rw [hKI] at hit3 hK; clear h2 k2 hbA hI0 b2 hI2 hB2; go_wp2
    go_loopw [] (fun wr => ∃ (p f : Nat) (pre : List (Nat × Nat)), Lib.IsBuilderF 91 5 w1.heap.size w1.heap.size (Lib.byteCells (34 :: formsF pre)) wr ∧ wr.heap[KI]? = some (.stringIter s p) ∧ Below w1.heap.size w1 wr ∧ Hid (runesF s = pre ++ rl s f p) ∧ s.size ≤ p + f ∧ p ≤ s.size ∧ pre.length ≤ p) (fun wr => s.size - wr.iterPos KI)
    case atStart => exact ⟨0, s.size, [], hI3, hit3, hB3, Lib.hid rfl, by omega, by omega, by simp⟩
    case round =>
      clear hI3 hit3 hB3; obtain ⟨p, f, pre, hI, hit, hbw, HR, hpf, hps, hpl⟩ := hrel; have hsz : KI < wr.heap.size := (Array.getElem?_eq_some_iff.1 hit).1
      by_cases hp : p < s.size
      · obtain ⟨f, rfl⟩ : ∃ g, f = g + 1 := ⟨f - 1, by omega⟩; have hnx : ∀ ty, (Instr.next (.pointer (some ⟨KI, 0, none⟩)) true ty).run Tryz.prog wr = _ := fun ty => Lib.run_next_any_at wr KI s p ty hit hp; have hwd := decode_wid hp; rw [rl_step s f p hp] at HR; have hI2 := hI.iterAt hit (p + (Utf8.decode s p).2); have hit2 := Lib.iterAt_heap wr KI s p (p + (Utf8.decode s p).2) hit; have hbw2 := Lib.below_iterAt hbw (k := KI) (by omega) s (p + (Utf8.decode s p).2); have hsz2 := Lib.iterAt_size wr KI s (p + (Utf8.decode s p).2); obtain ⟨W, hW⟩ : ∃ W, p + (Utf8.decode s p).2 = W := ⟨_, rfl⟩; rw [hW] at hnx HR hI2 hit2 hbw2 hsz2; obtain ⟨R, hR⟩ : ∃ R, (Utf8.decode s p).1 = R := ⟨_, rfl⟩; rw [hR] at hnx HR hwd; have hform := Lib.hid (form_any R hwd.2.2.2); have hfl := formF_len R; have hfs := forms_len pre; have hWb : p < W ∧ W ≤ s.size := by omega
        have HSN : Hid (formsF (pre ++ [(R, p)]) = formsF pre ++ formF R) := Lib.hid (forms_snoc pre (R, p)); clear hwd hR hW hI hbw; obtain ⟨FR, hFR⟩ : ∃ FR, formF R = FR := ⟨_, rfl⟩; rw [hFR] at hform hfl HSN; clear hFR
        go_wp2_with fail
        refine (hform.out _).mono ?_; rintro e w3 ⟨rfl, n, rfl⟩; have hI3 : Lib.IsBuilderF 91 5 w1.heap.size w1.heap.size (Lib.byteCells (34 :: formsF pre)) ((wr.iterAt KI s W).drewN n) := hI2; have hit3 : ((wr.iterAt KI s W).drewN n).heap[KI]? = some (.stringIter s W) := hit2; have hbw3 : Below w1.heap.size w1 ((wr.iterAt KI s W).drewN n) := below_drewN hbw2 n; have hsz3 : ((wr.iterAt KI s W).drewN n).heap.size = wr.heap.size := hsz2; generalize (wr.iterAt KI s W).drewN n = w3 at *; clear hI2 hit2 hbw2 hsz2 hform hnx
        go_wp2_with (go_at_call 33; refine (Tryz.Builder_WriteString_k w1.heap.size w1.heap.size _ ⟨FR.toArray⟩ _ hI3 (by rw [Lib.byteCells_length]; simp [ByteArray.size]; omega) (by omega)).mono ?_)
        rintro e w4 ⟨rfl, h4, b4, k4⟩; have hit4 := k4.iter hit3 (by omega); go_wp2; go_roundw
        case rel =>
          refine ⟨W, f, pre ++ [(R, p)], ?_, hit4, hbw3.trans b4, Lib.hid (by rw [HR.out, List.append_assoc]; rfl), by omega, by omega, by simp; omega⟩; have e1 : Lib.byteCells (34 :: formsF (pre ++ [(R, p)])) = Lib.byteCells (34 :: formsF pre) ++ Lib.strCells ⟨FR.toArray⟩ := by
            rw [HSN.out, ← List.cons_append, Lib.byteCells_append]
            congr 1
          rw [e1]; exact Or.inr h4
        case measure =>
          simp only [World.iterPos, hit4, hit]; omega
      · have hnx : ∀ ty, (Instr.next (.pointer (some ⟨KI, 0, none⟩)) true ty).run Tryz.prog wr = _ := fun ty => Lib.run_next_end_at wr KI s p ty hit hp; rw [rl_end s f p hp, List.append_nil] at HR; have hfs := forms_len pre; have hQ : Hid (quoteF s = (34 :: formsF pre) ++ [34]) := Lib.hid (by unfold quoteF; rw [HR.out]; rfl); obtain ⟨Q, hQQ⟩ : ∃ Q, quoteF s = Q := ⟨_, rfl⟩; rw [hQQ] at hQ; have HQQ := Lib.hid hQQ; clear hQQ; clear HR
        go_wp2_with (go_at_call 68; refine (Tryz.Builder_WriteByte_k w1.heap.size w1.heap.size _ 34 _ hI (by rw [Lib.byteCells_length]; simp; omega) (by omega)).mono ?_)
        rintro e w5 ⟨rfl, h5, b5, k5⟩; have hsz5 := b5.size; have hI6 : Lib.IsBuilderF 91 5 w1.heap.size w1.heap.size (Lib.byteCells Q) w5 := by
          rw [hQ.out, Lib.byteCells_append]; exact Or.inr h5
        go_wp2_with (go_at_call 36; refine (Tryz.Builder_String_any_k w1.heap.size w1.heap.size Q _ hI6 (by omega)).mono ?_)
        rintro e w6 ⟨rfl, _, b6, _⟩; go_wp2; refine bodyPost_ret (v := .tuple #[.string ⟨Q.toArray⟩, .int .i64 0]) (by simp [results, Tryz.results56, go_sem]) rfl ⟨by rw [HQQ.out], hb1.trans (((hbw.trans b5).trans b6).mono hs1)⟩
end Go.Proofs.YtkfgbjjelcigcaaGreatDoor
