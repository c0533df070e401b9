/-
  TextParts: the walk.
-/
import Derived.Test.YtbjiamakchklpaaTknown
import Derived.Test.YtbjiamakchklpaaTpartsp
import Derived.Test.YtbjiamakchklpaaOpenT
import Derived.Test.YtbjiamakchklpaaRegApp
import Derived.Test.YtbjiamakchklpaaTwordsl
import Derived.Test.YtbjiamakchklpaaTquotesl
set_option linter.unusedVariables false
set_option linter.unusedSimpArgs false
set_option maxRecDepth 100000
namespace Go
open Go.RowKit
theorem bapp (l m : List UInt8) : (⟨l.toArray⟩ : ByteArray) ++ ⟨m.toArray⟩ = ⟨(l ++ m).toArray⟩ := by
  apply ByteArray.ext
  rw [ByteArray.data_append]
  apply Array.ext'
  simp
end Go
namespace Go.Proofs.Ytbjiamakchklpaa
open Go.RowKit
theorem Try.infoStr : (Try.prog.info? 9).map (fun i => (i.zero, i.size, i.bytes)) = some (some (.string ⟨#[]⟩), 1, 16) := by kernel_rfl
theorem scells_map (l : List ByteArray) : scells l = l.map Value.string := by
  induction l with
  | nil => rfl
  | cons y l ih =>
    have : scells (y :: l) = [.string y] ++ scells l := rfl
    rw [this, ih]; rfl
theorem scells_at (l : List ByteArray) (k : Nat) (x : ByteArray) (h : l[k]? = some x) : (scells l)[k]? = some (.string x) := by
  rw [scells_map, List.getElem?_map, h]; rfl
theorem scells_len (l : List ByteArray) : (scells l).length = l.length := by rw [scells_map, List.length_map]
theorem scells_snoc (l : List ByteArray) (x : ByteArray) : scells (l ++ [x]) = scells l ++ [.string x] := by simp [scells, scell]

set_option maxHeartbeats 12800000 in
theorem parts_law {w : World} (a : Option Addr) (cap : Nat) (LS : List ByteArray) (hlc : LS.length ≤ cap) (hcm : cap ≤ maxLen) (_ : a = none → cap = 0) (hr : Rd w a (scells LS)) (hss : ∀ y ∈ LS, SIn y) :
    Calls Try.prog 5 #[.slice a LS.length cap] w fun e w' => e = .returned (.bool true) ∧ Below w.heap.size w w' := by
  have HSS := Lib.hid hss
  have HR0 := Lib.hid hr
  clear hss hr
  go_enter Try.func5, Try.ntmps5
  go_wp2
  go_loopw [3, 4, 5] (fun ln o i wr => ∃ (k : Nat) (SM : List ByteArray) (q : ByteArray), ln = .string q ∧ i = .int .i64 (k : Int) ∧ wr.ownsRow w.heap.size 9 1 o SM.length (scells SM) ∧ k ≤ LS.length ∧ k ≤ 20 ∧ SM.length ≤ k ∧ Hid (∀ y ∈ SM, rightF y = true ∧ y.size ≤ 20) ∧ Hid (q = ⟨(joinF SM).toArray⟩) ∧ q.size ≤ 103 * SM.length ∧ Below w.heap.size w wr) (fun _ _ i _ => LS.length - (intOf i).toNat)
  case atStart => exact ⟨0, [], ⟨#[]⟩, rfl, rfl, World.ownsRow_nil _ _ _ _, by omega, by omega, by simp, Lib.hid (by simp), Lib.hid rfl, by simp [ByteArray.size], Below.refl _ _⟩
  case round =>
    obtain ⟨k, SM, q, rfl, rfl, ho, hk, hk20, hsk, HSM, HJ, hq, hbb⟩ := hrel
    by_cases hkl : k < LS.length
    · have hki : (k : Int) < (LS.length : Int) := by omega
      by_cases hk2 : k < 20
      · have hk2i : (k : Int) < 20 := by omega
        obtain ⟨X, hX⟩ : ∃ x, LS[k]? = some x := ⟨_, List.getElem?_eq_getElem hkl⟩
        have hXs : X.size ≤ maxLen := HSS.out X (List.mem_of_getElem? hX)
        have hat := scells_at LS k X hX
        obtain ⟨b, off, rfl, hcell, hblk⟩ := HR0.out.at hat
        clear hcell
        have hm : (min (X.size : Int) 20).toNat = min X.size 20 := by omega
        have hm0 : 0 ≤ min (X.size : Int) 20 := by omega
        have hm1 : min (X.size : Int) 20 ≤ (X.size : Int) := by omega
        have hms : (X.extract 0 (min X.size 20)).size ≤ 20 := by rw [ByteArray.size_extract]; omega
        have HQ := Lib.hid (quote_any (X.extract 0 (min X.size 20)) (by omega))
        go_wp2
        refine wp_region_lit_txt [0, 1, 2, 3, 4, 5, 6, 7, 8, 9, 10, 12, 13, 14, 15, 16] (fun W => Below w.heap.size w W) (by kernel_rfl) (by kernel_rfl) (by kernel_rfl) hbb.drew ?_
        have ho : wr.drew.ownsRow w.heap.size 9 1 u4 SM.length (scells SM) := ho
        have hbb := hbb.drew
        generalize wr.drew = wa at *
        (refine txt_light ?_ rfl rfl ?_ ?_; rotate_left; · (intro w' hS; (try dsimp only at hS); go_simp; with_reducible rfl)); try simp only [Act.put, List.setIfInBounds_toArray, List.set_cons_zero, List.set_cons_succ]
        (refine txt_light ?_ rfl rfl ?_ ?_; rotate_left; · (intro w' hS; (try dsimp only at hS); go_simp; with_reducible rfl)); try simp only [Act.put, List.setIfInBounds_toArray, List.set_cons_zero, List.set_cons_succ]
        (refine txt_light ?_ rfl rfl ?_ ?_; rotate_left; · (intro w' hS; (try dsimp only at hS); go_simp; with_reducible rfl)); try simp only [Act.put, List.setIfInBounds_toArray, List.set_cons_zero, List.set_cons_succ]
        refine txt_light (.string X) rfl rfl ?_ ?_
        · intro w' hS
          obtain ⟨b', o', he, c0, _⟩ := (HR0.out.keep hS).at hat
          cases he
          go_simp
        try simp only [Act.put, List.setIfInBounds_toArray, List.set_cons_zero, List.set_cons_succ]
        (refine txt_light ?_ rfl rfl ?_ ?_; rotate_left; · (intro w' hS; (try dsimp only at hS); go_simp; with_reducible rfl)); try simp only [Act.put, List.setIfInBounds_toArray, List.set_cons_zero, List.set_cons_succ]
        (refine txt_light ?_ rfl rfl ?_ ?_; rotate_left; · (intro w' hS; (try dsimp only at hS); go_simp; with_reducible rfl)); try simp only [Act.put, List.setIfInBounds_toArray, List.set_cons_zero, List.set_cons_succ]
        (refine txt_light ?_ rfl rfl ?_ ?_; rotate_left; · (intro w' hS; (try dsimp only at hS); go_simp; with_reducible rfl)); try simp only [Act.put, List.setIfInBounds_toArray, List.set_cons_zero, List.set_cons_succ]
        refine txt_light (.string X) rfl rfl ?_ ?_
        · intro w' hS
          obtain ⟨b', o', he, c0, _⟩ := (HR0.out.keep hS).at hat
          cases he
          go_simp
        try simp only [Act.put, List.setIfInBounds_toArray, List.set_cons_zero, List.set_cons_succ]
        (refine txt_light ?_ rfl rfl ?_ ?_; rotate_left; · (intro w' hS; (try dsimp only at hS); go_simp; with_reducible rfl)); try simp only [Act.put, List.setIfInBounds_toArray, List.set_cons_zero, List.set_cons_succ]
        (refine txt_light ?_ rfl rfl ?_ ?_; rotate_left; · (intro w' hS; (try dsimp only at hS); go_simp; with_reducible rfl)); try simp only [Act.put, List.setIfInBounds_toArray, List.set_cons_zero, List.set_cons_succ]
        (refine txt_light ?_ rfl rfl ?_ ?_; rotate_left; · (intro w' hS; (try dsimp only at hS); go_simp; with_reducible rfl)); try simp only [Act.put, List.setIfInBounds_toArray, List.set_cons_zero, List.set_cons_succ]
        refine txt_call [.string (X.extract 0 (min X.size 20))] Try.f9 rfl rfl Try.func9 (by kernel_rfl) (by kernel_rfl) rfl ((HQ.out _).mono ?_)
        rintro e wb ⟨rfl, hb4⟩
        have hbc := hbb.trans (hb4.mono hbb.size)
        have hoc := ho.below hb4
        clear ho hbb
        refine ⟨_, rfl, hbc, ?_⟩
        try simp only [Act.put, List.setIfInBounds_toArray, List.set_cons_zero, List.set_cons_succ]
        (refine txt_light ?_ rfl rfl ?_ ?_; rotate_left; · (intro w' hS; (try dsimp only at hS); go_simp; with_reducible rfl)); try simp only [Act.put, List.setIfInBounds_toArray, List.set_cons_zero, List.set_cons_succ]
        (refine txt_light ?_ rfl rfl ?_ ?_; rotate_left; · (intro w' hS; (try dsimp only at hS); go_simp; with_reducible rfl)); try simp only [Act.put, List.setIfInBounds_toArray, List.set_cons_zero, List.set_cons_succ]
        (refine txt_light ?_ rfl rfl ?_ ?_; rotate_left; · (intro w' hS; (try dsimp only at hS); go_simp; with_reducible rfl)); try simp only [Act.put, List.setIfInBounds_toArray, List.set_cons_zero, List.set_cons_succ]
        (refine txt_light ?_ rfl rfl ?_ ?_; rotate_left; · (intro w' hS; (try dsimp only at hS); go_simp; with_reducible rfl)); try simp only [Act.put, List.setIfInBounds_toArray, List.set_cons_zero, List.set_cons_succ]
        (refine txt_light ?_ rfl rfl ?_ ?_; rotate_left; · (intro w' hS; (try dsimp only at hS); go_simp; with_reducible rfl)); try simp only [Act.put, List.setIfInBounds_toArray, List.set_cons_zero, List.set_cons_succ]
        refine txt_nil ?_
        obtain ⟨C0, hC0⟩ : ∃ C0, X.extract 0 (min X.size 20) = C0 := ⟨_, rfl⟩
        rw [hC0] at hms
        rw [hC0]
        have hql := quote_len C0
        obtain ⟨ao, co, hu4, hco1, hco2, -, -, -⟩ := hoc.form
        subst hu4
        cases hT : rightF C0 with
        | false =>
          rw [if_neg (show ¬ (false = true) by decide), if_neg (show ¬ (false = true) by decide)]
          go_wp2
          go_roundw
          case rel => exact ⟨k + 1, SM, q, rfl, val_int (by omega), hoc, by omega, by omega, by omega, HSM, HJ, hq, hbc⟩
          case measure => simp [intOf]; omega
        | true =>
          rw [if_pos rfl, if_pos rfl]
          have HSM2 : Hid (∀ y ∈ SM ++ [C0], rightF y = true ∧ y.size ≤ 20) := Lib.hid (fun y hy => by
            rcases List.mem_append.1 hy with h | h
            · exact HSM.out y h
            · rw [List.mem_singleton.1 h]; exact ⟨hT, hms⟩)
          have HJS := Lib.hid (joinF_snoc SM C0)
          have HSN := Lib.hid (scells_snoc SM C0)
          have hsl : (SM ++ [C0]).length = SM.length + 1 := by simp
          obtain ⟨QL, hQL⟩ : ∃ QL, quoteF C0 = QL := ⟨_, rfl⟩
          rw [hQL] at HJS hql ⊢
          clear HQ hT
          by_cases hS0 : SM.length = 0
          · have hSn : SM = [] := List.length_eq_zero_iff.1 hS0
            subst hSn
            have hj := HJS.out
            rw [if_pos rfl] at hj
            have hq0 := HJ.out
            have hl4 : ¬ 9223372036854775807 < q.size + QL.length := by omega
            have hqn : Hid (q ++ ⟨QL.toArray⟩ = ⟨(joinF ([] ++ [C0])).toArray⟩) := Lib.hid (by rw [hq0, hj, bapp]; rfl)
            have hqs : (q ++ ⟨QL.toArray⟩).size = q.size + QL.length := ByteArray.size_append
            clear hq0 HJ hj HJS HSM
            go_wp2
            refine wp_region_lit_txt [0, 1, 2, 3, 4, 5, 6, 7, 8, 9, 10, 11, 14] (fun W => Below w.heap.size w W) (by kernel_rfl) (by kernel_rfl) (by kernel_rfl) hbc.drew ?_
            have hoc : wb.drew.ownsRow w.heap.size 9 1 (.slice ao ([] : List ByteArray).length co) ([] : List ByteArray).length (scells []) := hoc
            have hbc := hbc.drew
            generalize wb.drew = wc at *
            (refine txt_light ?_ rfl rfl ?_ ?_; rotate_left; · (intro w' hS; (try dsimp only at hS); go_simp; with_reducible rfl)); try simp only [Act.put, List.setIfInBounds_toArray, List.set_cons_zero, List.set_cons_succ]
            (refine txt_light ?_ rfl rfl ?_ ?_; rotate_left; · (intro w' hS; (try dsimp only at hS); go_simp; with_reducible rfl)); try simp only [Act.put, List.setIfInBounds_toArray, List.set_cons_zero, List.set_cons_succ]
            (refine txt_light ?_ rfl rfl ?_ ?_; rotate_left; · (intro w' hS; (try dsimp only at hS); go_simp; with_reducible rfl)); try simp only [Act.put, List.setIfInBounds_toArray, List.set_cons_zero, List.set_cons_succ]
            (refine txt_light ?_ rfl rfl ?_ ?_; rotate_left; · (intro w' hS; (try dsimp only at hS); go_simp; with_reducible rfl)); try simp only [Act.put, List.setIfInBounds_toArray, List.set_cons_zero, List.set_cons_succ]
            refine txt_light (.string X) rfl rfl ?_ ?_
            · intro w' hS
              obtain ⟨b', o', he, c0, _⟩ := (HR0.out.keep hS).at hat
              cases he
              go_simp
            try simp only [Act.put, List.setIfInBounds_toArray, List.set_cons_zero, List.set_cons_succ]
            (refine txt_light ?_ rfl rfl ?_ ?_; rotate_left; · (intro w' hS; (try dsimp only at hS); go_simp; with_reducible rfl)); try simp only [Act.put, List.setIfInBounds_toArray, List.set_cons_zero, List.set_cons_succ]
            (refine txt_light ?_ rfl rfl ?_ ?_; rotate_left; · (intro w' hS; (try dsimp only at hS); go_simp; with_reducible rfl)); try simp only [Act.put, List.setIfInBounds_toArray, List.set_cons_zero, List.set_cons_succ]
            (refine txt_light ?_ rfl rfl ?_ ?_; rotate_left; · (intro w' hS; (try dsimp only at hS); go_simp; with_reducible rfl)); try simp only [Act.put, List.setIfInBounds_toArray, List.set_cons_zero, List.set_cons_succ]
            refine txt_light (.string X) rfl rfl ?_ ?_
            · intro w' hS
              obtain ⟨b', o', he, c0, _⟩ := (HR0.out.keep hS).at hat
              cases he
              go_simp
            try simp only [Act.put, List.setIfInBounds_toArray, List.set_cons_zero, List.set_cons_succ]
            (refine txt_light ?_ rfl rfl ?_ ?_; rotate_left; · (intro w' hS; (try dsimp only at hS); go_simp; with_reducible rfl)); try simp only [Act.put, List.setIfInBounds_toArray, List.set_cons_zero, List.set_cons_succ]
            (refine txt_light ?_ rfl rfl ?_ ?_; rotate_left; · (intro w' hS; (try dsimp only at hS); go_simp; with_reducible rfl)); try simp only [Act.put, List.setIfInBounds_toArray, List.set_cons_zero, List.set_cons_succ]
            (refine txt_light ?_ rfl rfl ?_ ?_; rotate_left; · (intro w' hS; (try dsimp only at hS); go_simp; with_reducible rfl)); try simp only [Act.put, List.setIfInBounds_toArray, List.set_cons_zero, List.set_cons_succ]
            refine txt_heavy rfl rfl (fun K hK => ?_)
            go_step
            have hbd := hbc.alloc hbc.size (.cells #[.string C0] 9)
            have hod := hoc.alloc (.cells #[.string C0] 9)
            have hrl := Rd.lit wc wc.heap.size [.string C0] 9 rfl
            refine hK.out _ _ hbd ?_
            clear hK K
            try simp only [Act.put, List.setIfInBounds_toArray, List.set_cons_zero, List.set_cons_succ]
            refine txt_heavy rfl rfl (fun K hK => ?_)
            refine wp_app (.tmp 47) (.tmp 59) 44 rfl w.heap.size 9 (.string ⟨#[]⟩) 1 16 Try.underlying44 Try.infoStr rfl (by decide) (.slice ao ([] : List ByteArray).length co) ([] : List ByteArray).length (scells []) rfl hod (some ⟨wc.heap.size, 0, none⟩) 1 1 [.string C0] rfl (fun h => by cases h) hrl rfl (by simp [Value.oneCell']) (by omega) (by decide) hbd.size ?_
            intro v5 w5 ho5 hg5
            have hb5 := hbd.grown hg5 hbd.size (fun x hx => (hod.lt x hx).1)
            refine hK.out _ _ hb5 ?_
            clear hK K
            try simp only [Act.put, List.setIfInBounds_toArray, List.set_cons_zero, List.set_cons_succ]
            (refine txt_light ?_ rfl rfl ?_ ?_; rotate_left; · (intro w' hS; (try dsimp only at hS); go_simp; with_reducible rfl)); try simp only [Act.put, List.setIfInBounds_toArray, List.set_cons_zero, List.set_cons_succ]
            refine txt_nil ?_
            go_wp2
            go_roundw
            case rel => exact ⟨k + 1, [] ++ [C0], q ++ ⟨QL.toArray⟩, rfl, val_int (by omega), (by rw [hsl, HSN.out]; exact ho5), by omega, by omega, by omega, HSM2, hqn, by omega, hb5⟩
            case measure => simp [intOf]; omega
          · have hSn : SM ≠ [] := fun h => hS0 (by rw [h]; rfl)
            have hj := HJS.out
            rw [if_neg hSn] at hj
            have hl3 : ¬ 9223372036854775807 < q.size + 1 := by omega
            have hq1 : (q ++ ⟨#[32]⟩).size = q.size + 1 := ByteArray.size_append
            have hl4 : ¬ 9223372036854775807 < q.size + 1 + QL.length := by omega
            have hqn : Hid (q ++ ⟨#[32]⟩ ++ ⟨QL.toArray⟩ = ⟨(joinF (SM ++ [C0])).toArray⟩) := Lib.hid (by
              rw [HJ.out, hj, show (⟨#[32]⟩ : ByteArray) = ⟨[32].toArray⟩ from rfl, bapp, bapp]; simp)
            have hqs : (q ++ ⟨#[32]⟩ ++ ⟨QL.toArray⟩).size = q.size + 1 + QL.length := by rw [← hq1]; exact ByteArray.size_append
            have hgt : (0 : Int) < (SM.length : Int) := by omega
            clear HJ hj HJS HSM
            go_wp2
            refine wp_region_lit_txt [0, 1, 2, 3, 4, 5, 6, 7, 8, 9, 10, 11, 14] (fun W => Below w.heap.size w W) (by kernel_rfl) (by kernel_rfl) (by kernel_rfl) hbc.drew ?_
            have hoc : wb.drew.ownsRow w.heap.size 9 1 (.slice ao SM.length co) SM.length (scells SM) := hoc
            have hbc := hbc.drew
            generalize wb.drew = wc at *
            (refine txt_light ?_ rfl rfl ?_ ?_; rotate_left; · (intro w' hS; (try dsimp only at hS); go_simp; with_reducible rfl)); try simp only [Act.put, List.setIfInBounds_toArray, List.set_cons_zero, List.set_cons_succ]
            (refine txt_light ?_ rfl rfl ?_ ?_; rotate_left; · (intro w' hS; (try dsimp only at hS); go_simp; with_reducible rfl)); try simp only [Act.put, List.setIfInBounds_toArray, List.set_cons_zero, List.set_cons_succ]
            (refine txt_light ?_ rfl rfl ?_ ?_; rotate_left; · (intro w' hS; (try dsimp only at hS); go_simp; with_reducible rfl)); try simp only [Act.put, List.setIfInBounds_toArray, List.set_cons_zero, List.set_cons_succ]
            (refine txt_light ?_ rfl rfl ?_ ?_; rotate_left; · (intro w' hS; (try dsimp only at hS); go_simp; with_reducible rfl)); try simp only [Act.put, List.setIfInBounds_toArray, List.set_cons_zero, List.set_cons_succ]
            refine txt_light (.string X) rfl rfl ?_ ?_
            · intro w' hS
              obtain ⟨b', o', he, c0, _⟩ := (HR0.out.keep hS).at hat
              cases he
              go_simp
            try simp only [Act.put, List.setIfInBounds_toArray, List.set_cons_zero, List.set_cons_succ]
            (refine txt_light ?_ rfl rfl ?_ ?_; rotate_left; · (intro w' hS; (try dsimp only at hS); go_simp; with_reducible rfl)); try simp only [Act.put, List.setIfInBounds_toArray, List.set_cons_zero, List.set_cons_succ]
            (refine txt_light ?_ rfl rfl ?_ ?_; rotate_left; · (intro w' hS; (try dsimp only at hS); go_simp; with_reducible rfl)); try simp only [Act.put, List.setIfInBounds_toArray, List.set_cons_zero, List.set_cons_succ]
            (refine txt_light ?_ rfl rfl ?_ ?_; rotate_left; · (intro w' hS; (try dsimp only at hS); go_simp; with_reducible rfl)); try simp only [Act.put, List.setIfInBounds_toArray, List.set_cons_zero, List.set_cons_succ]
            refine txt_light (.string X) rfl rfl ?_ ?_
            · intro w' hS
              obtain ⟨b', o', he, c0, _⟩ := (HR0.out.keep hS).at hat
              cases he
              go_simp
            try simp only [Act.put, List.setIfInBounds_toArray, List.set_cons_zero, List.set_cons_succ]
            (refine txt_light ?_ rfl rfl ?_ ?_; rotate_left; · (intro w' hS; (try dsimp only at hS); go_simp; with_reducible rfl)); try simp only [Act.put, List.setIfInBounds_toArray, List.set_cons_zero, List.set_cons_succ]
            (refine txt_light ?_ rfl rfl ?_ ?_; rotate_left; · (intro w' hS; (try dsimp only at hS); go_simp; with_reducible rfl)); try simp only [Act.put, List.setIfInBounds_toArray, List.set_cons_zero, List.set_cons_succ]
            (refine txt_light ?_ rfl rfl ?_ ?_; rotate_left; · (intro w' hS; (try dsimp only at hS); go_simp; with_reducible rfl)); try simp only [Act.put, List.setIfInBounds_toArray, List.set_cons_zero, List.set_cons_succ]
            refine txt_heavy rfl rfl (fun K hK => ?_)
            go_step
            have hbd := hbc.alloc hbc.size (.cells #[.string C0] 9)
            have hod := hoc.alloc (.cells #[.string C0] 9)
            have hrl := Rd.lit wc wc.heap.size [.string C0] 9 rfl
            refine hK.out _ _ hbd ?_
            clear hK K
            try simp only [Act.put, List.setIfInBounds_toArray, List.set_cons_zero, List.set_cons_succ]
            refine txt_heavy rfl rfl (fun K hK => ?_)
            refine wp_app (.tmp 47) (.tmp 59) 44 rfl w.heap.size 9 (.string ⟨#[]⟩) 1 16 Try.underlying44 Try.infoStr rfl (by decide) (.slice ao SM.length co) SM.length (scells SM) rfl hod (some ⟨wc.heap.size, 0, none⟩) 1 1 [.string C0] rfl (fun h => by cases h) hrl rfl (by simp [Value.oneCell']) (by omega) (by decide) hbd.size ?_
            intro v5 w5 ho5 hg5
            have hb5 := hbd.grown hg5 hbd.size (fun x hx => (hod.lt x hx).1)
            refine hK.out _ _ hb5 ?_
            clear hK K
            try simp only [Act.put, List.setIfInBounds_toArray, List.set_cons_zero, List.set_cons_succ]
            (refine txt_light ?_ rfl rfl ?_ ?_; rotate_left; · (intro w' hS; (try dsimp only at hS); go_simp; with_reducible rfl)); try simp only [Act.put, List.setIfInBounds_toArray, List.set_cons_zero, List.set_cons_succ]
            refine txt_nil ?_
            go_wp2
            go_roundw
            case rel => exact ⟨k + 1, SM ++ [C0], q ++ ⟨#[32]⟩ ++ ⟨QL.toArray⟩, rfl, val_int (by omega), (by rw [hsl, HSN.out]; exact ho5), by omega, by omega, by omega, HSM2, hqn, by omega, hb5⟩
            case measure => simp [intOf]; omega
      · have hk2i : ¬ (k : Int) < 20 := by omega
        have hqj := HJ.out
        have HWT : Hid (wordsT q = (SM.map (fun y => (y.data.toList, true)), 0, 0)) := Lib.hid (by rw [hqj]; exact wordsT_join SM (fun y hy => (HSM.out y hy).1))
        have HW := Lib.hid (words_any q (by omega))
        rw [HWT.out] at HW
        have hml : (SM.map (fun y : ByteArray => (y.data.toList, true))).length = SM.length := List.length_map _
        have HWA : Hid (∀ (k : Nat) (x : ByteArray), SM[k]? = some x → (wcells (SM.map (fun y => (y.data.toList, true))))[k * 2]? = some (.string x) ∧ (wcells (SM.map (fun y => (y.data.toList, true))))[k * 2 + 1]? = some (.bool true)) := Lib.hid (fun k x hx => by
          have := wcells_at (SM.map (fun y => (y.data.toList, true))) k (x.data.toList, true) (by rw [List.getElem?_map, hx]; rfl)
          exact this)
        dsimp only at HW
        rw [hml] at HW
        generalize wcells (SM.map (fun y => (y.data.toList, true))) = WC at *
        clear hqj HJ HWT HSM hml
        obtain ⟨ao, co, rfl, hco1, hco2, -, hro, -⟩ := ho.form
        go_wp2_with fail
        refine (HW.out _).mono ?_
        rintro e w2 ⟨v2, rfl, ho2, hb2⟩
        obtain ⟨a2, c2, rfl, hc21, hc22, -, hr2, -⟩ := ho2.form
        have hro2 := hro.keep hb2
        have hbb2 := hbb.trans (hb2.mono hbb.size)
        clear HW ho ho2 hb2 hro hbb
        go_wp2
        go_loopw [11] (fun i wr => ∃ j : Nat, i = .int .i64 (j : Int) ∧ j ≤ SM.length ∧ Rd wr a2 WC ∧ Rd wr ao (scells SM) ∧ Below w.heap.size w wr) (fun i _ => SM.length - (intOf i).toNat)
        case atStart => exact ⟨0, rfl, by omega, hr2, hro2, hbb2⟩
        case round =>
          clear hr2 hro2 hbb2
          obtain ⟨j, rfl, hj, hr2, hro, hbb⟩ := hrel
          by_cases hjl : j < SM.length
          · have hji : (j : Int) < (SM.length : Int) := by omega
            obtain ⟨x, hx⟩ : ∃ x, SM[j]? = some x := ⟨_, List.getElem?_eq_getElem hjl⟩
            obtain ⟨h1, h2⟩ := HWA.out j x hx
            have h3 := scells_at SM j x hx
            obtain ⟨b, off, rfl, c0, -⟩ := hr2.at h1
            obtain ⟨b', off', he, c1, -⟩ := hr2.at h2
            cases he
            have c1 := c1
            obtain ⟨b3, off3, rfl, d0, -⟩ := hro.at h3
            have c1' : wr.cell? ⟨b, off + j * 2 + 1, none⟩ = some (.bool true) := c1
            clear h1 h2 h3 hx c1
            go_wp2
            go_quiet (fail)
            go_wp2
            exact ⟨⟨j + 1, val_int (by omega), by omega, hr2.drewN nq, hro.drewN nq, below_drewN hbb nq⟩, by simp [intOf]; omega⟩
          · have hji : ¬ (j : Int) < (SM.length : Int) := by omega
            clear hr2 hro
            go_wp2_with fail
            refine (tknown_any _).mono ?_
            rintro e w9 ⟨rfl, hb9⟩
            have hbb := hbb.trans (hb9.mono hbb.size)
            go_wp2
            refine bodyPost_ret (v := .bool true) (by simp [results, Try.results5, go_sem]) rfl ⟨rfl, hbb⟩
    · have hki : ¬ (k : Int) < (LS.length : Int) := by omega
      have hqj := HJ.out
      have HWT : Hid (wordsT q = (SM.map (fun y => (y.data.toList, true)), 0, 0)) := Lib.hid (by rw [hqj]; exact wordsT_join SM (fun y hy => (HSM.out y hy).1))
      have HW := Lib.hid (words_any q (by omega))
      rw [HWT.out] at HW
      have hml : (SM.map (fun y : ByteArray => (y.data.toList, true))).length = SM.length := List.length_map _
      have HWA : Hid (∀ (k : Nat) (x : ByteArray), SM[k]? = some x → (wcells (SM.map (fun y => (y.data.toList, true))))[k * 2]? = some (.string x) ∧ (wcells (SM.map (fun y => (y.data.toList, true))))[k * 2 + 1]? = some (.bool true)) := Lib.hid (fun k x hx => by
        have := wcells_at (SM.map (fun y => (y.data.toList, true))) k (x.data.toList, true) (by rw [List.getElem?_map, hx]; rfl)
        exact this)
      dsimp only at HW
      rw [hml] at HW
      generalize wcells (SM.map (fun y => (y.data.toList, true))) = WC at *
      clear hqj HJ HWT HSM hml
      obtain ⟨ao, co, rfl, hco1, hco2, -, hro, -⟩ := ho.form
      go_wp2_with fail
      refine (HW.out _).mono ?_
      rintro e w2 ⟨v2, rfl, ho2, hb2⟩
      obtain ⟨a2, c2, rfl, hc21, hc22, -, hr2, -⟩ := ho2.form
      have hro2 := hro.keep hb2
      have hbb2 := hbb.trans (hb2.mono hbb.size)
      clear HW ho ho2 hb2 hro hbb
      go_wp2
      go_loopw [11] (fun i wr => ∃ j : Nat, i = .int .i64 (j : Int) ∧ j ≤ SM.length ∧ Rd wr a2 WC ∧ Rd wr ao (scells SM) ∧ Below w.heap.size w wr) (fun i _ => SM.length - (intOf i).toNat)
      case atStart => exact ⟨0, rfl, by omega, hr2, hro2, hbb2⟩
      case round =>
        clear hr2 hro2 hbb2
        obtain ⟨j, rfl, hj, hr2, hro, hbb⟩ := hrel
        by_cases hjl : j < SM.length
        · have hji : (j : Int) < (SM.length : Int) := by omega
          obtain ⟨x, hx⟩ : ∃ x, SM[j]? = some x := ⟨_, List.getElem?_eq_getElem hjl⟩
          obtain ⟨h1, h2⟩ := HWA.out j x hx
          have h3 := scells_at SM j x hx
          obtain ⟨b, off, rfl, c0, -⟩ := hr2.at h1
          obtain ⟨b', off', he, c1, -⟩ := hr2.at h2
          cases he
          have c1 := c1
          obtain ⟨b3, off3, rfl, d0, -⟩ := hro.at h3
          have c1' : wr.cell? ⟨b, off + j * 2 + 1, none⟩ = some (.bool true) := c1
          clear h1 h2 h3 hx c1
          go_wp2
          go_quiet (fail)
          go_wp2
          exact ⟨⟨j + 1, val_int (by omega), by omega, hr2.drewN nq, hro.drewN nq, below_drewN hbb nq⟩, by simp [intOf]; omega⟩
        · have hji : ¬ (j : Int) < (SM.length : Int) := by omega
          clear hr2 hro
          go_wp2_with fail
          refine (tknown_any _).mono ?_
          rintro e w9 ⟨rfl, hb9⟩
          have hbb := hbb.trans (hb9.mono hbb.size)
          go_wp2
          refine bodyPost_ret (v := .bool true) (by simp [results, Try.results5, go_sem]) rfl ⟨rfl, hbb⟩
end Go.Proofs.Ytbjiamakchklpaa
