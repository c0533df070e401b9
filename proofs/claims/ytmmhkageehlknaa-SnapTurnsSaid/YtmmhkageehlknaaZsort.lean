/-
  order.sorted, of numbers that are in order already.
-/
import Derived.Test.YtmmhkageehlknaaZmerge
import Derived.Test.YtmmhkageehlknaaShelf
set_option linter.unusedVariables false
set_option linter.unusedSimpArgs false
set_option maxRecDepth 100000
namespace Go
open Go.RowKit
theorem ins_take (l : List Int) (k : Nat) : (ins l).take k = ins (l.take k) := by simp [ins]
theorem ins_drop (l : List Int) (k : Nat) : (ins l).drop k = ins (l.drop k) := by simp [ins]
theorem pw_mid {l : List Int} (h : l.Pairwise (· ≤ ·)) (i j k : Nat) : ∀ x ∈ (l.drop i).take j, ∀ y ∈ (l.drop (i + j)).take k, x ≤ y := by
  intro x hx y hy
  have h1 : (l.drop i).Pairwise (· ≤ ·) := h.sublist (List.drop_sublist i l)
  rw [← List.take_append_drop j (l.drop i)] at h1
  rw [List.pairwise_append] at h1
  refine h1.2.2 x hx y ?_
  rw [List.drop_drop]
  exact List.mem_of_mem_take hy
theorem ins_get {l : List Int} {i : Nat} {v : Value} (h : (ins l)[i]? = some v) : i < l.length := by
  by_cases q : i < l.length
  · exact q
  · rw [List.getElem?_eq_none (by simp [ins]; omega)] at h; cases h
theorem splice_self (cur : List Value) (off : Nat) (cs : List Value) (h : ∀ i v, cs[i]? = some v → cur[off + i]? = some v) (hf : off + cs.length ≤ cur.length) : splice cur off cs = cur := by
  unfold splice
  apply List.ext_getElem?
  intro i
  by_cases h1 : i < off
  · rw [List.getElem?_append_left (by simp; omega), List.getElem?_take_of_lt h1]
  · by_cases h2 : i < off + cs.length
    · rw [List.getElem?_append_right (by simp; omega), List.getElem?_append_left (by simp; omega)]
      have e : i - (cur.take off).length = i - off := by rw [List.length_take]; omega
      rw [e]
      have hv : cs[i - off]? = some cs[i - off] := List.getElem?_eq_getElem (by omega)
      rw [hv, ← h (i - off) _ hv]
      congr 1; omega
    · rw [List.getElem?_append_right (by simp; omega), List.getElem?_append_right (by simp; omega), List.getElem?_drop]
      congr 1; simp; omega
end Go
namespace Go.Proofs.Ytmmhkageehlknaa
open Go.RowKit

theorem cloneI_any (a : Option Addr) (c : Nat) (l : List Int) (hn : l.length ≤ 1000000) (w : World) (hr : Rd w a (ins l)) :
    Calls Try.prog 54 #[.slice a l.length c] w fun e w' => ∃ v, e = .returned v ∧ w'.ownsRow w.heap.size 3 1 v l.length (ins l) ∧ Below w.heap.size w w' := by
  cases a with
  | none =>
    refine (Try.slices_Clone_int_nil l.length c w).mono ?_
    rintro e w' ⟨rfl, rfl⟩
    have h0 : l = [] := by
      rcases hr with h | ⟨_, _, h, _⟩
      · simpa [ins] using h
      · cases h
    subst h0
    exact ⟨_, rfl, World.ownsRow_nil _ _ _ _, Below.refl _ _⟩
  | some ad =>
    by_cases h0 : l = []
    · subst h0
      refine (Try.slices_Clone_int_zero ad c w).mono ?_
      rintro e w' ⟨v, rfl, h, -, hb⟩
      exact ⟨v, rfl, h, hb⟩
    rcases hr with h | ⟨b, off, ha, hc⟩
    · exact absurd (by simpa [ins] using h) h0
    · cases ha
      refine (Try.slices_Clone_int b off l.length c l w (Nat.le_refl _) (by omega) ?_).mono ?_
      · intro j hj
        exact hc j _ (by simp [ins, List.getD_eq_getElem?_getD, hj])
      · rintro e w' ⟨v, rfl, h, -, hb⟩
        rw [List.take_length] at h
        exact ⟨v, rfl, h, hb⟩

set_option maxHeartbeats 6400000 in
theorem sorted_any (a : Option Addr) (c : Nat) (l : List Int) (hp : l.Pairwise (· ≤ ·)) (hn : l.length ≤ 1000) (w : World) (hr : Rd w a (ins l)) :
    Calls Try.prog 37 #[.slice a l.length c, .func (.func 38) #[] #[]] w fun e w' => ∃ v, e = .returned v ∧ w'.ownsRow w.heap.size 3 1 v l.length (ins l) ∧ Below w.heap.size w w' := by
  have HP := Lib.hid hp
  clear hp
  have hcl := cloneI_any a c l (by omega) w hr
  obtain ⟨n, hnl⟩ : ∃ n, l.length = n := ⟨_, rfl⟩
  have HN := Lib.hid hnl
  rw [hnl] at hcl hn ⊢
  clear hnl
  go_enter Try.func37, Try.ntmps37
  go_wp2_with fail
  refine hcl.mono ?_
  rintro e w1 ⟨v, rfl, ho, hb⟩
  obtain ⟨oa, oc, rfl, -, -, -, -, -⟩ := ho.form
  go_wp2
  go_loopw [6] (fun o wr => ∃ (r : Nat), 1 ≤ r ∧ r ≤ 2000 ∧ o = .int .i64 r ∧ wr.ownsRow w.heap.size 3 1 (.slice oa n oc) n (ins l) ∧ Below w.heap.size w wr) (fun o _ => 2000 - (intOf o).toNat)
  case atStart => exact ⟨1, by omega, by omega, rfl, ho, hb⟩
  case round =>
    obtain ⟨r, hr1, hr2, rfl, ho2, hb2⟩ := hrel
    by_cases hlt : r < n
    · have hlt' : (r : Int) < (n : Int) := by omega
      have HO2 := Lib.hid ho2
      obtain ⟨h1, h2⟩ := ho2
      rcases h2 with ⟨-, h0⟩ | ⟨g, cap, cur, hv, hbg, hg, hnc, hcm, hcs, htk⟩
      · omega
      obtain ⟨rfl, -, rfl⟩ : oa = some ⟨g, 0, none⟩ ∧ n = n ∧ oc = cap := by
        injection hv with q1 q2 q3; exact ⟨q1, q2, q3⟩
      clear hv
      obtain ⟨CU, rfl⟩ : ∃ CU : List Value, cur = CU.toArray := ⟨cur.toList, by simp⟩
      have HCS : Hid (CU.length = oc) := Lib.hid (by simpa using hcs)
      have HTK : Hid (CU.take n = ins l) := Lib.hid (by simpa using htk)
      have HG := Lib.hid hg
      clear hcs htk h1 hg
      go_wp2
      go_loopw [7] (fun o wi => ∃ (t : Nat), t ≤ n + r ∧ o = .int .i64 t ∧ Hid (wi.heap[g]? = some (.cells CU.toArray 3 (0, 0))) ∧ Below w.heap.size w wi) (fun o _ => 4000 - (intOf o).toNat)
      case atStart => exact ⟨0, by omega, rfl, HG, hb2⟩
      case round =>
        obtain ⟨t, ht, rfl, hgi, hbi⟩ := hrel
        by_cases hlt2 : t + r < n
        · have hlt2' : (t : Int) + (r : Int) < (n : Int) := by omega
          obtain ⟨en, hen⟩ : ∃ en : Nat, en = min (t + 2 * r) n := ⟨_, rfl⟩
          have hen1 : min ((t : Int) + 2 * (r : Int)) (n : Int) = (en : Int) := by omega
          have hA : t + r < en := by omega
          have hB : en ≤ n := by omega
          have hC : en ≤ t + 2 * r := by omega
          clear hen
          go_wp2
          have hgq : Hid (wr.drew.heap[g]? = some (.cells CU.toArray 3 (0, 0))) := hgi
          have hbq := hbi.drew
          refine wp_region_lit_txt [0, 1, 2, 3, 4, 5, 6, 7, 8, 9, 10, 11, 12, 13, 14, 15, 16] (fun W => Below w.heap.size w W) (by kernel_rfl) (by kernel_rfl) (by kernel_rfl) hbq ?_
          generalize wr.drew = wa at *
          obtain ⟨tr, htr⟩ : ∃ tr, tr = t + r := ⟨_, rfl⟩
          have hw : IntKind.i64.wrap ((t : Int) + (r : Int)) = (tr : Int) := by rw [IntWalk.i64_in _ (by omega)]; omega
          have f1 : en ≤ oc := by omega
          have f2 : t ≤ en := by omega
          have f3 : ¬ oc = t := by omega
          have f4 : tr ≤ oc := by omega
          have f5 : t ≤ tr := by omega
          have f6 : ¬ oc = tr := by omega
          have f7 : tr ≤ en := by omega
          have HTR := Lib.hid htr
          clear htr
          (refine txt_light ?_ rfl rfl ?_ ?_; rotate_left; · (intro w' hS; (try dsimp only at hS); go_simp; with_reducible rfl)); try simp only [Act.put, List.setIfInBounds_toArray, List.set_cons_zero, List.set_cons_succ]
          (refine txt_light ?_ rfl rfl ?_ ?_; rotate_left; · (intro w' hS; (try dsimp only at hS); go_simp; with_reducible rfl)); try simp only [Act.put, List.setIfInBounds_toArray, List.set_cons_zero, List.set_cons_succ]
          (refine txt_light ?_ rfl rfl ?_ ?_; rotate_left; · (intro w' hS; (try dsimp only at hS); go_simp; with_reducible rfl)); try simp only [Act.put, List.setIfInBounds_toArray, List.set_cons_zero, List.set_cons_succ]
          (refine txt_light ?_ rfl rfl ?_ ?_; rotate_left; · (intro w' hS; (try dsimp only at hS); go_simp; with_reducible rfl)); try simp only [Act.put, List.setIfInBounds_toArray, List.set_cons_zero, List.set_cons_succ]
          (refine txt_light ?_ rfl rfl ?_ ?_; rotate_left; · (intro w' hS; (try dsimp only at hS); go_simp; with_reducible rfl)); try simp only [Act.put, List.setIfInBounds_toArray, List.set_cons_zero, List.set_cons_succ]
          (refine txt_light ?_ rfl rfl ?_ ?_; rotate_left; · (intro w' hS; (try dsimp only at hS); go_simp; with_reducible rfl)); try simp only [Act.put, List.setIfInBounds_toArray, List.set_cons_zero, List.set_cons_succ]
          (refine txt_light ?_ rfl rfl ?_ ?_; rotate_left; · (intro w' hS; (try dsimp only at hS); go_simp; with_reducible rfl)); try simp only [Act.put, List.setIfInBounds_toArray, List.set_cons_zero, List.set_cons_succ]
          (refine txt_light ?_ rfl rfl ?_ ?_; rotate_left; · (intro w' hS; (try dsimp only at hS); go_simp; with_reducible rfl)); try simp only [Act.put, List.setIfInBounds_toArray, List.set_cons_zero, List.set_cons_succ]
          (refine txt_light ?_ rfl rfl ?_ ?_; rotate_left; · (intro w' hS; (try dsimp only at hS); go_simp; with_reducible rfl)); try simp only [Act.put, List.setIfInBounds_toArray, List.set_cons_zero, List.set_cons_succ]
          (refine txt_light ?_ rfl rfl ?_ ?_; rotate_left; · (intro w' hS; (try dsimp only at hS); go_simp; with_reducible rfl)); try simp only [Act.put, List.setIfInBounds_toArray, List.set_cons_zero, List.set_cons_succ]
          (refine txt_light ?_ rfl rfl ?_ ?_; rotate_left; · (intro w' hS; (try dsimp only at hS); go_simp; with_reducible rfl)); try simp only [Act.put, List.setIfInBounds_toArray, List.set_cons_zero, List.set_cons_succ]
          (refine txt_light ?_ rfl rfl ?_ ?_; rotate_left; · (intro w' hS; (try dsimp only at hS); go_simp; with_reducible rfl)); try simp only [Act.put, List.setIfInBounds_toArray, List.set_cons_zero, List.set_cons_succ]
          (refine txt_light ?_ rfl rfl ?_ ?_; rotate_left; · (intro w' hS; (try dsimp only at hS); go_simp; with_reducible rfl)); try simp only [Act.put, List.setIfInBounds_toArray, List.set_cons_zero, List.set_cons_succ]
          (refine txt_light ?_ rfl rfl ?_ ?_; rotate_left; · (intro w' hS; (try dsimp only at hS); go_simp; with_reducible rfl)); try simp only [Act.put, List.setIfInBounds_toArray, List.set_cons_zero, List.set_cons_succ]
          (refine txt_light ?_ rfl rfl ?_ ?_; rotate_left; · (intro w' hS; (try dsimp only at hS); go_simp; with_reducible rfl)); try simp only [Act.put, List.setIfInBounds_toArray, List.set_cons_zero, List.set_cons_succ]
          (refine txt_light ?_ rfl rfl ?_ ?_; rotate_left; · (intro w' hS; (try dsimp only at hS); go_simp; with_reducible rfl)); try simp only [Act.put, List.setIfInBounds_toArray, List.set_cons_zero, List.set_cons_succ]
          (refine txt_light ?_ rfl rfl ?_ ?_; rotate_left; · (intro w' hS; (try dsimp only at hS); go_simp; with_reducible rfl)); try simp only [Act.put, List.setIfInBounds_toArray, List.set_cons_zero, List.set_cons_succ]
          have hln := HN.out
          have hrd : Rd wa (some ⟨g, 0, none⟩) (ins l) := Rd.of_owns (size := 1) (n := n) (c := oc) (m := n) ⟨by rw [ins_len, HN.out], .inr ⟨g, oc, CU.toArray, rfl, hbg, hgq.out, hnc, hcm, by simpa using HCS.out, by simpa using HTK.out⟩⟩
          have hg1 : g < wa.heap.size := (Array.getElem?_eq_some_iff.1 hgq.out).1
          have hra : Rd wa (some ⟨g, t, none⟩) (ins ((l.drop t).take r)) := by
            have := (hrd.drop t).take r
            rw [ins_drop, ins_take, Nat.zero_add] at this; exact this
          have hrb : Rd wa (some ⟨g, tr, none⟩) (ins ((l.drop tr).take (en - tr))) := by
            have := (hrd.drop tr).take (en - tr)
            rw [ins_drop, ins_take, Nat.zero_add] at this; exact this
          have hal : ((l.drop t).take r).length = tr - t := by rw [List.length_take, List.length_drop, hln, HTR.out]; omega
          have hbl : ((l.drop tr).take (en - tr)).length = en - tr := by rw [List.length_take, List.length_drop, hln]; omega
          have hmg := merged_any (some ⟨g, t, none⟩) (some ⟨g, tr, none⟩) (oc - t) (oc - tr) ((l.drop t).take r) ((l.drop tr).take (en - tr)) (by rw [HTR.out]; exact pw_mid HP.out t r _) (by omega) (by omega) (by omega) (fun h => by cases h) (fun h => by cases h) wa hra hrb
          have hap : (l.drop t).take r ++ (l.drop tr).take (en - tr) = (l.drop t).take (en - t) := by
            have e1 : l.drop tr = (l.drop t).drop r := by rw [List.drop_drop, HTR.out]
            rw [e1, ← List.take_add]; congr 1; have := HTR.out; omega
          rw [hal, hbl, hap] at hmg
          refine txt_call [.slice (some ⟨g, t, none⟩) (tr - t) (oc - t), .slice (some ⟨g, tr, none⟩) (en - tr) (oc - tr), .func (.func 38) #[] #[]] Try.f55 rfl rfl Try.func55 (by kernel_rfl) (by kernel_rfl) rfl (hmg.mono ?_)
          rintro e w3 ⟨v3, rfl, ho3, hb3⟩
          have hbq3 : Below w.heap.size w w3 := hbq.trans (hb3.mono hbq.size)
          refine ⟨v3, rfl, hbq3, ?_⟩
          try simp only [Act.put, List.setIfInBounds_toArray, List.set_cons_zero, List.set_cons_succ]
          obtain ⟨a3, c3, rfl, -, -, -, hr3, -⟩ := ho3.form
          have hg3 : w3.heap[g]? = some (.cells CU.toArray 3 (0, 0)) := (hb3.block g hg1).trans hgq.out
          have hcl3 : (ins ((l.drop t).take (en - t))).length = en - t := by simp [ins, hln]; omega
          have hcu : ∀ i v, (ins ((l.drop t).take (en - t)))[i]? = some v → CU[t + i]? = some v := by
            intro i v hv
            have hi : i < en - t := by
              have := ins_get hv; rw [List.length_take, List.length_drop] at this; omega
            have e1 : (CU.take n)[t + i]? = some v := by
              rw [HTK.out]
              rw [← ins_take, ← ins_drop, List.getElem?_take_of_lt hi, List.getElem?_drop] at hv
              exact hv
            rw [List.getElem?_take_of_lt (by omega)] at e1
            exact e1
          refine txt_copy rfl rfl (.tmp 37) (.tmp 51) 26 26 rfl 3 Try.underlying26 (by kernel_rfl) (some ⟨g, t, none⟩) a3 (en - t) (oc - t) (tr - t + (en - tr)) c3 rfl rfl g t CU 3 hg3 (ins ((l.drop t).take (en - t))) (by rw [hcl3]; show _ = min _ _; omega) ?_ (by rw [hcl3, HCS.out]; omega) (ins_one _) w.heap.size w hbq3 hbg ?_
          · intro h0
            refine ⟨rfl, ?_⟩
            obtain ⟨b4, o4, rfl, -, -⟩ := hr3.at (i := 0) (v := (ins ((l.drop t).take (en - t)))[0]) (List.getElem?_eq_getElem h0)
            refine ⟨_, rfl, fun j v hv => ?_⟩
            obtain ⟨b5, o5, he5, hc5, -⟩ := hr3.at hv
            cases he5
            have e4 : (⟨b4, o4, none⟩ : Addr).add j = ⟨b4, o4 + j, none⟩ := by
              by_cases h : j = 0 <;> simp [Addr.add, h]
            rw [e4]; exact hc5
          · intro w4 hg4 hb4
            refine ⟨hb4, ?_⟩
            try simp only [Act.put, List.setIfInBounds_toArray, List.set_cons_zero, List.set_cons_succ]
            refine txt_nil ?_
            rw [splice_self CU t _ hcu (by rw [hcl3, HCS.out]; omega)] at hg4
            go_wp2
            exact ⟨⟨t + 2 * r, by omega, val_int (by omega), hg4, hb4⟩, by simp [intOf]; omega⟩
        · have hlt2' : ¬ (t : Int) + (r : Int) < (n : Int) := by omega
          go_wp2
          refine ⟨⟨2 * r, by omega, by omega, val_int (by omega), ⟨by rw [ins_len, HN.out], .inr ⟨g, oc, CU.toArray, rfl, hbg, hgi.out, hnc, hcm, by simpa using HCS.out, by simpa using HTK.out⟩⟩, hbi⟩, by simp [intOf]; omega⟩
    · have hlt' : ¬ (r : Int) < (n : Int) := by omega
      go_wp2
      go_ret
      exact ⟨_, rfl, ho2, hb2⟩
end Go.Proofs.Ytmmhkageehlknaa
