/-
  order.sorted, of numbers that are in order already. order.Uniq, of numbers that are in order already. order.sorted, order.Uniq, of any numbers.
-/
import Derived.Test.YtccamjnomjcchaaPk14
import Derived.Test.YtccamjnomjcchaaShelf
import Derived.Lib.SlBuf
import Derived.Test.YtccamjnomjcchaaPk16
/- order.sorted, of numbers that are in order already. -/
set_option linter.unusedVariables false
set_option linter.unusedSimpArgs false
set_option maxRecDepth 100000
namespace Go
open Go.RowKit
theorem ins_take (l : List Int) (k : Nat) : (ins l).take k = ins (l.take k) := by simp [ins]
theorem ins_drop (l : List Int) (k : Nat) : (ins l).drop k = ins (l.drop k) := by simp [ins]
theorem pw_mid {l : List Int} (h : l.Pairwise (· ≤ ·)) (i j k : Nat) : ∀ x ∈ (l.drop i).take j, ∀ y ∈ (l.drop (i + j)).take k, x ≤ y := by
  intro x hx y hy; have h1 : (l.drop i).Pairwise (· ≤ ·) := h.sublist (List.drop_sublist i l); rw [← List.take_append_drop j (l.drop i)] at h1; rw [List.pairwise_append] at h1; refine h1.2.2 x hx y ?_; rw [List.drop_drop]; exact List.mem_of_mem_take hy
theorem ins_get {l : List Int} {i : Nat} {v : Value} (h : (ins l)[i]? = some v) : i < l.length := by
  by_cases q : i < l.length
  · exact q
  · rw [List.getElem?_eq_none (by simp [ins]; omega)] at h; cases h
theorem splice_self (cur : List Value) (off : Nat) (cs : List Value) (h : ∀ i v, cs[i]? = some v → cur[off + i]? = some v) (hf : off + cs.length ≤ cur.length) : splice cur off cs = cur := by
  unfold splice; apply List.ext_getElem?; intro i
  by_cases h1 : i < off
  · rw [List.getElem?_append_left (by simp; omega), List.getElem?_take_of_lt h1]
  · by_cases h2 : i < off + cs.length
    · rw [List.getElem?_append_right (by simp; omega), List.getElem?_append_left (by simp; omega)]; have e : i - (cur.take off).length = i - off := by rw [List.length_take]; omega
      rw [e]; have hv : cs[i - off]? = some cs[i - off] := List.getElem?_eq_getElem (by omega); rw [hv, ← h (i - off) _ hv]
      congr 1; omega
    · rw [List.getElem?_append_right (by simp; omega), List.getElem?_append_right (by simp; omega), List.getElem?_drop]
      congr 1; simp; omega
end Go
namespace Go.Proofs.Ytccamjnomjcchaa
open Go.RowKit

theorem cloneI_any (a : Option Addr) (c : Nat) (l : List Int) (hn : l.length ≤ 1000000) (w : World) (hr : Rd w a (ins l)) :
    Calls Try.prog 101 #[.slice a l.length c] w fun e w' => ∃ v, e = .returned v ∧ w'.ownsRow w.heap.size 3 1 v l.length (ins l) ∧ Below w.heap.size w w' := by
  cases a with
  | none =>
    refine (Try.slices_Clone_int_nil l.length c w).mono ?_; rintro e w' ⟨rfl, rfl⟩; have h0 : l = [] := by
      rcases hr with h | ⟨_, _, h, _⟩
      · simpa [ins] using h
      · cases h
    subst h0; exact ⟨_, rfl, World.ownsRow_nil _ _ _ _, Below.refl _ _⟩
  | some ad =>
    by_cases h0 : l = []
    · subst h0; refine (Try.slices_Clone_int_zero ad c w).mono ?_; rintro e w' ⟨v, rfl, h, -, hb⟩; exact ⟨v, rfl, h, hb⟩
    rcases hr with h | ⟨b, off, ha, hc⟩
    · exact absurd (by simpa [ins] using h) h0
    · cases ha
      refine (Try.slices_Clone_int b off l.length c l w (Nat.le_refl _) (by omega) ?_).mono ?_
      · intro j hj; exact hc j _ (by simp [ins, List.getD_eq_getElem?_getD, hj])
      · rintro e w' ⟨v, rfl, h, -, hb⟩; rw [List.take_length] at h; exact ⟨v, rfl, h, hb⟩

set_option maxHeartbeats 6400000 in
theorem sorted_any (a : Option Addr) (c : Nat) (l : List Int) (hp : l.Pairwise (· ≤ ·)) (hn : l.length ≤ 10000) (w : World) (hr : Rd w a (ins l)) :
    Calls Try.prog 75 #[.slice a l.length c, .func (.func 76) #[] #[]] w fun e w' => ∃ v, e = .returned v ∧ w'.ownsRow w.heap.size 3 1 v l.length (ins l) ∧ Below w.heap.size w w' := by
  have HP := Lib.hid hp; clear hp; have hcl := cloneI_any a c l (by omega) w hr; obtain ⟨n, hnl⟩ : ∃ n, l.length = n := ⟨_, rfl⟩; have HN := Lib.hid hnl; rw [hnl] at hcl hn ⊢; clear hnl
  go_enter Try.func75, Try.ntmps75
  go_wp2_with fail
  refine hcl.mono ?_; rintro e w1 ⟨v, rfl, ho, hb⟩; obtain ⟨oa, oc, rfl, -, -, -, -, -⟩ := ho.form; go_wp2
  go_loopw [6] (fun o wr => ∃ (r : Nat), 1 ≤ r ∧ r ≤ 20000 ∧ o = .int .i64 r ∧ wr.ownsRow w.heap.size 3 1 (.slice oa n oc) n (ins l) ∧ Below w.heap.size w wr) (fun o _ => 20000 - (intOf o).toNat)
  case atStart => exact ⟨1, by omega, by omega, rfl, ho, hb⟩
  case round =>
    obtain ⟨r, hr1, hr2, rfl, ho2, hb2⟩ := hrel
    by_cases hlt : r < n
    · have hlt' : (r : Int) < (n : Int) := by omega
      have HO2 := Lib.hid ho2; obtain ⟨h1, h2⟩ := ho2
      rcases h2 with ⟨-, h0⟩ | ⟨g, cap, cur, hv, hbg, hg, hnc, hcm, hcs, htk⟩
      · omega
      obtain ⟨rfl, -, rfl⟩ : oa = some ⟨g, 0, none⟩ ∧ n = n ∧ oc = cap := by
        injection hv with q1 q2 q3; exact ⟨q1, q2, q3⟩
      clear hv; obtain ⟨CU, rfl⟩ : ∃ CU : List Value, cur = CU.toArray := ⟨cur.toList, by simp⟩; have HCS : Hid (CU.length = oc) := Lib.hid (by simpa using hcs); have HTK : Hid (CU.take n = ins l) := Lib.hid (by simpa using htk); have HG := Lib.hid hg; clear hcs htk h1 hg; go_wp2
      go_loopw [7] (fun o wi => ∃ (t : Nat), t ≤ n + r ∧ o = .int .i64 t ∧ Hid (wi.heap[g]? = some (.cells CU.toArray 3 (0, 0))) ∧ Below w.heap.size w wi) (fun o _ => 40000 - (intOf o).toNat)
      case atStart => exact ⟨0, by omega, rfl, HG, hb2⟩
      case round =>
        obtain ⟨t, ht, rfl, hgi, hbi⟩ := hrel
        by_cases hlt2 : t + r < n
        · have hlt2' : (t : Int) + (r : Int) < (n : Int) := by omega
          obtain ⟨en, hen⟩ : ∃ en : Nat, en = min (t + 2 * r) n := ⟨_, rfl⟩; have hen1 : min ((t : Int) + 2 * (r : Int)) (n : Int) = (en : Int) := by omega
          have hA : t + r < en := by omega
          have hB : en ≤ n := by omega
          have hC : en ≤ t + 2 * r := by omega
          clear hen; go_wp2; have hgq : Hid (wr.drew.heap[g]? = some (.cells CU.toArray 3 (0, 0))) := hgi; have hbq := hbi.drew; refine wp_region_lit_txt [0, 1, 2, 3, 4, 5, 6, 7, 8, 9, 10, 11, 12, 13, 14, 15, 16] (fun W => Below w.heap.size w W) (by kernel_rfl) (by kernel_rfl) (by kernel_rfl) hbq ?_; generalize wr.drew = wa at *; obtain ⟨tr, htr⟩ : ∃ tr, tr = t + r := ⟨_, rfl⟩; have hw : IntKind.i64.wrap ((t : Int) + (r : Int)) = (tr : Int) := by rw [IntWalk.i64_in _ (by omega)]; omega
          have f1 : en ≤ oc := by omega
          have f2 : t ≤ en := by omega
          have f3 : ¬ oc = t := by omega
          have f4 : tr ≤ oc := by omega
          have f5 : t ≤ tr := by omega
          have f6 : ¬ oc = tr := by omega
          have f7 : tr ≤ en := by omega
          have HTR := Lib.hid htr; clear htr
          iterate 17 ((refine txt_light ?_ rfl rfl ?_ ?_; rotate_left; · (intro w' hS; (try dsimp only at hS); go_simp; with_reducible rfl)); try simp only [Act.put, List.setIfInBounds_toArray, List.set_cons_zero, List.set_cons_succ])
          have hln := HN.out; have hrd : Rd wa (some ⟨g, 0, none⟩) (ins l) := Rd.of_owns (size := 1) (n := n) (c := oc) (m := n) ⟨by rw [ins_len, HN.out], .inr ⟨g, oc, CU.toArray, rfl, hbg, hgq.out, hnc, hcm, by simpa using HCS.out, by simpa using HTK.out⟩⟩; have hg1 : g < wa.heap.size := (Array.getElem?_eq_some_iff.1 hgq.out).1; have hra : Rd wa (some ⟨g, t, none⟩) (ins ((l.drop t).take r)) := by
            have := (hrd.drop t).take r; rw [ins_drop, ins_take, Nat.zero_add] at this; exact this
          have hrb : Rd wa (some ⟨g, tr, none⟩) (ins ((l.drop tr).take (en - tr))) := by
            have := (hrd.drop tr).take (en - tr); rw [ins_drop, ins_take, Nat.zero_add] at this; exact this
          have hal : ((l.drop t).take r).length = tr - t := by rw [List.length_take, List.length_drop, hln, HTR.out]; omega
          have hbl : ((l.drop tr).take (en - tr)).length = en - tr := by rw [List.length_take, List.length_drop, hln]; omega
          have hmg := merged_any (some ⟨g, t, none⟩) (some ⟨g, tr, none⟩) (oc - t) (oc - tr) ((l.drop t).take r) ((l.drop tr).take (en - tr)) (by rw [HTR.out]; exact pw_mid HP.out t r _) (by omega) (by omega) (by omega) (fun h => by cases h) (fun h => by cases h) wa hra hrb; have hap : (l.drop t).take r ++ (l.drop tr).take (en - tr) = (l.drop t).take (en - t) := by
            have e1 : l.drop tr = (l.drop t).drop r := by rw [List.drop_drop, HTR.out]
            rw [e1, ← List.take_add]; congr 1; have := HTR.out; omega
          rw [hal, hbl, hap] at hmg; refine txt_call [.slice (some ⟨g, t, none⟩) (tr - t) (oc - t), .slice (some ⟨g, tr, none⟩) (en - tr) (oc - tr), .func (.func 76) #[] #[]] Try.f102 rfl rfl Try.func102 (by kernel_rfl) (by kernel_rfl) rfl (hmg.mono ?_); rintro e w3 ⟨v3, rfl, ho3, hb3⟩; have hbq3 : Below w.heap.size w w3 := hbq.trans (hb3.mono hbq.size); refine ⟨v3, rfl, hbq3, ?_⟩
          try simp only [Act.put, List.setIfInBounds_toArray, List.set_cons_zero, List.set_cons_succ]
          obtain ⟨a3, c3, rfl, -, -, -, hr3, -⟩ := ho3.form; have hg3 : w3.heap[g]? = some (.cells CU.toArray 3 (0, 0)) := (hb3.block g hg1).trans hgq.out; have hcl3 : (ins ((l.drop t).take (en - t))).length = en - t := by simp [ins, hln]; omega
          have hcu : ∀ i v, (ins ((l.drop t).take (en - t)))[i]? = some v → CU[t + i]? = some v := by
            intro i v hv; have hi : i < en - t := by
              have := ins_get hv; rw [List.length_take, List.length_drop] at this; omega
            have e1 : (CU.take n)[t + i]? = some v := by
              rw [HTK.out]; rw [← ins_take, ← ins_drop, List.getElem?_take_of_lt hi, List.getElem?_drop] at hv; exact hv
            rw [List.getElem?_take_of_lt (by omega)] at e1; exact e1
          refine txt_copy rfl rfl (.tmp 37) (.tmp 51) 43 43 rfl 3 Try.underlying43 (by kernel_rfl) (some ⟨g, t, none⟩) a3 (en - t) (oc - t) (tr - t + (en - tr)) c3 rfl rfl g t CU 3 hg3 (ins ((l.drop t).take (en - t))) (by rw [hcl3]; show _ = min _ _; omega) ?_ (by rw [hcl3, HCS.out]; omega) (ins_one _) w.heap.size w hbq3 hbg ?_
          · intro h0; refine ⟨rfl, ?_⟩; obtain ⟨b4, o4, rfl, -, -⟩ := hr3.at (i := 0) (v := (ins ((l.drop t).take (en - t)))[0]) (List.getElem?_eq_getElem h0); refine ⟨_, rfl, fun j v hv => ?_⟩; obtain ⟨b5, o5, he5, hc5, -⟩ := hr3.at hv
            cases he5
            have e4 : (⟨b4, o4, none⟩ : Addr).add j = ⟨b4, o4 + j, none⟩ := by
              by_cases h : j = 0 <;> simp [Addr.add, h]
            rw [e4]; exact hc5
          · intro w4 hg4 hb4; refine ⟨hb4, ?_⟩
            try simp only [Act.put, List.setIfInBounds_toArray, List.set_cons_zero, List.set_cons_succ]
            refine txt_nil ?_; rw [splice_self CU t _ hcu (by rw [hcl3, HCS.out]; omega)] at hg4; go_wp2; exact ⟨⟨t + 2 * r, by omega, val_int (by omega), hg4, hb4⟩, by simp [intOf]; omega⟩
        · have hlt2' : ¬ (t : Int) + (r : Int) < (n : Int) := by omega
          go_wp2; refine ⟨⟨2 * r, by omega, by omega, val_int (by omega), ⟨by rw [ins_len, HN.out], .inr ⟨g, oc, CU.toArray, rfl, hbg, hgi.out, hnc, hcm, by simpa using HCS.out, by simpa using HTK.out⟩⟩, hbi⟩, by simp [intOf]; omega⟩
    · have hlt' : ¬ (r : Int) < (n : Int) := by omega
      go_wp2; go_ret; exact ⟨_, rfl, ho2, hb2⟩
end Go.Proofs.Ytccamjnomjcchaa
/- order.Uniq, of numbers that are in order already. -/
set_option linter.unusedVariables false
set_option linter.unusedSimpArgs false
set_option maxRecDepth 100000
namespace Go
open Go.RowKit
theorem heap_setCells (b : Nat) (T : TypeId) : ∀ (vs : List Value) (o : Nat) (w : World) (cur : List Value), w.heap[b]? = some (.cells cur.toArray T (0, 0)) → o + vs.length ≤ cur.length →
    ∃ c2 : List Value, (w.setCells b o vs).heap[b]? = some (.cells c2.toArray T (0, 0)) ∧ c2 = cur.take o ++ vs ++ cur.drop (o + vs.length)
  | [], o, w, cur, h, hl => ⟨cur, h, by simp⟩
  | v :: vs, o, w, cur, h, hl => by
    have h1 : (w.setCell ⟨b, o, none⟩ v).heap[b]? = some (.cells (cur.set o v).toArray T (0, 0)) := by
      simp [World.setCell, Array.getElem?_modify, h]
    obtain ⟨c2, h2, h3⟩ := heap_setCells b T vs (o + 1) (w.setCell ⟨b, o, none⟩ v) (cur.set o v) h1 (by simp at hl ⊢; omega); refine ⟨c2, h2, h3.trans ?_⟩; have ho : o < cur.length := by simp at hl; omega
    have e1 : (cur.set o v).take (o + 1) = cur.take o ++ [v] := by
      rw [List.take_succ_eq_append_getElem (by simp; exact ho)]; rw [List.take_set, List.set_eq_of_length_le (by rw [List.length_take]; omega)]; simp
    have e2 : (cur.set o v).drop (o + 1 + vs.length) = cur.drop (o + (v :: vs).length) := by
      rw [List.drop_set_of_lt (by omega)]; congr 1; simp; omega
    rw [e1, e2]; simp
end Go
namespace Go.Proofs.Ytccamjnomjcchaa
open Go.RowKit

theorem compactI_any (n : Nat) (v : Value) (l : List Int) (hn : l.length ≤ 10000) (w : World) (base : Nat) (ho : w.ownsRow base 3 1 v l.length (ins l)) :
    Calls Try.prog 74 #[v] w fun e w' => ∃ v, e = .returned v ∧ w'.ownsRow base 3 1 v (Lib.compact l).length (ins (Lib.compact l)) ∧ Below base w w' := by
  have h' := ho; obtain ⟨h1, h2⟩ := ho
  rcases h2 with ⟨rfl, h0⟩ | ⟨g, cap, cur, rfl, hbg, hg, hnc, hcm, hcs, htk⟩
  · have hl : l = [] := List.length_eq_zero_iff.1 h0; subst hl; refine (Try.slices_Compact_int_empty none 0 w).mono ?_; rintro e w' ⟨rfl, rfl⟩; exact ⟨_, rfl, World.ownsRow_nil _ _ _ _, Below.refl _ _⟩
  · obtain ⟨CU, rfl⟩ : ∃ CU : List Value, cur = CU.toArray := ⟨cur.toList, by simp⟩; have hblk : Blk w g CU := ⟨_, hg⟩; have hcl : CU.length = cap := by simpa using hcs
    have htk' : CU.take l.length = ins l := by simpa using htk
    refine (Try.slices_Compact_int_cells g 0 l.length cap l w (Nat.le_refl _) (by omega) hnc ?_ ?_).mono ?_
    · intro j hj; refine hblk.cell (0 + j) ?_; have e1 : (CU.take l.length)[j]? = some (.int .i64 (l.getD j 0)) := by rw [htk']; simp [ins, List.getD_eq_getElem?_getD, hj]
      rw [List.getElem?_take_of_lt hj] at e1; rw [Nat.zero_add]; exact e1
    · intro j hj; exact hblk.free _
    · rintro e w' ⟨rfl, q, rfl⟩; rw [List.take_length]; have hle := Lib.compact_length_le l; generalize Lib.compact l = C at *; obtain ⟨c2, hg2, hc2⟩ := heap_setCells g 3 ((C ++ List.replicate (l.length - C.length) 0).map (Value.int .i64)) 0 (w.drewN q) CU hg (by simp; omega); have hlen : c2.length = cap := by rw [hc2]; simp; omega
      refine ⟨_, rfl, ⟨ins_len _, .inr ⟨g, cap, c2.toArray, rfl, hbg, hg2, by omega, hcm, by simp [hlen], ?_⟩⟩, ?_⟩
      · rw [hc2]; simp [ins, List.take_append]
      · exact Lib.below_setCells g hbg _ _ (below_drewN (Below.refl _ _) q)

set_option maxHeartbeats 800000 in
theorem uniq_any (a : Option Addr) (c : Nat) (l : List Int) (hp : l.Pairwise (· ≤ ·)) (hn : l.length ≤ 10000) (w : World) (hr : Rd w a (ins l)) :
    Calls Try.prog 45 #[.slice a l.length c] w fun e w' => ∃ v, e = .returned v ∧ w'.ownsRow w.heap.size 3 1 v (Lib.compact l).length (ins (Lib.compact l)) ∧ Below w.heap.size w w' := by
  have hs := sorted_any a c l hp hn w hr; have hc := fun v w1 h => compactI_any 0 v l hn w1 w.heap.size h; generalize Lib.compact l = C at *; clear hp hr
  go_enter Try.func45, Try.ntmps45
  go_wp2_with fail
  refine hs.mono ?_; rintro e w1 ⟨v, rfl, ho, hb⟩
  go_wp2_with fail
  refine (hc v w1 ho).mono ?_; rintro e w2 ⟨v2, rfl, ho2, hb2⟩; go_wp2; go_ret; exact ⟨_, rfl, ho2, hb.trans hb2⟩
end Go.Proofs.Ytccamjnomjcchaa
/- order.sorted, order.Uniq, of any numbers. -/
set_option linter.unusedVariables false
set_option linter.unusedSimpArgs false
set_option maxRecDepth 100000
namespace Go
open Go.RowKit
def SortIn (C : List Int) (r lo : Nat) : Prop := ∀ s, lo ≤ s → r ∣ s → ((C.drop s).take r).Pairwise (· ≤ ·)
def SortTo (C : List Int) (q hi : Nat) : Prop := ∀ s, s < hi → q ∣ s → ((C.drop s).take q).Pairwise (· ≤ ·)
theorem sortIn_one (C : List Int) : SortIn C 1 0 := by
  intro s _ _
  cases C.drop s with
  | nil => simp
  | cons x l => simp
theorem sort_step {C : List Int} {r t n en : Nat} (hr : 0 < r) (hn : C.length = n) (ht : 2 * r ∣ t) (htn : t + r < n) (hen : en = min (t + 2 * r) n) (h1 : SortTo C (2 * r) t) (h2 : SortIn C r t) :
    SortTo (C.take t ++ mergeF ((C.drop t).take r) ((C.drop (t + r)).take (en - (t + r))) ++ C.drop en) (2 * r) (t + 2 * r) ∧ SortIn (C.take t ++ mergeF ((C.drop t).take r) ((C.drop (t + r)).take (en - (t + r))) ++ C.drop en) r (t + 2 * r) := by
  have hrt : r ∣ t := Nat.dvd_trans ⟨2, by omega⟩ ht; have hA := h2 t (Nat.le_refl _) hrt; have hB0 := h2 (t + r) (by omega) ((Nat.dvd_add_right hrt).2 (Nat.dvd_refl r)); have hB : ((C.drop (t + r)).take (en - (t + r))).Pairwise (· ≤ ·) := by
    have e : ((C.drop (t + r)).take (en - (t + r))) = ((C.drop (t + r)).take r).take (en - (t + r)) := by rw [List.take_take]; congr 1; omega
    rw [e]; exact hB0.sublist (List.take_sublist _ _)
  have hM := mergeF_sorted _ _ hA hB; have hML : (mergeF ((C.drop t).take r) ((C.drop (t + r)).take (en - (t + r)))).length = en - t := by
    rw [mergeF_len, List.length_take, List.length_take, List.length_drop, List.length_drop]; omega
  generalize mergeF ((C.drop t).take r) ((C.drop (t + r)).take (en - (t + r))) = M at *; have hTL : (C.take t).length = t := by rw [List.length_take]; omega
  have hPL : (C.take t ++ M).length = en := by rw [List.length_append, hTL, hML]; omega
  constructor
  · intro s hs hq
    by_cases hst : s < t
    · have hle : s + 2 * r ≤ t := by
        obtain ⟨a, rfl⟩ := hq; obtain ⟨b, rfl⟩ := ht; have : a < b := Nat.lt_of_mul_lt_mul_left hst; have : 2 * r * (a + 1) ≤ 2 * r * b := Nat.mul_le_mul_left _ this; rw [Nat.mul_add, Nat.mul_one] at this; exact this
      have e : ((C.take t ++ M ++ C.drop en).drop s).take (2 * r) = (C.drop s).take (2 * r) := by
        rw [List.append_assoc, List.drop_append_of_le_length (by omega), List.take_append_of_le_length (by rw [List.length_drop]; omega)]; rw [List.drop_take, List.take_take]
        congr 1; omega
      rw [e]; exact h1 s hst hq
    · have hse : s = t := by
        obtain ⟨a, rfl⟩ := hq; obtain ⟨b, rfl⟩ := ht; have h3 : b ≤ a := Nat.le_of_mul_le_mul_left (by omega : 2 * r * b ≤ 2 * r * a) (by omega); have h4 : a < b + 1 := Nat.lt_of_mul_lt_mul_left (a := 2 * r) (by rw [Nat.mul_add, Nat.mul_one]; exact hs); have : a = b := by omega
        rw [this]
      subst hse; have e : ((C.take s ++ M ++ C.drop en).drop s).take (2 * r) = (M ++ C.drop en).take (2 * r) := by
        rw [List.append_assoc, List.drop_append_of_le_length (by omega)]; have : (C.take s).drop s = [] := List.drop_eq_nil_of_le (by omega); rw [this]; rfl
      rw [e]
      by_cases h5 : s + 2 * r ≤ n
      · rw [List.take_append_of_le_length (by omega)]; exact hM.sublist (List.take_sublist _ _)
      · have : C.drop en = [] := List.drop_eq_nil_of_le (by omega); rw [this, List.append_nil]; exact hM.sublist (List.take_sublist _ _)
  · intro s hs hq; have e : (C.take t ++ M ++ C.drop en).drop s = C.drop s := by
      rw [List.drop_append, hPL, List.drop_eq_nil_of_le (by omega : (C.take t ++ M).length ≤ s), List.nil_append, List.drop_drop]
      congr 1; omega
    rw [e]; exact h2 s (by omega) hq
theorem sort_end {C : List Int} {r t n : Nat} (hr : 0 < r) (hn : C.length = n) (ht : 2 * r ∣ t) (htn : n ≤ t + r) (h1 : SortTo C (2 * r) t) (h2 : SortIn C r t) : SortIn C (2 * r) 0 := by
  intro s _ hq
  by_cases hst : s < t
  · exact h1 s hst hq
  · by_cases hse : s = t
    · subst hse; have := h2 s (Nat.le_refl _) (Nat.dvd_trans ⟨2, by omega⟩ ht); rw [List.take_of_length_le (by rw [List.length_drop]; omega)] at this ⊢; exact this
    · have : C.drop s = [] := by
        apply List.drop_eq_nil_of_le; obtain ⟨a, rfl⟩ := hq; obtain ⟨b, rfl⟩ := ht; have h3 : b < a := Nat.lt_of_mul_lt_mul_left (a := 2 * r) (by omega); have : 2 * r * (b + 1) ≤ 2 * r * a := Nat.mul_le_mul_left _ h3; rw [Nat.mul_add, Nat.mul_one] at this; omega
      rw [this]; simp
theorem sort_perm {C : List Int} {r t n en : Nat} (hn : C.length = n) (htn : t + r < n) (hen : en = min (t + 2 * r) n) :
    (C.take t ++ mergeF ((C.drop t).take r) ((C.drop (t + r)).take (en - (t + r))) ++ C.drop en).Perm C := by
  have e : C = C.take t ++ ((C.drop t).take r ++ (C.drop (t + r)).take (en - (t + r))) ++ C.drop en := by
    have e1 : (C.drop t).take r ++ (C.drop (t + r)).take (en - (t + r)) = (C.drop t).take (en - t) := by
      rw [← List.drop_drop, ← List.take_add]; congr 1; omega
    rw [e1]; have e2 : C.drop en = (C.drop t).drop (en - t) := by rw [List.drop_drop]; congr 1; omega
    rw [e2, List.append_assoc, List.take_append_drop, List.take_append_drop]
  refine List.Perm.trans ?_ (List.Perm.of_eq e.symm); exact ((mergeF_perm _ _).append_left _).append_right _
end Go
namespace Go.Proofs.Ytccamjnomjcchaa
open Go.RowKit

set_option maxHeartbeats 6400000 in
theorem usorted_any (a : Option Addr) (c : Nat) (l : List Int) (hn : l.length ≤ 10000) (w : World) (hr : Rd w a (ins l)) :
    Calls Try.prog 75 #[.slice a l.length c, .func (.func 76) #[] #[]] w fun e w' => ∃ v, e = .returned v ∧ (∃ C : List Int, C.Perm l ∧ C.Pairwise (· ≤ ·) ∧ w'.ownsRow w.heap.size 3 1 v C.length (ins C)) ∧ Below w.heap.size w w' := by
  have hcl := cloneI_any a c l (by omega) w hr; obtain ⟨n, hnl⟩ : ∃ n, l.length = n := ⟨_, rfl⟩; have HN := Lib.hid hnl; rw [hnl] at hcl hn ⊢; clear hnl
  go_enter Try.func75, Try.ntmps75
  go_wp2_with fail
  refine hcl.mono ?_; rintro e w1 ⟨v, rfl, ho, hb⟩; obtain ⟨oa, oc, rfl, -, -, -, -, -⟩ := ho.form; go_wp2
  go_loopw [6] (fun o wr => ∃ (r : Nat) (C : List Int), 1 ≤ r ∧ r ≤ 20000 ∧ o = .int .i64 r ∧ Hid (C.Perm l) ∧ Hid (C.length = n) ∧ Hid (SortIn C r 0) ∧ wr.ownsRow w.heap.size 3 1 (.slice oa n oc) n (ins C) ∧ Below w.heap.size w wr) (fun o _ => 20000 - (intOf o).toNat)
  case atStart => exact ⟨1, l, by omega, by omega, rfl, Lib.hid (List.Perm.refl _), HN, Lib.hid (sortIn_one l), ho, hb⟩
  case round =>
    obtain ⟨r, C, hr1, hr2, rfl, HPC, HCN, HSI, ho2, hb2⟩ := hrel
    by_cases hlt : r < n
    · have hlt' : (r : Int) < (n : Int) := by omega
      have HO2 := Lib.hid ho2; obtain ⟨h1, h2⟩ := ho2
      rcases h2 with ⟨-, h0⟩ | ⟨g, cap, cur, hv, hbg, hg, hnc, hcm, hcs, htk⟩
      · omega
      obtain ⟨rfl, -, rfl⟩ : oa = some ⟨g, 0, none⟩ ∧ n = n ∧ oc = cap := by
        injection hv with q1 q2 q3; exact ⟨q1, q2, q3⟩
      clear hv; obtain ⟨CU, rfl⟩ : ∃ CU : List Value, cur = CU.toArray := ⟨cur.toList, by simp⟩; have HCS : Hid (CU.length = oc) := Lib.hid (by simpa using hcs); have HTK : Hid (CU.take n = ins C) := Lib.hid (by simpa using htk); have HG := Lib.hid hg; clear hcs htk h1 hg; go_wp2
      go_loopw [7] (fun o wi => ∃ (t : Nat) (C : List Int) (CU : List Value), t ≤ n + r ∧ o = .int .i64 t ∧ Hid (2 * r ∣ t) ∧ Hid (C.Perm l) ∧ Hid (C.length = n) ∧ Hid (SortTo C (2 * r) t) ∧ Hid (SortIn C r t) ∧ Hid (CU.length = oc) ∧ Hid (CU.take n = ins C) ∧ Hid (wi.heap[g]? = some (.cells CU.toArray 3 (0, 0))) ∧ Below w.heap.size w wi) (fun o _ => 40000 - (intOf o).toNat)
      case atStart => exact ⟨0, C, CU, by omega, rfl, Lib.hid (Nat.dvd_zero _), HPC, HCN, Lib.hid (fun s h => absurd h (by omega)), HSI, HCS, HTK, HG, hb2⟩
      case round =>
        clear HPC HCN HSI HCS HTK HG HO2; obtain ⟨t, C, CU, ht, rfl, HDV, HPC, HCN, HTO, HIN, HCS, HTK, hgi, hbi⟩ := hrel
        by_cases hlt2 : t + r < n
        · have hlt2' : (t : Int) + (r : Int) < (n : Int) := by omega
          obtain ⟨en, hen⟩ : ∃ en : Nat, en = min (t + 2 * r) n := ⟨_, rfl⟩; have hen1 : min ((t : Int) + 2 * (r : Int)) (n : Int) = (en : Int) := by omega
          have hA : t + r < en := by omega
          have hB : en ≤ n := by omega
          have hC : en ≤ t + 2 * r := by omega
          have HEN := Lib.hid hen; clear hen; go_wp2; have hgq : Hid (wr.drew.heap[g]? = some (.cells CU.toArray 3 (0, 0))) := hgi; have hbq := hbi.drew; refine wp_region_lit_txt [0, 1, 2, 3, 4, 5, 6, 7, 8, 9, 10, 11, 12, 13, 14, 15, 16] (fun W => Below w.heap.size w W) (by kernel_rfl) (by kernel_rfl) (by kernel_rfl) hbq ?_; generalize wr.drew = wa at *; obtain ⟨tr, htr⟩ : ∃ tr, tr = t + r := ⟨_, rfl⟩; have hw : IntKind.i64.wrap ((t : Int) + (r : Int)) = (tr : Int) := by rw [IntWalk.i64_in _ (by omega)]; omega
          have f1 : en ≤ oc := by omega
          have f2 : t ≤ en := by omega
          have f3 : ¬ oc = t := by omega
          have f4 : tr ≤ oc := by omega
          have f5 : t ≤ tr := by omega
          have f6 : ¬ oc = tr := by omega
          have f7 : tr ≤ en := by omega
          have HTR := Lib.hid htr; clear htr
          iterate 17 ((refine txt_light ?_ rfl rfl ?_ ?_; rotate_left; · (intro w' hS; (try dsimp only at hS); go_simp; with_reducible rfl)); try simp only [Act.put, List.setIfInBounds_toArray, List.set_cons_zero, List.set_cons_succ])
          have hln := HCN.out; have hrd : Rd wa (some ⟨g, 0, none⟩) (ins C) := Rd.of_owns (size := 1) (n := n) (c := oc) (m := n) ⟨by rw [ins_len, HCN.out], .inr ⟨g, oc, CU.toArray, rfl, hbg, hgq.out, hnc, hcm, by simpa using HCS.out, by simpa using HTK.out⟩⟩; have hg1 : g < wa.heap.size := (Array.getElem?_eq_some_iff.1 hgq.out).1; have hra : Rd wa (some ⟨g, t, none⟩) (ins ((C.drop t).take r)) := by
            have := (hrd.drop t).take r; rw [ins_drop, ins_take, Nat.zero_add] at this; exact this
          have hrb : Rd wa (some ⟨g, tr, none⟩) (ins ((C.drop tr).take (en - tr))) := by
            have := (hrd.drop tr).take (en - tr); rw [ins_drop, ins_take, Nat.zero_add] at this; exact this
          have hal : ((C.drop t).take r).length = tr - t := by rw [List.length_take, List.length_drop, hln, HTR.out]; omega
          have hbl : ((C.drop tr).take (en - tr)).length = en - tr := by rw [List.length_take, List.length_drop, hln]; omega
          have hmg := umerged_any (some ⟨g, t, none⟩) (some ⟨g, tr, none⟩) (oc - t) (oc - tr) ((C.drop t).take r) ((C.drop tr).take (en - tr)) (by omega) (by omega) (by omega) (fun h => by cases h) (fun h => by cases h) wa hra hrb; have hML : (mergeF ((C.drop t).take r) ((C.drop tr).take (en - tr))).length = en - t := by rw [mergeF_len, hal, hbl]; omega
          have HMD : Hid (mergeF ((C.drop t).take r) ((C.drop tr).take (en - tr)) = mergeF ((C.drop t).take r) ((C.drop (t + r)).take (en - (t + r)))) := Lib.hid (by rw [HTR.out]); rw [hal, hbl] at hmg; generalize mergeF ((C.drop t).take r) ((C.drop tr).take (en - tr)) = MM at *; refine txt_call [.slice (some ⟨g, t, none⟩) (tr - t) (oc - t), .slice (some ⟨g, tr, none⟩) (en - tr) (oc - tr), .func (.func 76) #[] #[]] Try.f102 rfl rfl Try.func102 (by kernel_rfl) (by kernel_rfl) rfl (hmg.mono ?_); rintro e w3 ⟨v3, rfl, ho3, hb3⟩; have hbq3 : Below w.heap.size w w3 := hbq.trans (hb3.mono hbq.size); refine ⟨v3, rfl, hbq3, ?_⟩
          try simp only [Act.put, List.setIfInBounds_toArray, List.set_cons_zero, List.set_cons_succ]
          obtain ⟨a3, c3, rfl, -, -, -, hr3, -⟩ := ho3.form; have hg3 : w3.heap[g]? = some (.cells CU.toArray 3 (0, 0)) := (hb3.block g hg1).trans hgq.out; have hcl3 : (ins MM).length = en - t := by rw [ins_len, hML]; omega
          refine txt_copy rfl rfl (.tmp 37) (.tmp 51) 43 43 rfl 3 Try.underlying43 (by kernel_rfl) (some ⟨g, t, none⟩) a3 (en - t) (oc - t) (tr - t + (en - tr)) c3 rfl rfl g t CU 3 hg3 (ins MM) (by rw [hcl3]; show _ = min _ _; omega) ?_ (by rw [hcl3, HCS.out]; omega) (ins_one _) w.heap.size w hbq3 hbg ?_
          · intro h0; refine ⟨rfl, ?_⟩; obtain ⟨b4, o4, rfl, -, -⟩ := hr3.at (i := 0) (v := (ins MM)[0]) (List.getElem?_eq_getElem h0); refine ⟨_, rfl, fun j v hv => ?_⟩; obtain ⟨b5, o5, he5, hc5, -⟩ := hr3.at hv
            cases he5
            have e4 : (⟨b4, o4, none⟩ : Addr).add j = ⟨b4, o4 + j, none⟩ := by
              by_cases h : j = 0 <;> simp [Addr.add, h]
            rw [e4]; exact hc5
          · intro w4 hg4 hb4; refine ⟨hb4, ?_⟩
            try simp only [Act.put, List.setIfInBounds_toArray, List.set_cons_zero, List.set_cons_succ]
            refine txt_nil ?_; rw [HMD.out] at hg4 hML hcl3; have hst := sort_step (C := C) (r := r) (t := t) (n := n) (en := en) (by omega) HCN.out HDV.out hlt2 HEN.out HTO.out HIN.out; have hpm := (sort_perm (C := C) (r := r) (t := t) (n := n) (en := en) HCN.out hlt2 HEN.out).trans HPC.out; have hln2 : (C.take t ++ mergeF ((C.drop t).take r) ((C.drop (t + r)).take (en - (t + r))) ++ C.drop en).length = n := by rw [hpm.length_eq, HN.out]
            have htk2 : (splice CU t (ins (mergeF ((C.drop t).take r) ((C.drop (t + r)).take (en - (t + r)))))).take n = ins (C.take t ++ mergeF ((C.drop t).take r) ((C.drop (t + r)).take (en - (t + r))) ++ C.drop en) := by
              have hCU := HTK.out; have hCl := HCS.out; generalize mergeF ((C.drop t).take r) ((C.drop (t + r)).take (en - (t + r))) = MM at *; have e1 : ins (C.take t ++ MM ++ C.drop en) = ins (C.take t) ++ ins MM ++ ins (C.drop en) := by simp [ins]
              rw [e1, ← ins_take, ← ins_drop, ← hCU, List.take_take, List.drop_take]; unfold splice; have e2 : (CU.take t ++ ins MM).length = en := by rw [List.length_append, List.length_take, hcl3]; omega
              rw [← List.append_assoc, List.take_append, e2, List.take_of_length_le (by rw [e2]; exact hB), hcl3]; have e3 : min t n = t := by omega
              have e4 : t + (en - t) = en := by omega
              rw [e3, e4]
            have hcl2 : (splice CU t (ins (mergeF ((C.drop t).take r) ((C.drop (t + r)).take (en - (t + r)))))).length = oc := by
              have hCl := HCS.out; unfold splice; rw [List.length_append, List.length_append, List.length_take, List.length_drop, hcl3]; omega
            have HSB : Hid (_ ∧ _) := Lib.hid hst; generalize C.take t ++ mergeF ((C.drop t).take r) ((C.drop (t + r)).take (en - (t + r))) ++ C.drop en = C2 at *; generalize splice CU t (ins (mergeF ((C.drop t).take r) ((C.drop (t + r)).take (en - (t + r))))) = CU2 at *; have HP2 := Lib.hid hpm; have HL2 := Lib.hid hln2; have HT2 := Lib.hid htk2; have HC2 := Lib.hid hcl2; have HG4 := Lib.hid hg4; have HDV2 : Hid (2 * r ∣ t + 2 * r) := Lib.hid ((Nat.dvd_add_right HDV.out).2 (Nat.dvd_refl _)); clear hst hpm hln2 htk2 hcl2 hg4 hML hcl3; go_wp2; exact ⟨⟨t + 2 * r, C2, CU2, by omega, val_int (by omega), HDV2, HP2, HL2, Lib.hid HSB.out.1, Lib.hid HSB.out.2, HC2, HT2, HG4, hb4⟩, by simp [intOf]; omega⟩
        · have hlt2' : ¬ (t : Int) + (r : Int) < (n : Int) := by omega
          have HSE := Lib.hid (sort_end (by omega) HCN.out HDV.out (by omega) HTO.out HIN.out); go_wp2; refine ⟨⟨2 * r, C, by omega, by omega, val_int (by omega), HPC, HCN, HSE, ⟨by rw [ins_len, HCN.out], .inr ⟨g, oc, CU.toArray, rfl, hbg, hgi.out, hnc, hcm, by simpa using HCS.out, by simpa using HTK.out⟩⟩, hbi⟩, by simp [intOf]; omega⟩
    · have hlt' : ¬ (r : Int) < (n : Int) := by omega
      have hso : C.Pairwise (· ≤ ·) := by
        have := HSI.out 0 (Nat.le_refl _) (Nat.dvd_zero _); rw [List.drop_zero, List.take_of_length_le (by rw [HCN.out]; omega)] at this; exact this
      rw [← HCN.out] at ho2; have HSO := Lib.hid hso; rw [HCN.out] at ho2; clear hso; go_wp2; refine bodyPost_ret (v := .slice oa n oc) (by simp [results, Try.results75, go_sem]) rfl ⟨_, rfl, ⟨C, HPC.out, HSO.out, by rw [HCN.out]; exact ho2⟩, hb2⟩
end Go.Proofs.Ytccamjnomjcchaa
namespace Go
open Go.RowKit
theorem mem_upTo (d : Array Int) (x : Int) : ∀ m, x ∈ Lib.compactUpTo d m ↔ ∃ j, j < m ∧ x = d[j]!
  | 0 => by simp [Lib.compactUpTo]
  | m + 1 => by
    rw [Lib.compactUpTo_succ, List.mem_append, mem_upTo d x m]; constructor
    · rintro (⟨j, hj, rfl⟩ | h)
      · exact ⟨j, by omega, rfl⟩
      · split at h
        · simp at h; exact ⟨m, by omega, h⟩
        · simp at h
    · rintro ⟨j, hj, rfl⟩
      by_cases hjm : j < m
      · exact .inl ⟨j, hjm, rfl⟩
      · obtain rfl : j = m := by omega
        by_cases hk : Lib.keeps d j = true
        · right; rw [if_pos hk]; simp
        · left
          have hj0 : 0 < j := by
            by_cases h : j = 0
            · subst h; simp [Lib.keeps] at hk
            · omega
          have : d[j]! = d[j - 1]! := by
            by_cases h : d[j]! = d[j - 1]!
            · exact h
            · exact absurd (Lib.keeps_pos h) hk
          exact ⟨j - 1, by omega, this⟩
theorem rising_upTo (d : Array Int) (n : Nat) (hs : ∀ i j, i ≤ j → j < n → d[i]! ≤ d[j]!) : ∀ m, m ≤ n → (Lib.compactUpTo d m).Pairwise (· < ·)
  | 0, _ => by simp [Lib.compactUpTo]
  | m + 1, hm => by
    rw [Lib.compactUpTo_succ, List.pairwise_append]; refine ⟨rising_upTo d n hs m (by omega), by split <;> simp, fun x hx y hy => ?_⟩
    split at hy
    · rename_i hk; simp at hy; subst hy; obtain ⟨j, hj, rfl⟩ := (mem_upTo d x m).1 hx; have h1 := hs j (m - 1) (by omega) (by omega); have h2 := hs (m - 1) m (by omega) (by omega); have h3 : d[m]! ≠ d[m - 1]! := fun h => by rw [Lib.keeps_neg (by omega) h] at hk; cases hk
      omega
    · simp at hy
theorem mem_compact (x : Int) (l : List Int) : x ∈ Lib.compact l ↔ x ∈ l := by
  unfold Lib.compact; rw [mem_upTo, List.mem_iff_getElem]; constructor
  · rintro ⟨j, hj, rfl⟩; exact ⟨j, hj, by simp [hj]⟩
  · rintro ⟨j, hj, rfl⟩; exact ⟨j, hj, by simp [hj]⟩
theorem compact_rising (l : List Int) (h : l.Pairwise (· ≤ ·)) : (Lib.compact l).Pairwise (· < ·) := by
  unfold Lib.compact; refine rising_upTo l.toArray l.length (fun i j hij hj => ?_) _ (Nat.le_refl _); have e1 : l.toArray[i]! = l[i] := by simp [Nat.lt_of_le_of_lt hij hj]
  have e2 : l.toArray[j]! = l[j] := by simp [hj]
  rw [e1, e2]
  by_cases e : i = j
  · subst e; exact Int.le_refl _
  · exact List.pairwise_iff_getElem.1 h i j _ _ (by omega)
theorem rising_ext : ∀ (a b : List Int), a.Pairwise (· < ·) → b.Pairwise (· < ·) → (∀ x, x ∈ a ↔ x ∈ b) → a = b
  | [], [], _, _, _ => rfl
  | [], y :: b, _, _, h => absurd ((h y).2 (by simp)) (by simp)
  | x :: a, [], _, _, h => absurd ((h x).1 (by simp)) (by simp)
  | x :: a, y :: b, ha, hb, h => by
    obtain ⟨ha1, ha2⟩ := List.pairwise_cons.1 ha; obtain ⟨hb1, hb2⟩ := List.pairwise_cons.1 hb; have hxy : x = y := by
      have h1 := (h x).1 (by simp); have h2 := (h y).2 (by simp)
      rcases List.mem_cons.1 h1 with e | h1
      · exact e
      · rcases List.mem_cons.1 h2 with e | h2
        · exact e.symm
        · have := hb1 x h1; have := ha1 y h2; omega
    subst hxy; rw [rising_ext a b ha2 hb2 (fun z => ?_)]; constructor
    · intro hz
      rcases List.mem_cons.1 ((h z).1 (by simp [hz])) with e | h1
      · have := ha1 z hz; omega
      · exact h1
    · intro hz
      rcases List.mem_cons.1 ((h z).2 (by simp [hz])) with e | h1
      · have := hb1 z hz; omega
      · exact h1
end Go
namespace Go.Proofs.Ytccamjnomjcchaa
open Go.RowKit
set_option maxHeartbeats 800000 in
theorem uuniq_any (a : Option Addr) (c : Nat) (l : List Int) (hn : l.length ≤ 10000) (w : World) (hr : Rd w a (ins l)) :
    Calls Try.prog 45 #[.slice a l.length c] w fun e w' => ∃ v, e = .returned v ∧ (∃ C : List Int, C.Pairwise (· < ·) ∧ (∀ x, x ∈ C ↔ x ∈ l) ∧ C.length ≤ l.length ∧ w'.ownsRow w.heap.size 3 1 v C.length (ins C)) ∧ Below w.heap.size w w' := by
  have hs := Lib.hid (usorted_any a c l hn w hr); have hc := Lib.hid (fun (l : List Int) hn v w1 h => compactI_any 0 v l hn w1 w.heap.size h); clear hr
  go_enter Try.func45, Try.ntmps45
  go_wp2_with fail
  refine hs.out.mono ?_; rintro e w1 ⟨v, rfl, ⟨C, hp, hso, ho⟩, hb⟩; have hrs := Lib.hid (compact_rising C hso); have hmm := Lib.hid (fun x => (mem_compact x C).trans hp.mem_iff); have hle := Lib.hid (Nat.le_trans (Lib.compact_length_le C) (Nat.le_of_eq hp.length_eq)); have hcc := Lib.hid (hc.out C (by rw [hp.length_eq]; exact hn) v w1 ho); generalize Lib.compact C = U at *; clear hp hso ho hn
  go_wp2_with fail
  refine hcc.out.mono ?_; rintro e w2 ⟨v2, rfl, ho2, hb2⟩; go_wp2; refine bodyPost_ret (v := v2) (by simp [results, Try.results45, go_sem]) rfl ⟨_, rfl, ⟨U, hrs.out, hmm.out, hle.out, ho2⟩, hb.trans hb2⟩
end Go.Proofs.Ytccamjnomjcchaa
