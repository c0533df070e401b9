/-
  ring.Turned.
-/
import Derived.Test.YtebplobagmjfeaaZrev
import Derived.Test.YtebplobagmjfeaaTurnp
import Derived.Test.YtebplobagmjfeaaOwnSet
set_option linter.unusedVariables false
set_option linter.unusedSimpArgs false
set_option maxRecDepth 100000
namespace Go.Proofs.Ytebplobagmjfeaa
open Go.RowKit
set_option maxHeartbeats 1600000 in
theorem turned_any (a : Option Addr) (c : Nat) (L : List Pt) (hlen : L.length ≤ 1000000) (w : World) (hr : Rd w a (pts L)) (hc : a = none → c = 0) :
    Calls Try.prog 23 #[.slice a L.length c] w fun e w' => ∃ v, e = .returned v ∧ w'.ownsRow w.heap.size 37 2 v L.length (pts (turnedP L)) ∧ Below w.heap.size w w' := by
  have HCL := Lib.hid (cloneP_any a c L hlen w hr hc)
  obtain ⟨n, hn⟩ : ∃ n, L.length = n := ⟨_, rfl⟩
  have HN := Lib.hid hn
  rw [hn] at HCL hlen ⊢
  clear hr hn hc
  go_enter Try.func23, Try.ntmps23
  go_wp2_with fail
  refine HCL.out.mono ?_
  rintro e w1 ⟨v, rfl, ho, hb⟩
  obtain ⟨va, vc, rfl, hnc, hvm, hvn, -, -⟩ := ho.form
  have HO := Lib.hid ho
  clear ho HCL
  by_cases h1 : 1 < n
  · have h1' : (1 : Int) < (n : Int) := by omega
    have hva : ∃ g, va = some ⟨g, 0, none⟩ := by
      obtain ⟨-, h | ⟨g, cap, cur, h, -⟩⟩ := HO.out
      · omega
      · cases h; exact ⟨g, rfl⟩
    obtain ⟨g, rfl⟩ := hva
    obtain ⟨cur, hg, -, -, hcs, htk, -, hbg⟩ := ownsRow_cur HO.out
    obtain ⟨p, l, hpl⟩ : ∃ p l, L = p :: l := by
      cases L with
      | nil => have := HN.out; simp at this; omega
      | cons p l => exact ⟨p, l, rfl⟩
    subst hpl
    have hl : l.length = n - 1 := by have := HN.out; simp at this; omega
    have hcur : w1.heap[g]? = some (.cells (pts (p :: l) ++ cur.toList.drop (n * 2)).toArray 37 (0, 0)) := by
      rw [hg, ← htk, List.take_append_drop]
    have HREV := Lib.hid (reverse_any g 1 (n - 1) (vc - 1) (p :: l) (cur.toList.drop (n * 2)) (by rw [HN.out]; omega) (by rw [HN.out]; exact hlen) w1 hcur)
    have hcs2 : (cur.toList.drop (n * 2)).length = (vc - n) * 2 := by rw [List.length_drop, Array.length_toList, hcs]; omega
    generalize cur.toList.drop (n * 2) = TL at *
    have hone : (1 : Int) ≤ (n : Int) := by omega
    have hcone : (1 : Int) ≤ (vc : Int) := by omega
    have hvc1 : ¬ vc = 1 := by omega
    clear hcur hg hcs htk
    go_wp2_with fail
    refine HREV.out.mono ?_
    rintro e w2 ⟨rfl, ⟨t, h2t, hnt, hg2⟩, hgr⟩
    rw [← hl] at h2t hnt hg2
    rw [swpR_turned p l t hnt h2t] at hg2
    have hlen2 : (pts (p :: l.reverse)).length = n * 2 := by rw [pts_len, List.length_cons, List.length_reverse, hl]; omega
    have ho2 : Hid (w2.ownsRow w.heap.size 37 2 (.slice (some ⟨g, 0, none⟩) n vc) n (pts (turnedP (p :: l)))) := Lib.hid (by
      refine ⟨hlen2, .inr ⟨g, vc, (pts (p :: l.reverse) ++ TL).toArray, rfl, hbg, hg2, hnc, hvm, ?_, ?_⟩⟩
      · rw [List.size_toArray, List.length_append, hlen2, hcs2]; omega
      · rw [← hlen2]; simp; rfl)
    have hb2 := hb.grown hgr hb.size (fun k e => by cases e; exact hbg)
    clear hg2 hgr HREV HO hlen2
    go_wp2
    go_ret
    exact ⟨_, rfl, ho2.out, hb2⟩
  · have h1' : ¬ (1 : Int) < (n : Int) := by omega
    have ht : Hid (turnedP L = L) := Lib.hid (by
      cases L with
      | nil => rfl
      | cons p l =>
        cases l with
        | nil => rfl
        | cons q l => have := HN.out; simp at this; omega)
    go_wp2
    go_ret
    exact ⟨_, rfl, by rw [ht.out]; exact HO.out, hb⟩
end Go.Proofs.Ytebplobagmjfeaa
