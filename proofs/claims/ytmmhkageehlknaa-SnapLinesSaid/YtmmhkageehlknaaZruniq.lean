/-
  graticuleref04.Uniq, of numbers in order.
-/
import Derived.Test.YtmmhkageehlknaaZref4
set_option linter.unusedVariables false
set_option linter.unusedSimpArgs false
set_option maxRecDepth 100000
namespace Go
open Go.RowKit Go.Lib
theorem owns_spot {w : World} {base : Nat} {e : TypeId} {size : Nat} {a : Option Addr} {n c m : Nat} {xs : List Value} (h : w.ownsRow base e size (.slice a n c) m xs) : ∀ ad, a = some ad → ad.spot = none := by
  obtain ⟨h1, h2⟩ := h
  rintro ad rfl
  rcases h2 with ⟨h2, _⟩ | ⟨g, cap, cur, h2, _⟩
  · cases h2
  · cases h2; rfl
end Go
namespace Go.Proofs.Ytmmhkageehlknaa
open Go.RowKit

theorem rfind_less (a : Option Addr) (c : Nat) (l : List Int) (n : Int) (hl : l.length ≤ 1000000) (hlt : ∀ y ∈ l, y < n) (w : World) (hr : Rd w a (ins l)) :
    Calls Try.prog 39 #[.slice a l.length c, .int .i64 n] w fun e w' => e = .returned (.tuple #[.int .i64 l.length, .bool false]) ∧ ∃ q, w' = w.drewN q := by
  refine (rfind_any a c l n hl w hr).mono ?_
  rintro e w' ⟨hq, k, hk, hj, h⟩
  rcases h with ⟨rfl, rfl⟩ | ⟨h1, h2, rfl⟩
  · exact ⟨rfl, hq⟩
  · have := hlt l[k]! (by rw [getElem!_pos l k h1]; exact List.getElem_mem h1)
    omega

theorem rfind_last (a : Option Addr) (c : Nat) (l Y : List Int) (n : Int) (hl : l.length ≤ 1000000) (hY : l = Y ++ [n]) (hlt : ∀ y ∈ Y, y < n) (w : World) (hr : Rd w a (ins l)) :
    Calls Try.prog 39 #[.slice a l.length c, .int .i64 n] w fun e w' => e = .returned (.tuple #[.int .i64 Y.length, .bool true]) ∧ ∃ q, w' = w.drewN q := by
  refine (rfind_any a c l n hl w hr).mono ?_
  rintro e w' ⟨hq, k, hk, hj, h⟩
  have hln : l.length = Y.length + 1 := by rw [hY]; simp
  have hlast : l[Y.length]! = n := by
    rw [getElem!_pos l Y.length (by omega)]
    simp [hY]
  rcases h with ⟨rfl, rfl⟩ | ⟨h1, h2, rfl⟩
  · have := hj Y.length (by omega); omega
  · by_cases q : k < Y.length
    · exfalso
      have e1 : l[k]! = Y[k] := by
        rw [getElem!_pos l k h1]
        simp [hY, List.getElem_append_left q]
      have := hlt Y[k] (List.getElem_mem q)
      omega
    · have hk2 : k = Y.length := by omega
      subst hk2
      refine ⟨?_, hq⟩
      rw [hlast]; simp

set_option maxHeartbeats 3200000 in
theorem runiq_any (a : Option Addr) (c : Nat) (l : List Int) (hp : l.Pairwise (· ≤ ·)) (hn : l.length ≤ 1000) (w : World) (hr : Rd w a (ins l)) :
    Calls Try.prog 24 #[.slice a l.length c] w fun e w' => ∃ v, e = .returned v ∧ w'.ownsRow w.heap.size 3 1 v (Lib.compact l).length (ins (Lib.compact l)) ∧ Below w.heap.size w w' := by
  obtain ⟨C, hC⟩ : ∃ C, Lib.compact l = C := ⟨_, rfl⟩
  rw [hC]
  have HC : Hid (Lib.compactUpTo l.toArray l.length = C) := Lib.hid hC
  clear hC
  obtain ⟨m, hm⟩ : ∃ m, l.length = m := ⟨_, rfl⟩
  have HNX := Lib.hid (cup_next hp)
  have HLE : Hid (∀ k, k ≤ l.length → (Lib.compactUpTo l.toArray k).length ≤ k) := Lib.hid (fun k _ => by
    unfold Lib.compactUpTo
    rw [List.length_map]
    exact Nat.le_trans (List.length_filter_le _ _) (by simp))
  rw [hm] at hn ⊢
  have HM := Lib.hid hm
  have HR := Lib.hid hr
  clear hp hr hm
  go_enter Try.func24, Try.ntmps24
  go_wp2
  go_loopw [3, 4] (fun o i wr => ∃ (k : Nat) (D : List Int), k ≤ m ∧ i = .int .i64 k ∧ Hid (Lib.compactUpTo l.toArray k = D) ∧ D.length ≤ k ∧ wr.ownsRow w.heap.size 3 1 o D.length (ins D) ∧ Below w.heap.size w wr) (fun _ i _ => m - (intOf i).toNat)
  case atStart => exact ⟨0, [], by omega, rfl, Lib.hid rfl, by simp, World.ownsRow_nil _ _ _ _, Below.refl _ _⟩
  case round =>
    obtain ⟨k, D, hk, rfl, HD, hdl, ho, hbb⟩ := hrel
    obtain ⟨oa, oc, rfl, hoc, -, hon, hro, -⟩ := ho.form
    have hsp := owns_spot ho
    by_cases hlt : k < m
    · have hlt2 : (k : Int) < (m : Int) := by omega
      have hkl : k < l.length := by rw [HM.out]; exact hlt
      obtain ⟨b, off, rfl, hc, -⟩ := (HR.out.keep hbb).at (i := k) (v := .int .i64 l[k]!) (by simp [ins, hkl])
      have HL : Hid ((Lib.compactUpTo l.toArray (k + 1)).length ≤ k + 1) := Lib.hid (HLE.out (k + 1) (by omega))
      have hnx := HNX.out k hkl
      generalize l[k]! = x at *
      rw [HD.out] at hnx
      rcases hnx with ⟨hs, hall⟩ | ⟨hs, Y, hY, hall⟩
      · have hfind := rfind_less oa oc D x (by omega) hall wr hro
        have HF := Lib.hid hfind
        have HS : Hid (Lib.compactUpTo l.toArray (k + 1) = D ++ [x]) := Lib.hid hs
        have hput := fun w1 h => rput_any oa oc D x (fun y hy => by have := hall y hy; omega) (by omega) hoc hon hsp w1 h
        have HP := Lib.hid hput
        clear hput hfind hs hall hon hsp
        go_wp2_with fail
        refine HF.out.mono ?_
        rintro e w1 ⟨rfl, q, rfl⟩
        have hc' : (wr.drewN q).cell? ⟨b, off + k, none⟩ = some (.int .i64 x) := hc
        go_wp2_with fail
        refine (HP.out (wr.drewN q) hro).mono ?_
        rintro e w2 ⟨v2, rfl, ho2, hb2⟩
        clear HP HF hc hc' hro
        have hb3 : Below w.heap.size w w2 := hbb.trans ((below_drewN (Below.refl _ _) q).trans (hb2.mono hbb.size))
        have ho3 : w2.ownsRow w.heap.size 3 1 v2 (D ++ [x]).length (ins (D ++ [x])) := ho2.mono hbb.size
        clear ho2 hb2 ho
        go_wp2
        exact ⟨⟨k + 1, D ++ [x], by omega, val_int (by omega), HS, by simp; omega, ho3, hb3⟩, by simp [intOf]; omega⟩
      · have hfind := rfind_last oa oc D Y x (by omega) hY hall wr hro
        have HF := Lib.hid hfind
        have HS : Hid (Lib.compactUpTo l.toArray (k + 1) = D) := Lib.hid hs
        clear hfind hs hall hon hsp hY
        go_wp2_with fail
        refine HF.out.mono ?_
        rintro e w1 ⟨rfl, q, rfl⟩
        have ho3 : (wr.drewN q).ownsRow w.heap.size 3 1 (.slice oa D.length oc) D.length (ins D) := ho
        have hb3 : Below w.heap.size w (wr.drewN q) := below_drewN hbb q
        clear HF hc hro ho hbb
        go_wp2
        exact ⟨⟨k + 1, D, by omega, val_int (by omega), HS, by omega, ho3, hb3⟩, by simp [intOf]; omega⟩
    · have hk3 : k = m := by omega
      subst hk3
      have hCD : C = D := by rw [← HC.out, ← HD.out, HM.out]
      subst hCD
      go_wp2
      go_ret
      exact ⟨_, rfl, ho, hbb⟩
end Go.Proofs.Ytmmhkageehlknaa
