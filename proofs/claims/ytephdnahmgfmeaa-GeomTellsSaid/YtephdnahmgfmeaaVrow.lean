/-
  varint.Row.
-/
import Derived.Test.YtephdnahmgfmeaaProg
import Derived.Test.YtephdnahmgfmeaaLib
import Derived.Test.YtephdnahmgfmeaaVmath
import Derived.Test.YtephdnahmgfmeaaVread
import Derived.Test.YtephdnahmgfmeaaVrowd
import Derived.WalkSmall
namespace Go.Proofs.Ytephdnahmgfmeaa
open Go.RowKit Go.Vint

theorem vrow_any (a : Option Addr) (c : Nat) (L : List Int) (hb : ∀ x ∈ L, 0 ≤ x ∧ x ≤ 255) (hlen : L.length ≤ 1073741824) (hc : L.length ≤ c) (hcm : c ≤ maxLen) (w : World) (hr : Rd w a (L.map (Value.int .u8))) :
    Calls Try.prog 33 #[.slice a L.length c] w fun e w' => IsRowRes w.heap.size (row L) e w' ∧ Below w.heap.size w w' := by
  unfold maxLen at hcm
  go_enter Try.func33, Try.ntmps33
  go_wp2
  go_loopg [] (L.length) (fun g wr => ∃ (k f : Nat) (acc : List Int) (v : Value), g = L.length - k ∧ k ≤ L.length ∧
     Cell1 wr w.heap.size (.slice a L.length c) ∧ Cell1 wr (w.heap.size + 1) v ∧ Cell1 wr (w.heap.size + 1 + 1) (.int .i64 k) ∧
     wr.ownsRow (w.heap.size + 3) 44 1 v acc.length (acc.map (Value.int .u64)) ∧ Below w.heap.size w wr ∧ acc.length ≤ k ∧ L.length < k + f ∧ rowF f L k acc = row L)
  case atStart =>
    exact ⟨0, L.length + 1, [], .slice none 0 0, rfl, Nat.zero_le _, ((Cell1.new w _ _).alloc _).alloc _, (Cell1.lit _ _ _ _ (by simp)).alloc _, Cell1.lit _ _ _ _ (by simp), World.ownsRow_nil _ _ _ _, (((Below.new w _).alloc (by simp) _).alloc (by simp; omega) _), Nat.le_refl _, by omega, rfl⟩
  case round =>
    obtain ⟨k, f, acc, v, hg, hk, hBB, hOO, hPP, hown, hbl, hacc, hf, hrow⟩ := hrel
    obtain ⟨f, rfl⟩ : ∃ g, f = g + 1 := ⟨f - 1, by omega⟩
    have HR := Lib.hid hrow
    have HGK := Lib.hid hg
    clear hrow hg
    have hB := hBB.cell
    have hO := hOO.cell
    have hP := hPP.cell
    have hsz := hPP.lt
    by_cases hlt : k < L.length
    · obtain ⟨b, off, rfl, -, -⟩ := (hr.keep hbl).at (i := k) (v := .int .u8 L[k]) (by simp [hlt])
      have hrk := (hr.keep hbl).drop k
      rw [← List.map_drop] at hrk
      have hD : ∀ x ∈ L.drop k, 0 ≤ x ∧ x ≤ 255 := fun x hx => hb x (List.mem_of_mem_drop hx)
      have hDl : (L.drop k).length = L.length - k := by simp
      obtain ⟨D, hDD⟩ : ∃ D, D = L.drop k := ⟨_, rfl⟩
      rw [← hDD] at hrk hD hDl
      have hrd := vread_any (some ⟨b, off + k, none⟩) (c - k) D hD (by omega) wr hrk
      rw [hDl] at hrd
      have HRD := Lib.hid hrd
      have HD := Lib.hid hDD
      have hck : ¬ (c = k) := by omega
      clear hrk hDD hrd
      by_cases he : (rd D).2.2 = 0
      · obtain ⟨m, hm, hrdd, -⟩ := rd_ok D he
        have hbd := rd_bd D hD he
        have HS : Hid (rowF f L (k + (m + 1)) (acc ++ [val (D.take (m + 1))]) = row L) := by
          show _ = _
          rw [← HR.out, rowF_step _ _ _ _ hlt (by rw [← HD.out]; exact he), ← HD.out, hrdd]; rfl
        rw [hrdd] at hbd
        simp only at hbd
        have hm' : m + 1 ≤ L.length - k := by omega
        generalize val (D.take (m + 1)) = rn at *
        have HRR := Lib.hid hrdd
        clear he hDl hD hrdd hm HD HR
        have hwn : Below w.heap.size w w := Below.refl _ _
        go_wp2_with (first | (go_at_call 47; go_must (refine HRD.out.mono ?_); rintro e w1 ⟨he1, rfl⟩; rw [HRR.out] at he1; simp only [Rd3] at he1; subst he1) | (at_builtin; go_must (refine wpList_appLit rfl (.tmp 17) (.tmp 19) 34 rfl (w.heap.size + 3) 44 (.int .u64 0) 1 8 Try.underlying34 Try.infoU64 rfl (by decide) (by decide) v _ _ rfl hown 1 1 [.int .u64 rn] _ rfl rfl (ints_one .u64 [rn]) (by omega) (by omega) ?_); intro v2 w2 hown2 hgrow2; have hBB2 := hBB.grown hgrow2 (hown.ne (by omega)); have hOO2 := hOO.grown hgrow2 (hown.ne (by omega)); have hPP2 := hPP.grown hgrow2 (hown.ne (by omega)); have hbl2 := hbl.grown hgrow2 hbl.size (fun k hk => Nat.le_trans (by omega) (hown.lt k hk).1); clear hgrow2 hB hO hP hBB hOO hPP hown hbl; have hO := hOO2.cell; have hOf := hOO2.free; have hP := hPP2.cell; have hPf := hPP2.free; obtain ⟨a2, c2, rfl, -, -, -, -, -⟩ := hown2.form) | go_in)
        clear hO hOf hP hPf
        go_roundg (L.length - (k + (m + 1)))
        case measure => rw [HGK.out]; omega
        case rel =>
          refine ⟨k + (m + 1), f, acc ++ [rn], _, rfl, by omega, (hBB2.set_at (by omega) _).set_at (by omega) _, (hOO2.set _).set_at (by omega) _, (hPP2.set_at (by omega) _).set _, ?_, (hbl2.set_at (by omega) _).set_at (by omega) _, by simp; omega, by omega, HS.out⟩
          have h4 := (hown2.set_lt (b := w.heap.size + 1) (o := 0) (by omega) (.slice a2 (acc.length + 1) c2)).set_lt (b := w.heap.size + 1 + 1) (o := 0) (by omega) (.int .i64 ((k : Int) + ((m : Int) + 1)))
          simpa using h4
      · have hne : ((rd D).2.2 == 0) = false := by simpa using he
        have hne' : ((rd D).2.2 != 0) = true := by simpa using he
        have HE : Hid (row L = ([], (k : Int), (rd D).2.2)) := by
          show _ = _
          rw [← HR.out, rowF_err _ _ _ _ hlt (by rw [← HD.out]; exact he), ← HD.out]
        clear he hDl hD
        obtain ⟨rn, rk, re, hrdd⟩ : ∃ rn rk re, rd D = (rn, rk, re) := ⟨_, _, _, rfl⟩
        rw [hrdd] at hne hne' HE
        have HRR := Lib.hid hrdd
        clear hrdd
        go_wp2_with (first | (go_at_call 47; go_must (refine HRD.out.mono ?_); rintro e w1 ⟨he1, rfl⟩; rw [HRR.out] at he1; simp only [Rd3] at he1; subst he1) | go_in)
        go_quiet (fail)
        go_wp2
        go_ret3
        rw [HE.out]
        exact ⟨⟨_, rfl, World.ownsRow_nil _ _ _ _⟩, below_drewN hbl _⟩
    · have HE : Hid (row L = (acc, 0, 0)) := by
        show _ = _
        rw [← HR.out, rowF_end _ _ _ _ hlt]
      go_wp2
      go_ret3
      rw [HE.out]
      exact ⟨⟨_, rfl, hown.mono (by omega)⟩, hbl⟩
end Go.Proofs.Ytephdnahmgfmeaa
