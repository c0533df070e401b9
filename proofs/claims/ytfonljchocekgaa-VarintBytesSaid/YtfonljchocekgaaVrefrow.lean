/-
  graticuleref07.Row.
-/
import Derived.Test.YtfonljchocekgaaProg
import Derived.Test.YtfonljchocekgaaLib
import Derived.Test.YtfonljchocekgaaVmath
import Derived.Test.YtfonljchocekgaaVrefread
namespace Go.Proofs.Ytfonljchocekgaa
open Go.RowKit Go.Vint

/-- What a row's reader hands back: the slice of the numbers, the place, the error. -/
def IsRowRes (B : Nat) (r : List Int × Int × Int) (e : Ending) (w' : World) : Prop :=
  ∃ v, e = .returned (.tuple #[v, .int .i64 r.2.1, .int .i64 r.2.2]) ∧ w'.ownsRow B 23 1 v r.1.length (r.1.map (Value.int .u64))

theorem Try.infoU64 : (Try.prog.info? 23).map (fun i => (i.zero, i.size, i.bytes)) = some (some (.int .u64 0), 1, 8) := by kernel_rfl

theorem rrow_any (a : Option Addr) (c : Nat) (L : List Int) (hb : ∀ x ∈ L, 0 ≤ x ∧ x ≤ 255) (hlen : L.length ≤ 1073741824) (hc : L.length ≤ c) (hcm : c ≤ maxLen) (w : World) (hr : Rd w a (L.map (Value.int .u8))) :
    Calls Try.prog 13 #[.slice a L.length c] w fun e w' => IsRowRes w.heap.size (row L) e w' ∧ Below w.heap.size w w' := by
  unfold maxLen at hcm
  go_enter Try.func13, Try.ntmps13
  go_wp2
  go_loopw [5, 6] (fun v p wr => ∃ (k f : Nat) (acc : List Int), k ≤ L.length ∧ p = .int .i64 k ∧ wr.ownsRow w.heap.size 23 1 v acc.length (acc.map (Value.int .u64)) ∧ Below w.heap.size w wr ∧ acc.length ≤ k ∧ L.length < k + f ∧ rowF f L k acc = row L) (fun _ p _ => L.length - (intOf p).toNat)
  case atStart => exact ⟨0, L.length + 1, [], Nat.zero_le _, rfl, World.ownsRow_nil _ _ _ _, Below.refl _ _, Nat.le_refl _, by omega, rfl⟩
  case round =>
    obtain ⟨k, f, acc, hk, rfl, hown, hbl, hacc, hf, hrow⟩ := hrel
    obtain ⟨f, rfl⟩ : ∃ g, f = g + 1 := ⟨f - 1, by omega⟩
    have HR := Lib.hid hrow
    clear hrow
    by_cases hlt : k < L.length
    · obtain ⟨b, off, rfl, -, -⟩ := (hr.keep hbl).at (i := k) (v := .int .u8 L[k]) (by simp [hlt])
      have hrk := (hr.keep hbl).drop k
      rw [← List.map_drop] at hrk
      have hD : ∀ x ∈ L.drop k, 0 ≤ x ∧ x ≤ 255 := fun x hx => hb x (List.mem_of_mem_drop hx)
      have hDl : (L.drop k).length = L.length - k := by simp
      obtain ⟨D, hDD⟩ : ∃ D, D = L.drop k := ⟨_, rfl⟩
      rw [← hDD] at hrk hD hDl
      have hrd := rread_any (some ⟨b, off + k, none⟩) (c - k) D hD (by omega) wr hrk
      rw [hDl] at hrd
      have HRD := Lib.hid hrd
      have HD := Lib.hid hDD
      have hck : ¬ (c = k) := by omega
      clear hrk hDD hrd
      by_cases he : (rd D).2.2 = 0
      · obtain ⟨m, hm, hrdd, -⟩ := rd_ok D he
        have hbd := rd_bd D hD he
        have HS : Hid (rowF f L (k + (m + 1)) (acc ++ [val (D.take (m + 1))]) = row L) := by
          show _ = _
          rw [← HR.out, rowF_step _ _ _ _ hlt (by rw [← HD.out]; exact he), ← HD.out, hrdd]; rfl
        rw [hrdd] at hbd
        simp only at hbd
        have hm' : m + 1 ≤ L.length - k := by omega
        generalize val (D.take (m + 1)) = rn at *
        have HRR := Lib.hid hrdd
        clear he hDl hD hrdd hm HD HR
        go_wp2_with fail
        refine HRD.out.mono ?_
        rintro e w1 ⟨he1, rfl⟩
        rw [HRR.out] at he1
        simp only [Rd3] at he1
        subst he1
        clear HRD HRR
        go_wp2_with (at_builtin; go_must (refine wpList_appLit' w hbl rfl (.tmp 26) (.tmp 28) 22 rfl 23 (.int .u64 0) 1 8 Try.underlying22 Try.infoU64 rfl (by decide) (by decide) u5 _ _ rfl hown 1 1 [.int .u64 rn] _ rfl rfl (ints_one .u64 [rn]) (by omega) ?_); intro v2 w2 hown2 _ hbl2)
        clear hown hbl
        go_wp2
        go_roundw
        case rel => exact ⟨k + (m + 1), f, acc ++ [rn], by omega, by go_num, by simpa using hown2, hbl2, by simp; omega, by omega, HS.out⟩
        case measure => simp [intOf] <;> omega
      · have hne : ((rd D).2.2 != 0) = true := by simpa using he
        have HE : Hid (row L = ([], (k : Int), (rd D).2.2)) := by
          show _ = _
          rw [← HR.out, rowF_err _ _ _ _ hlt (by rw [← HD.out]; exact he), ← HD.out]
        clear he hDl hD
        obtain ⟨rn, rk, re, hrdd⟩ : ∃ rn rk re, rd D = (rn, rk, re) := ⟨_, _, _, rfl⟩
        rw [hrdd] at hne HE
        go_wp2_with fail
        refine HRD.out.mono ?_
        rintro e w1 ⟨he1, rfl⟩
        rw [hrdd] at he1
        simp only [Rd3] at he1
        subst he1
        go_wp2
        go_ret3
        rw [HE.out]
        exact ⟨⟨_, rfl, World.ownsRow_nil _ _ _ _⟩, hbl⟩
    · have HE : Hid (row L = (acc, 0, 0)) := by
        show _ = _
        rw [← HR.out, rowF_end _ _ _ _ hlt]
      go_wp2
      go_ret3
      rw [HE.out]
      exact ⟨⟨_, rfl, hown⟩, hbl⟩
end Go.Proofs.Ytfonljchocekgaa
