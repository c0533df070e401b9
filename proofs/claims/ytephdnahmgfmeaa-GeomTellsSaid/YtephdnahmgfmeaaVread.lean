/-
  varint.Read.
-/
import Derived.Test.YtephdnahmgfmeaaProg
import Derived.Test.YtephdnahmgfmeaaLib
import Derived.Test.YtephdnahmgfmeaaVmath
import Derived.Test.YtephdnahmgfmeaaBits
namespace Go.Proofs.Ytephdnahmgfmeaa
open Go.RowKit Go.Vint

def Rd3 (r : Int × Int × Int) : Ending := .returned (.tuple #[.int .u64 r.1, .int .i64 r.2.1, .int .i64 r.2.2])

theorem vread_any (a : Option Addr) (c : Nat) (L : List Int) (hb : ∀ x ∈ L, 0 ≤ x ∧ x ≤ 255) (hlen : L.length ≤ 140737488355328) (w : World) (hr : Rd w a (L.map (Value.int .u8))) :
    Calls Try.prog 47 #[.slice a L.length c] w fun e w' => e = Rd3 (rd L) ∧ w = w' := by
  go_enter Try.func47, Try.ntmps47
  go_wp2
  refine wp_goto_pre 0 (fun n a' w' => ∃ (i : Nat) (v : Int) (u7 u8 u9 u10 u11 u12 u13 u14 u15 u16 u17 u18 u19 u20 u21 u22 u23 u24 u25 u26 u27 u28 u29 u30 u31 u32 u33 u34 u35 u36 u37 u38 u39 u40 u41 u42 u43 u44 u45 u46 u47 u48 u49 u50 u51 u52 u53 u54 u55 : Value),
    (w' = w ∧ n = 10 - i ∧ i ≤ 10 ∧ i ≤ L.length ∧ (∀ j, j < i → 128 ≤ L.getD j 0) ∧ (i ≤ 9 → v = val (L.take i))) ∧
    a' = { tmps := #[.slice a L.length c, undef, .int .u64 0, .int .i64 0, .int .i64 0, .int .u64 v, .int .i64 (i : Nat), u7, u8, u9, u10, u11, u12, u13, u14, u15, u16, u17, u18, u19, u20, u21, u22, u23, u24, u25, u26, u27, u28, u29, u30, u31, u32, u33, u34, u35, u36, u37, u38, u39, u40, u41, u42, u43, u44, u45, u46, u47, u48, u49, u50, u51, u52, u53, u54, u55], defers := [] }) rfl ?_ ?_
  · rintro n a' w' ⟨i, v, u7, u8, u9, u10, u11, u12, u13, u14, u15, u16, u17, u18, u19, u20, u21, u22, u23, u24, u25, u26, u27, u28, u29, u30, u31, u32, u33, u34, u35, u36, u37, u38, u39, u40, u41, u42, u43, u44, u45, u46, u47, u48, u49, u50, u51, u52, u53, u54, u55, ⟨rfl, hn, hi, hil, hge, hv⟩, rfl⟩ J hJ
    have HN := Lib.hid hn
    have HG := Lib.hid hge
    have HV := Lib.hid hv
    have HJ := Lib.hid hJ
    clear hn hge hv hJ
    by_cases h10 : i = 10
    · subst h10
      go_wp2
      go_ret3
      refine ⟨?_, rfl⟩
      rw [rd_range L hil HG.out]; rfl
    · by_cases hend : i = L.length
      · subst hend
        go_wp2
        go_ret3
        refine ⟨?_, rfl⟩
        rw [rd_end L HG.out (by omega)]; rfl
      · have hlt : i < L.length := by omega
        obtain ⟨b, off, rfl, hcell, _⟩ := hr.at (i := i) (v := .int .u8 L[i]) (by simp [hlt])
        have hx := hb L[i] (by simp)
        have HX : Hid (L.getD i 0 = L[i]) := by show _ = _; simp [hlt]
        by_cases hc : 128 ≤ L[i]
        · go_wp2
          go_step3
          show (0 : Nat) = 0 ∧ J _ _
          refine ⟨rfl, HJ.out (10 - (i + 1)) _ _ (by rw [HN.out]; omega) ⟨i + 1, _, _, _, _, _, _, _, _, _, _, _, _, _, _, _, _, _, _, _, _, _, _, _, _, _, _, _, _, _, _, _, _, _, _, _, _, _, _, _, _, _, _, _, _, _, _, _, _, _, _, ⟨rfl, rfl, by omega, by omega, ?_, ?_⟩, rfl⟩⟩
          · intro j hj
            by_cases h : j = i
            · subst h; rw [HX.out]; exact hc
            · exact HG.out j (by omega)
          · intro h9
            rw [HV.out (by omega), List.take_succ_eq_append_getElem hlt, val_snoc]
            have hv := val_bd (L.take i)
            have hl : (L.take i).length = i := by simp; omega
            rw [hl] at hv ⊢
            exact acc_step _ _ i (by omega) hv.1 hv.2 hx.1 hx.2 (by omega)
        · have HR := Lib.hid (rd_at L i (by omega) HG.out hlt (by rw [HX.out]; omega))
          have HA : Hid ((i = 9 → L[i] ≤ 1) → bits BinOp.or IntKind.u64 v (IntKind.u64.wrap (IntKind.u64.wrap (bits BinOp.and IntKind.u8 L[i] 127) * 2 ^ (7 * i))) = val (L.take (i + 1))) := by
            intro h9
            rw [HV.out (by omega), List.take_succ_eq_append_getElem hlt, val_snoc]
            have hv := val_bd (L.take i)
            have hl : (L.take i).length = i := by simp; omega
            rw [hl] at hv ⊢
            exact acc_step _ _ i (by omega) hv.1 hv.2 hx.1 hx.2 h9
          by_cases h9 : i = 9
          · subst h9
            by_cases h1 : 1 < L[9]
            · go_wp2
              go_ret3
              refine ⟨?_, rfl⟩
              rw [HR.out, HX.out, if_pos ⟨by decide, h1⟩]; rfl
            · by_cases h0 : L[9] = 0
              · have hb0 : (L[9] == 0) = true := by simp [h0]
                have H0 := Lib.hid h0
                clear h0
                go_wp2
                go_ret3
                refine ⟨?_, rfl⟩
                rw [HR.out, HX.out, if_neg (by omega), if_pos ⟨by omega, H0.out⟩]; rfl
              · have hb0 : (L[9] == 0) = false := by simp [h0]
                go_wp2
                go_ret3
                refine ⟨?_, rfl⟩
                rw [HR.out, HX.out, if_neg (by omega), if_neg (by omega), ← HA.out (by omega)]; rfl
          · by_cases hi0 : i = 0
            · have hi1 : i ≤ 0 := by omega
              clear hi0
              go_wp2
              go_ret3
              refine ⟨?_, rfl⟩
              rw [HR.out, if_neg (by omega), if_neg (by omega), ← HA.out (by omega)]; rfl
            · by_cases h0 : L[i] = 0
              · have hb0 : (L[i] == 0) = true := by simp [h0]
                have H0 := Lib.hid h0
                clear h0
                go_wp2
                go_ret3
                refine ⟨?_, rfl⟩
                rw [HR.out, HX.out, if_neg (by omega), if_pos ⟨by omega, H0.out⟩]; rfl
              · have hb0 : (L[i] == 0) = false := by simp [h0]
                go_wp2
                go_ret3
                refine ⟨?_, rfl⟩
                rw [HR.out, HX.out, if_neg (by omega), if_neg (by omega), ← HA.out (by omega)]; rfl
  · intro J hJ
    go_wp2
    go_step3
    go_step
    go_step
    exact hJ.out 10 _ _ ⟨0, 0, _, _, _, _, _, _, _, _, _, _, _, _, _, _, _, _, _, _, _, _, _, _, _, _, _, _, _, _, _, _, _, _, _, _, _, _, _, _, _, _, _, _, _, _, _, _, _, _, _, ⟨rfl, rfl, by omega, by omega, fun j h => by omega, fun _ => rfl⟩, rfl⟩
end Go.Proofs.Ytephdnahmgfmeaa
