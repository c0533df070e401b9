/-
  graticuleref08.All.
-/
import Derived.Test.YtoicahfpnnhgpaaFlds
namespace Go.Proofs.Ytoicahfpnnhgpaa
open Go.RowKit Go.Vint Go.Proto

set_option maxHeartbeats 2000000 in
theorem prefall_any (a : Option Addr) (c : Nat) (L : List Int) (hb : ∀ x ∈ L, 0 ≤ x ∧ x ≤ 255) (hlen : L.length ≤ 1000000) (hlc : L.length ≤ c) (hcm : c ≤ maxLen) (w : World) (hr : Rd w a (L.map (Value.int .u8))) :
    Calls Try.prog 12 #[.slice a L.length c] w fun e w' => ∃ v, e = .returned (.tuple #[v, .int .i64 (pall L).2.1, .int .i64 (pall L).2.2]) ∧
      w'.ownsRow w.heap.size 30 4 v (pall L).1.length (rflat (pall L).1) ∧ Below w.heap.size w w' := by
  go_enter Try.func12, Try.ntmps12
  go_wp2
  go_loopw [5, 6] (fun o i wr => ∃ (p : Nat) (acc : List Fld) (g : Nat), p ≤ L.length ∧ i = .int .i64 p ∧ L.length < p + (g + 1) ∧ acc.length ≤ p ∧ pall L = pallF (g + 1) L p acc ∧
    wr.ownsRow w.heap.size 30 4 o acc.length (rflat acc) ∧ Below w.heap.size w wr) (fun _ i _ => L.length - (intOf i).toNat)
  case atStart => exact ⟨0, [], L.length, Nat.zero_le _, rfl, by omega, Nat.le_refl _, rfl, World.ownsRow_nil _ _ _ _, Below.refl _ _⟩
  case round =>
    obtain ⟨p, acc, g, hp, rfl, hg, hal, hpa, hown, hbl⟩ := hrel
    have HPA := Lib.hid hpa
    clear hpa
    by_cases hlt : p < L.length
    · obtain ⟨b0, off0, rfl, -, -⟩ := hr.at (i := p) (v := .int .u8 L[p]) (by simp [hlt])
      have hD : ∀ x ∈ L.drop p, 0 ≤ x ∧ x ≤ 255 := fun x hx => hb x (List.mem_of_mem_drop hx)
      have hDl : (L.drop p).length = L.length - p := by simp
      have hrw := (hr.keep hbl).drop p
      rw [← List.map_drop] at hrw
      have hcl := prefread_any _ (c - p) (L.drop p) hD (by omega) (by omega) (by omega) wr hrw
      rw [hDl] at hcl
      have HCL := Lib.hid hcl
      have hcp : ¬ c = p := by omega
      clear hcl hrw
      by_cases he : (prd (L.drop p)).2.2 = 0
      · obtain ⟨n, hn, n1, n2, -, -, -, -, -, -⟩ := prd_ok _ hD he
        have hst := pallF_step g L p acc hlt he
        rw [hn, Int.toNat_natCast] at hst
        obtain ⟨g', rfl⟩ : ∃ g', g = g' + 1 := ⟨g - 1, by omega⟩
        have HST := Lib.hid (HPA.out.trans hst)
        clear hst
        rw [hDl] at n2
        have hRF : RFldE (prd (L.drop p)) = .returned (.tuple #[.agg #[.int .i64 (prd (L.drop p)).1.num, .int .i64 (prd (L.drop p)).1.kind, .int .u64 (prd (L.drop p)).1.n, .string (strOfNums (prd (L.drop p)).1.bs)], .int .i64 n, .int .i64 0]) := by
          unfold RFldE RFldV
          rw [hn, he]
        have HRF := Lib.hid hRF
        clear hRF hn he hD hDl
        generalize (prd (L.drop p)).1 = fl at *
        go_wp2_with fail
        refine HCL.out.mono ?_
        rintro e w1 ⟨he, hb1⟩
        rw [HRF.out] at he
        subst he
        have hown1 := hown.below hb1
        have hbl1 := hbl.trans (hb1.mono hbl.size)
        have hs1 := hbl1.size
        clear hown HCL hbl hb1
        go_wp2_with (at_builtin; go_must (refine wpList_appLitAt w (hbl1.alloc hs1 _) rfl (.tmp 26) (.tmp 28) 39 rfl 30 (.agg #[.int .i64 0, .int .i64 0, .int .u64 0, .string ⟨#[]⟩]) 4 40 Try.underlying39 Try.infoF rfl (by decide) (by decide) u5 acc.length (rflat acc) rfl (hown1.below (Below.new _ _)) 1 1 (w1.heap.size + 1) (by simp) (rcells fl) _ rfl rfl (rcells_one fl) (by omega) ?_); intro v2 w2 hown2 _ hbl2 _)
        clear hown1 hbl1
        go_wp2
        go_roundw
        case rel =>
          refine ⟨p + n, acc ++ [fl], g', by omega, by go_num, by omega, by simp; omega, HST.out, ?_, hbl2⟩
          rw [rflat_snoc]
          simpa using hown2
        case measure => simp [intOf]; omega
      · have HE : Hid (pall L = ([], (p : Int), (prd (L.drop p)).2.2)) := HPA.out.trans (pallF_err g L p acc hlt he)
        have hne : ((prd (L.drop p)).2.2 != 0) = true := by simpa using he
        have HRF : Hid (RFldE (prd (L.drop p)) = .returned (.tuple #[.agg #[.int .i64 (prd (L.drop p)).1.num, .int .i64 (prd (L.drop p)).1.kind, .int .u64 (prd (L.drop p)).1.n, .string (strOfNums (prd (L.drop p)).1.bs)], .int .i64 (prd (L.drop p)).2.1, .int .i64 (prd (L.drop p)).2.2])) := rfl
        clear he hD hDl
        generalize prd (L.drop p) = r at *
        obtain ⟨fl, n, er⟩ := r
        go_wp2_with fail
        refine HCL.out.mono ?_
        rintro e w1 ⟨he, hb1⟩
        rw [HRF.out] at he
        subst he
        have hbl1 := hbl.trans (hb1.mono hbl.size)
        have hs1 := hbl1.size
        clear hown HCL hbl hb1
        go_wp2
        refine bodyPost_ret (v := .tuple #[.slice none 0 0, .int .i64 p, .int .i64 er]) (by simp [results, Try.results12, go_sem]) rfl ⟨.slice none 0 0, ?_, ?_, hbl1.alloc hs1 _⟩
        · rw [HE.out]
        · rw [HE.out]; exact World.ownsRow_nil _ _ _ _
    · have HE : Hid (pall L = (acc, 0, 0)) := HPA.out.trans (pallF_end g L p acc hlt)
      go_wp2
      refine bodyPost_ret (v := .tuple #[u5, .int .i64 0, .int .i64 0]) (by simp [results, Try.results12, go_sem]) rfl ⟨u5, ?_, ?_, hbl⟩
      · rw [HE.out]
      · rw [HE.out]; exact hown
end Go.Proofs.Ytoicahfpnnhgpaa
