/-
  geom's reader: part, where nothing is wrong.
-/
import Derived.Test.YtephdnahmgfmeaaGcmd
set_option linter.unusedVariables false
set_option linter.unusedSimpArgs false
set_option maxRecDepth 100000
namespace Go
open Go.RowKit Go.Vint

/-- The point ahead of the i-th. -/
def lastP (at' : Pt) (l : List Pt) (i : Nat) : Pt := if i = 0 then at' else l[i - 1]!

/-- A part's numbers stand in L from k on. -/
structure PartAt (kind : Int) (at' : Pt) (l : List Pt) (L : List Int) (k : Nat) : Prop where
  c0 : L[k]? = some 9
  pt : ∀ i, i < l.length → L[if i = 0 then k + 1 else k + 2 + 2 * i]? = some (zig (l[i]!.x - (lastP at' l i).x)) ∧ L[(if i = 0 then k + 1 else k + 2 + 2 * i) + 1]? = some (zig (l[i]!.y - (lastP at' l i).y))
  c3 : L[k + 3]? = some (((l.length - 1 : Nat) : Int) * 8 + 2)
  cl : kind = 3 → L[k + 2 + 2 * l.length]? = some 15

theorem grown_then {w a b : World} {B : Nat} {r : Option Nat} (h : w.grownBy a (some B)) (k : a.grownBy b r) (hr : ∀ g, r = some g → w.heap.size ≤ g) : w.grownBy b (some B) := by
  refine ⟨k.os.trans h.os, k.tape.trans h.tape, k.output.trans h.output, Nat.le_trans h.size k.size, fun i hi hn => ?_⟩
  rw [k.block i (Nat.lt_of_lt_of_le hi h.size) (fun e => by have := hr i e.symm; omega)]
  exact h.block i hi hn
theorem RdS.app {w0 w w' : World} {B b off c : Nat} {L : List Int} {k : Nat} {p : Pt} (h : RdS w0 w B b off c L k p) {r : Option Nat} (hg : w.grownBy w' r) (hr : ∀ g, r = some g → B < g) : RdS w0 w' B b off c L k p :=
  ⟨h.1, h.2.1, h.2.2.1.grown hg (fun e => by have := hr _ e.symm; omega), h.2.2.2.grown hg h.2.2.2.size (fun g e => by have := hr g e; have := h.2.1; omega)⟩
theorem partE_len {kind : Int} {first : Bool} {l : List Pt} (h : partE kind first l = 0) : kind ≤ (l.length : Int) := by
  unfold partE at h
  split at h
  · simp at h
  · split at h
    · simp at h
    · omega
theorem close_last {at' : Pt} {l : List Pt} {i : Nat} (ha : Close at') (hl : ∀ p ∈ l, Close p) (hi : i ≤ l.length) : Close (lastP at' l i) := by
  unfold lastP
  split
  · exact ha
  · rw [getElem!_pos l (i - 1) (by omega)]; exact hl _ (List.getElem_mem _)
end Go
namespace Go.Proofs.Ytephdnahmgfmeaa
open Go.RowKit Go.Vint
theorem Try.infoPt : (Try.prog.info? 59).map (fun i => (i.zero, i.size, i.bytes)) = some (some (.agg #[.int .i64 0, .int .i64 0]), 2, 16) := by kernel_rfl

set_option maxHeartbeats 3200000 in
theorem rpart_ok (w0 w : World) (B b off c : Nat) (L : List Int) (k : Nat) (at' : Pt) (kind : Int) (first : Bool) (l : List Pt) (hk : kind = 2 ∨ kind = 3) (hl2 : 2 ≤ l.length) (hl3 : l.length ≤ 1000) (hcl : ∀ p ∈ l, Close p) (hat : Close at')
    (hP : PartAt kind at' l L k) (hE : partE kind first l = 0) (hL : L.length ≤ 1000000) (hc : L.length ≤ c) (h : RdS w0 w B b off c L k at') :
    Calls Try.prog 32 #[.pointer (some ⟨B, 0, none⟩), .int .i64 kind, .bool first] w fun e w' => ∃ v, e = .returned (.tuple #[v, .int .i64 0]) ∧
      w'.ownsRow w.heap.size 59 2 v l.length (pts l) ∧ RdS w0 w' B b off c L (k + 2 + 2 * l.length + (if kind = 3 then 1 else 0)) l[l.length - 1]! ∧ w.grownBy w' (some B) := by
  have hBl := h.2.2.1.lt
  have hw0 := h.2.2.2.size
  have HK := Lib.hid hk
  have h15 := fun W C h1 h2 h3 => command_only w0 W B b off c L (k + 2 + 2 * l.length) l[l.length - 1]! C 15 h1 (by decide) hL hc h2 h3
  have h9 := fun W C h2 h3 => command_only w0 W B b off c L k at' C 9 hP.c0 (by decide) hL hc h2 h3
  have hm := fun W C h2 h3 => command_part w0 W B b off c L (k + 3) l[0]! C ((l.length - 1 : Nat) : Int) kind hP.c3 (by have := partE_len hE; omega) (by omega) hL hc h2 h3
  have hpart := fun W a c h => gpart_any kind first ⟨l, a, c⟩ hl3 hk W h
  simp only [hE] at hpart
  have hpt := fun W i (hi : i < l.length) h => point_ok w0 W B b off c L (if i = 0 then k + 1 else k + 2 + 2 * i) (lastP at' l i) l[i]! (hP.pt i hi).1 (hP.pt i hi).2 (close_last hat hcl (by omega)) (by rw [getElem!_pos l i hi]; exact hcl _ (List.getElem_mem _)) hL hc h
  have H15 := Lib.hid h15
  have H9 := Lib.hid h9
  have HM := Lib.hid hm
  have HPART := Lib.hid hpart
  have HPT := Lib.hid hpt
  have HPA := Lib.hid hP
  clear h15 h9 hm hpart hpt hE hP hk hL hc hcl hat
  go_enter Try.func32, Try.ntmps32
  go_wp2
  refine wp_goto_pre 0 (fun n a' w' => ∃ (i T s lf : Nat) (o : Value) (u6 u7 u10 u11 u12 u13 u14 u15 u16 u17 u18 u19 u20 u21 u22 u23 u24 u25 u26 u27 u28 u29 u30 u31 u32 u33 u34 u35 u36 u37 u38 u39 u40 u41 u42 u43 u44 u45 u46 u47 u48 u49 u50 u51 u52 u53 u54 u55 u56 u57 u58 u59 u60 u61 u62 u63 u64 u65 u66 u67 u68 u69 u70 u71 u72 : Value),
    (n = 1 - i ∧ (i = 0 ∧ T = 1 ∧ s = k + 1 ∨ i = 1 ∧ T = l.length ∧ s = k + 2) ∧ lf + i = T ∧ w'.ownsRow (w.heap.size + 1) 59 2 o i (pts (l.take i)) ∧ RdS w0 w' B b off c L (s + 2 * i) (lastP at' l i) ∧ Cell1 w' w.heap.size (.int .i64 kind) ∧ w.grownBy w' (some B)) ∧
    a' = { tmps := List.toArray ((.pointer (some ⟨B, 0, none⟩)) :: (.int .i64 kind) :: (.bool first) :: undef :: (.pointer (some ⟨w.heap.size, 0, none⟩)) :: undef :: u6 :: u7 :: o :: (.int .u64 lf) :: u10 :: u11 :: u12 :: u13 :: u14 :: u15 :: u16 :: u17 :: u18 :: u19 :: u20 :: u21 :: u22 :: u23 :: u24 :: u25 :: u26 :: u27 :: u28 :: u29 :: u30 :: u31 :: u32 :: u33 :: u34 :: u35 :: u36 :: u37 :: u38 :: u39 :: u40 :: u41 :: u42 :: u43 :: u44 :: u45 :: u46 :: u47 :: u48 :: u49 :: u50 :: u51 :: u52 :: u53 :: u54 :: u55 :: u56 :: u57 :: u58 :: u59 :: u60 :: u61 :: u62 :: u63 :: u64 :: u65 :: u66 :: u67 :: u68 :: u69 :: u70 :: u71 :: u72 :: []), defers := [] }) rfl ?_ ?_
  · rintro n a' w' ⟨i0, T, s, lf, o, u6, u7, u10, u11, u12, u13, u14, u15, u16, u17, u18, u19, u20, u21, u22, u23, u24, u25, u26, u27, u28, u29, u30, u31, u32, u33, u34, u35, u36, u37, u38, u39, u40, u41, u42, u43, u44, u45, u46, u47, u48, u49, u50, u51, u52, u53, u54, u55, u56, u57, u58, u59, u60, u61, u62, u63, u64, u65, u66, u67, u68, u69, u70, u71, u72, ⟨hn, hph, hlf, hown, hrd, hcl, hg⟩, rfl⟩ J hJ
    have HJ := Lib.hid hJ
    have HN := Lib.hid hn
    clear hJ hn
    have hT : T ≤ l.length := by omega
    have hT1 : 1 ≤ T := by omega
    have HPH := Lib.hid hph
    have hi0 : i0 ≤ 1 := by omega
    have hi0T : i0 ≤ T := by omega
    go_wp2
    go_loopw [8, 9] (fun o lf wr => ∃ i left : Nat, i0 ≤ i ∧ i ≤ T ∧ lf = .int .u64 left ∧ left + i = T ∧ wr.ownsRow (w.heap.size + 1) 59 2 o i (pts (l.take i)) ∧ RdS w0 wr B b off c L (s + 2 * i) (lastP at' l i) ∧ Cell1 wr w.heap.size (.int .i64 kind) ∧ w.grownBy wr (some B)) (fun _ lf _ => (intOf lf).toNat)
    case atStart => exact ⟨i0, lf, Nat.le_refl _, hi0T, rfl, hlf, hown, hrd, hcl, hg⟩
    case round =>
      obtain ⟨i, left, hi, hiT, rfl, hleft, hown', hrd', hcl', hg'⟩ := hrel
      by_cases hlt : i < T
      · have hidx : (if i = 0 then k + 1 else k + 2 + 2 * i) = s + 2 * i := by rcases HPH.out with ⟨h1, h2, h3⟩ | ⟨h1, h2, h3⟩ <;> split <;> omega
        have hp := HPT.out wr i (by omega)
        rw [hidx] at hp
        have hp := hp hrd'
        have hst : Hid (pts (l.take (i + 1)) = pts (l.take i) ++ (l[i]!).cells) := by
          refine Lib.hid ?_
          rw [List.take_succ_eq_append_getElem (by omega), pts_snoc, getElem!_pos l i (by omega)]
        have hla : Hid (lastP at' l (i + 1) = l[i]!) := Lib.hid (by unfold lastP; rw [if_neg (by omega)]; rfl)
        generalize l[i]! = q at *
        have HP := Lib.hid hp
        have hszw := hg'.size
        have hlf0 : (0 : Int) < (left : Int) := by omega
        obtain ⟨x, y⟩ := q
        dsimp only [Pt.val] at HP
        obtain ⟨nx, hnx⟩ : ∃ nx : Nat, left = nx + 1 := ⟨left - 1, by omega⟩
        subst hnx
        clear hp hown hrd hcl hg hrd' hidx hlf
        go_wp2_with fail
        refine HP.out.mono ?_
        rintro e w1 ⟨rfl, h1, hg1⟩
        have hB1 := h1.2.2.1.lt
        have hown1 := hown'.kept hg1 (.inr (by intro e; have := (hown'.lt _ e).1; omega))
        have hcl1 := hcl'.grown hg1 (by simp; omega)
        have hg2 := hg'.trans hg1
        have hs1 := hg1.size
        clear HP hown' hcl' hg' hg1
        obtain ⟨ti, hti, hz0, hz1, hz2⟩ := info_parts Try.infoPt
        go_wp2_with (at_builtin; go_must (refine wpList_append_own_at ((w1.alloc (.cells #[.int .i64 x, .int .i64 y] 59)).alloc (.cells #[.int .i64 x, .int .i64 y] 59)) rfl (.tmp 39) (.tmp 41) 27 rfl (w.heap.size + 1) 59 ti (.agg #[.int .i64 0, .int .i64 0]) 2 16 Try.underlying27 hti hz0 hz1 hz2 rfl (by decide) u8 i (pts (l.take i)) rfl ((hown1.below (Below.new _ _)).below (Below.new _ _)) ⟨w1.heap.size + 1, 0, none⟩ 1 1 [.int .i64 x, .int .i64 y] rfl rfl (Rd.lit (w1.alloc (.cells #[.int .i64 x, .int .i64 y] 59)) (w1.heap.size + 1) [.int .i64 x, .int .i64 y] 59 (by simp)).add (by simp [Value.oneCell']) (by unfold maxLen; omega) (by omega) (by have := hcl1.lt; simp; omega) ?_); intro v2 w2 hown2 hg3 _ _)
        have hob : ∀ g, u8.ownBlock = some g → w.heap.size + 1 ≤ g := fun g e => (hown1.lt g e).1
        refine ⟨⟨i + 1, nx, by omega, by omega, rfl, by omega, ?_, ?_, ?_, ?_⟩, by simp [intOf]⟩
        · rw [hst.out]; exact hown2
        · rw [hla.out]
          have := ((h1.grown (grown_alloc w1 (.cells #[.int .i64 x, .int .i64 y] 59) none)).grown (grown_alloc _ (.cells #[.int .i64 x, .int .i64 y] 59) none)).app hg3 (fun g e => by have := hob g e; omega)
          rwa [show s + 2 * i + 2 = s + 2 * (i + 1) by omega] at this
        · exact ((hcl1.alloc _).alloc _).grown hg3 (fun e => by have := hob _ e.symm; omega)
        · exact grown_then ((hg2.trans (grown_alloc w1 (.cells #[.int .i64 x, .int .i64 y] 59) (some B))).trans (grown_alloc _ (.cells #[.int .i64 x, .int .i64 y] 59) (some B))) hg3 (fun g e => by have := hob g e; omega)
      · obtain rfl : i = T := by omega
        obtain rfl : left = 0 := by omega
        have hob := hown'.lt
        obtain ⟨oa, oc, rfl, hoc, hom, hon, hor, -⟩ := hown'.form
        clear hown hrd hcl hg hlf
        obtain ⟨m, hm⟩ : ∃ m, l.length - 1 = m := ⟨_, rfl⟩
        rcases HPH.out with ⟨rfl, rfl, rfl⟩ | ⟨rfl, rfl, rfl⟩
        · have e1 : lastP at' l 1 = l[0]! := by unfold lastP; rw [if_neg (by omega)]
          rw [e1] at hrd'
          have hc := HM.out wr w.heap.size hcl' (by omega) hrd'
          rw [hm] at hc
          have HC := Lib.hid hc
          have HM := Lib.hid hm
          have hm8 : ((m : Int) * 8 + 2) / 8 = (m : Int) := by omega
          have hmb : (m : Int) ≤ 1000 := by omega
          have HE1 := Lib.hid e1
          clear hc hm e1
          go_wp2_with fail
          refine HC.out.mono ?_
          rintro e w1 ⟨rfl, h1, hg1⟩
          have hown1 := hown'.kept hg1 (.inr (by intro e; have := (hown'.lt _ e).1; have := hrd'.2.2.1.lt; omega))
          have hcl1 := hcl'.grown hg1 (by simp; omega)
          have hg2 := hg'.trans hg1
          go_wp2
          go_step3
          show (0 : Nat) = 0 ∧ J _ _
          refine ⟨rfl, HJ.out 0 _ _ (by rw [HN.out]; omega) ⟨1, l.length, k + 2, m, _, _, _, _, _, _, _, _, _, _, _, _, _, _, _, _, _, _, _, _, _, _, _, _, _, _, _, _, _, _, _, _, _, _, _, _, _, _, _, _, _, _, _, _, _, _, _, _, _, _, _, _, _, _, _, _, _, _, _, _, _, _, _, _, _, _, ⟨rfl, .inr ⟨rfl, rfl, rfl⟩, by have := HM.out; omega, hown1, by rw [HE1.out]; exact h1, hcl1, hg2⟩, rfl⟩⟩
        · have e1 : lastP at' l l.length = l[l.length - 1]! := by unfold lastP; rw [if_neg (by omega)]
          rw [e1] at hrd'
          rw [List.take_length] at hown' hor
          have hne1 : ¬ l.length = 1 := by omega
          have hne1' : ((l.length : Int) == 1) = false := by simp; omega
          have hcell := hcl'.cell
          rcases HK.out with rfl | rfl
          · have hpa := HPART.out wr oa oc ⟨hor, hoc, hom, hon⟩
            have HPA2 := Lib.hid hpa
            have HRD : Hid (RdS w0 wr B b off c L (k + 2 + 2 * l.length + 0) l[l.length - 1]!) := Lib.hid hrd'
            dsimp only [PC.val] at HPA2
            clear hpa hrd' e1 hm
            go_wp2_with fail
            refine HPA2.out.mono ?_
            rintro e w1 ⟨rfl, hb1⟩
            have hg1 : wr.grownBy w1 none := ⟨hb1.os, hb1.tape, hb1.output, hb1.size, fun i hi _ => hb1.block i hi⟩
            go_wp2
            simp only [Exit.jump_ret]
            refine bodyPost_ret (v := .tuple #[.slice oa l.length oc, .int .i64 0]) (by simp [results, Try.results32, go_sem]) rfl ⟨_, rfl, (hown'.below hb1).mono (by omega), ?_, grown_then hg' hg1 (by simp)⟩
            exact HRD.out.grown hg1
          · have hrd2 := hrd'.grown (grown_alloc wr (.cells #[.int .u64 15] 44) none)
            have h15 := H15.out _ wr.heap.size (HPA.out.cl rfl) (Cell1.new wr (.int .u64 15) 44) (by have := hrd'.2.2.1.lt; omega) hrd2
            have HC15 := Lib.hid h15
            have hB1 := hrd'.2.2.1.lt
            have hown1 := hown'.below (Below.new wr (.cells #[.int .u64 15] 44))
            have hcl1 := hcl'.alloc (.cells #[.int .u64 15] 44)
            have hor1 := hor.keep (Below.new wr (.cells #[.int .u64 15] 44))
            have hg1 := hg'.trans (grown_alloc wr (.cells #[.int .u64 15] 44) (some B))
            clear h15 hrd2 hrd' e1 hm hown' hcl' hg' hor
            go_wp2_with fail
            refine (only_any 15 _).mono ?_
            rintro e w1 ⟨rfl, rfl⟩
            go_wp2_with fail
            refine HC15.out.mono ?_
            rintro e w2 ⟨rfl, h2, hg2⟩
            have hob1 := hown1.lt
            have hown2 := hown1.kept hg2 (.inr (by intro e; have := (hown1.lt _ e).1; omega))
            have hcell2 := (hcl1.grown hg2 (by simp; omega)).cell
            have hor2 : Rd w2 oa (pts l) := Rd.of_owns hown2
            have hg3 := hg1.trans hg2
            have hpa := HPART.out w2 oa oc ⟨hor2, hoc, hom, hon⟩
            have HPA2 := Lib.hid hpa
            dsimp only [PC.val] at HPA2
            clear hpa hg1 hg2 hown1 hor1 hcell
            go_wp2_with fail
            refine HPA2.out.mono ?_
            rintro e w3 ⟨rfl, hb1⟩
            have hg4 : w2.grownBy w3 none := ⟨hb1.os, hb1.tape, hb1.output, hb1.size, fun i hi _ => hb1.block i hi⟩
            go_wp2
            simp only [Exit.jump_ret]
            refine bodyPost_ret (v := .tuple #[.slice oa l.length oc, .int .i64 0]) (by simp [results, Try.results32, go_sem]) rfl ⟨_, rfl, (hown2.below hb1).mono (by omega), ?_, grown_then hg3 hg4 (by simp)⟩
            exact h2.grown hg4
  · intro J hJ
    have k0 := h.grown (grown_alloc w (.cells #[.int .i64 kind] 3) none)
    have k1 := k0.grown (grown_alloc _ (.cells #[.int .u64 9] 44) none)
    have kc := (Cell1.new w (.int .i64 kind) 3).alloc (.cells #[.int .u64 9] 44)
    have kd := Cell1.lit (w.alloc (.cells #[.int .i64 kind] 3)) (w.heap.size + 1) (.int .u64 9) 44 (by simp)
    have kg := (grown_alloc w (.cells #[.int .i64 kind] 3) (some B)).trans (grown_alloc _ (.cells #[.int .u64 9] 44) (some B))
    have HJ := Lib.hid hJ.out
    clear hJ k0 h
    go_wp2_with fail
    refine (only_any 9 _).mono ?_
    rintro e w1 ⟨rfl, rfl⟩
    generalize (w.alloc (.cells #[.int .i64 kind] 3)).alloc (.cells #[.int .u64 9] 44) = w1 at *
    have h9 := H9.out w1 (w.heap.size + 1) kd (by omega) k1
    have H9' := Lib.hid h9
    clear h9
    go_wp2_with fail
    refine H9'.out.mono ?_
    rintro e w2 ⟨rfl, h2, hg2⟩
    have kc2 := kc.grown hg2 (by simp; omega)
    have kg2 := kg.trans hg2
    clear H9' k1 kc kd kg hg2
    go_wp2
    go_step3
    go_step
    go_step
    refine HJ.out 1 _ _ ⟨0, 1, k + 1, 1, _, _, _, _, _, _, _, _, _, _, _, _, _, _, _, _, _, _, _, _, _, _, _, _, _, _, _, _, _, _, _, _, _, _, _, _, _, _, _, _, _, _, _, _, _, _, _, _, _, _, _, _, _, _, _, _, _, _, _, _, _, _, _, _, _, _, ⟨rfl, .inl ⟨rfl, rfl, rfl⟩, rfl, World.ownsRow_nil _ _ _ _, h2, kc2, kg2⟩, rfl⟩
end Go.Proofs.Ytephdnahmgfmeaa
