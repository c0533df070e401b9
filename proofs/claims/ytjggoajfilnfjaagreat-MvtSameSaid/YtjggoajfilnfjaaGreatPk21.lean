/-
  table.once, (*table.Table).Check: of a right table. (*table.Table).Attrs: of right tags. Features of our own: what keeps them readable; rows of points behind values as rings. All blocks of a first world but some lie as they lay. mvt.readTags: of right tags.
-/
import Derived.Test.YtjggoajfilnfjaaGreatPk16
import Derived.Test.YtjggoajfilnfjaaGreatPk14
import Derived.Test.YtjggoajfilnfjaaGreatPk20
import Derived.Test.YtjggoajfilnfjaaGreatPk13
import Derived.Test.YtjggoajfilnfjaaGreatPk8
import Derived.Test.YtjggoajfilnfjaaGreatPk17
import Derived.Test.YtjggoajfilnfjaaGreatPk7
/- table.once, (*table.Table).Check: of a right table. -/
set_option linter.unusedVariables false
set_option linter.unusedSimpArgs false
set_option maxRecDepth 100000
namespace Go
open Go.RowKit
theorem ba_ext {a b : ByteArray} (h : a.data.toList = b.data.toList) : a = b := ByteArray.ext (Array.toList_inj.1 h)
theorem nodup_at {α : Type} {l : List α} (h : l.Nodup) (k : Nat) (hk : k < l.length) : l[k] ∉ l.take k := by
  intro hm; have h3 : l[k] ∈ l.drop k := by rw [List.drop_eq_getElem_cons hk]; exact List.mem_cons_self
  rw [← List.take_append_drop k l] at h; have h2 := (List.nodup_append.1 h).2.2 _ hm _ h3; exact h2 rfl
end Go
namespace Go.Proofs.YtjggoajfilnfjaaGreat
open Go.RowKit
theorem chk1_ok (k : ByteArray) (hk : k.size ≤ maxLen) (hn : nameF k = true) (w : World) :
    Calls Tryz.prog 109 #[.string k] w fun e w' => e = .returned (.int .i64 0) ∧ Below w.heap.size w w' := by
  have HN := Lib.hid (name_any k hk w); rw [hn] at HN; clear hn
  go_enter Tryz.func109, Tryz.ntmps109
  go_wp2_with fail
  refine HN.out.mono ?_; rintro e w1 ⟨rfl, hb⟩; go_wp2; go_ret; exact ⟨rfl, hb⟩
set_option maxHeartbeats 3200000 in
theorem onceS_ok (a : Option Addr) (c : Nat) (ks : List ByteArray) (hlen : ks.length ≤ 100000) (hok : ∀ k ∈ ks, nameF k = true ∧ k.size ≤ maxLen) (hnd : ks.Nodup) (w : World) (hr : Rd w a (ks.map Value.string)) :
    Calls Tryz.prog 108 #[.slice a ks.length c, .func (.func 109) #[] #[]] w fun e w' => e = .returned (.int .i64 0) ∧ Below w.heap.size w w' := by
  have HR := Lib.hid hr; have HOK := Lib.hid hok; have HND := Lib.hid (fun k h => nodup_at hnd k h); obtain ⟨N, hN⟩ : ∃ N, ks.length = N := ⟨_, rfl⟩; have HN := Lib.hid hN; rw [hN] at hlen ⊢; clear hr hok hnd hN; have hmm := @run_makeMap Tryz.prog; obtain ⟨B, hB⟩ : ∃ B, w.heap.size = B := ⟨_, rfl⟩; have hwB : w.heap.size ≤ B := by omega
  have hS0 := StrSet.made Tryz.prog 9 4 w; rw [hB] at hS0; have hb0 := (Below.refl w.heap.size w).alloc (Nat.le_refl _) (.map #[] 0)
  go_enter Tryz.func108, Tryz.ntmps108
  go_wp2
  try rw [hB]
  generalize w.alloc (.map #[] 0) = w0 at *; clear hB
  go_loopw [12] (fun i wr => ∃ (k : Nat) (met : List (List UInt8)), k ≤ N ∧ i = .int .i64 k ∧ Hid (∀ s ∈ met, ∃ x ∈ ks.take k, x.data.toList = s) ∧ Hid (StrSet Tryz.prog 9 4 wr B k met) ∧ Below w.heap.size w wr) (fun i _ => N - (intOf i).toNat)
  case atStart => exact ⟨0, [], by omega, rfl, Lib.hid (by simp), Lib.hid hS0, hb0⟩
  case round =>
    clear hS0 hb0; obtain ⟨k, met, hk, rfl, HM, HS, hbl⟩ := hrel; have hNl := HN.out
    by_cases hlt : k < N
    · have hlt' : (k : Int) < (N : Int) := by omega
      have hkl : k < ks.length := by omega
      obtain ⟨b1, o1, rfl, c0, -⟩ := (HR.out.keep hbl).at (i := k) (v := .string ks[k]) (by simp [hkl]); obtain ⟨q1, q2⟩ := HOK.out ks[k] (List.getElem_mem hkl); have HC := Lib.hid (fun W => chk1_ok ks[k] q2 q1 W); have hnm : ks[k].data.toList ∉ met := fun hm => by
        obtain ⟨x, hx, he⟩ := HM.out _ hm; exact HND.out k hkl (by rw [← ba_ext he]; exact hx)
      have HM2 : Hid (∀ s ∈ ks[k].data.toList :: met, ∃ x ∈ ks.take (k + 1), x.data.toList = s) := Lib.hid (fun s hs => by
        rw [List.take_succ_eq_append_getElem hkl]
        rcases List.mem_cons.1 hs with rfl | hs
        · exact ⟨_, List.mem_append.2 (.inr (List.mem_singleton.2 rfl)), rfl⟩
        · obtain ⟨x, hx, he⟩ := HM.out s hs; exact ⟨x, List.mem_append.2 (.inl hx), he⟩)
      clear q1 HM; generalize ks[k] = NM at *
      go_wp2_with fail
      refine (HC.out wr).mono ?_; rintro e W1 ⟨rfl, hx⟩; have hS1 := HS.out.below hx; have hb1 := hbl.trans (hx.mono hbl.size); have hlB := hS1.lt; have hlk := hS1.look Tryz.underlying75 Tryz.underlying9 Tryz.underlying4 (Tryz.zeroB W1) NM q2; rw [decide_eq_false hnm] at hlk; clear hx HS hbl hnm c0 HC
      go_wp2_with (at_mapUpdate; go_must (refine wpList_set_add W1 rfl (.tmp 25) (.tmp 26) (.const (.bool true)) rfl Tryz.underlying75 Tryz.underlying9 Tryz.underlying4 B k met rfl hS1 (by unfold maxLen; omega) NM q2 rfl rfl ?_); intro W4 hS4 hg4; have hb4 := hb1.grown hg4 hb1.size (fun j hj => by cases hj; exact hwB); clear hS1 hg4 hlk hb1)
      go_roundw
      case rel => exact ⟨k + 1, _, by omega, by go_num, HM2, Lib.hid hS4, hb4⟩
      case measure => simp [intOf]; omega
    · have hlt' : ¬ (k : Int) < (N : Int) := by omega
      go_wp2; go_ret; exact ⟨rfl, hbl⟩
set_option maxHeartbeats 3200000 in
theorem onceV_ok (a : Option Addr) (c : Nat) (vs : List VV) (hlen : vs.length ≤ 100000) (hok : ∀ v ∈ vs, vE v = 0) (hnd : vs.Nodup) (w : World) (hr : Rd w a (vvs vs)) :
    Calls Tryz.prog 110 #[.slice a vs.length c, .func (.func 81) #[] #[]] w fun e w' => e = .returned (.int .i64 0) ∧ Below w.heap.size w w' := by
  have HR := Lib.hid hr; have HOK := Lib.hid hok; have HND := Lib.hid (fun k h => nodup_at hnd k h); obtain ⟨N, hN⟩ : ∃ N, vs.length = N := ⟨_, rfl⟩; have HN := Lib.hid hN; rw [hN] at hlen ⊢; clear hr hok hnd hN; have hmm := @run_makeMap Tryz.prog; obtain ⟨B, hB⟩ : ∃ B, w.heap.size = B := ⟨_, rfl⟩; have hwB : w.heap.size ≤ B := by omega
  have hS0 := VSet.made Tryz.prog 101 vVal w B hB; have hb0 := (Below.refl w.heap.size w).alloc (Nat.le_refl _) (.map #[] 0)
  go_enter Tryz.func110, Tryz.ntmps110
  go_wp2
  try rw [hB]
  generalize w.alloc (.map #[] 0) = w0 at *; clear hB
  go_loopw [12] (fun i wr => ∃ (k : Nat), k ≤ N ∧ i = .int .i64 k ∧ Hid (VSet Tryz.prog 101 vVal wr B (vs.take k)) ∧ Below w.heap.size w wr) (fun i _ => N - (intOf i).toNat)
  case atStart => exact ⟨0, by omega, rfl, Lib.hid hS0, hb0⟩
  case round =>
    clear hS0 hb0; obtain ⟨k, hk, rfl, HS, hbl⟩ := hrel; have hNl := HN.out
    by_cases hlt : k < N
    · have hlt' : (k : Int) < (N : Int) := by omega
      have hkl : k < vs.length := by omega
      obtain ⟨b1, o1, rfl, hbb, c0, c1, c2⟩ := (HR.out.keep hbl).vv k hkl; have q1 := HOK.out vs[k] (List.getElem_mem hkl); have hnm := HND.out k hkl; have htk := List.take_succ_eq_append_getElem hkl; have htl : (vs.take k).length < maxLen := by rw [List.length_take]; unfold maxLen; omega
      generalize vs[k] = v at *; obtain ⟨PK, hPK⟩ : ∃ p, vs.take k = p := ⟨_, rfl⟩; obtain ⟨PN, hPN⟩ : ∃ p, vs.take (k + 1) = p := ⟨_, rfl⟩; rw [hPK] at HS hnm htk htl; rw [hPN] at htk; have HPN := Lib.hid hPN; clear hPK hPN; have hz := vE_zero v q1; have hsz : v.2.1.size ≤ maxLen := by
        unfold maxLen
        rcases hz with ⟨-, -, h⟩ | ⟨-, h, -⟩ | ⟨-, h, -⟩ | ⟨-, h, -⟩
        · omega
        all_goals (rw [h]; decide)
      have hwf1 : (Lit.int .i64 v.1).wf = true := WalkArith.wf_i64 (by omega); have hwf2 : (Lit.int .i64 v.2.2).wf = true := WalkArith.wf_i64 (by omega); have HKY := Lib.hid (kv.key v hwf1 hsz hwf2); have HC := Lib.hid (fun W => vchk_any v.1 v.2.2 v.2.1 hsz W); have hvc : vcF v.1 v.2.1 v.2.2 = 0 := q1; rw [hvc] at HC; have HVV : Hid (vVal v = .agg #[.int .i64 v.1, .string v.2.1, .int .i64 v.2.2]) := Lib.hid rfl; have HTK := Lib.hid htk; have HNM := Lib.hid hnm; clear hvc hwf1 hwf2 hz q1 htk hnm; obtain ⟨x1, x2, x3⟩ := v; dsimp only at c0 c1 c2 HC HVV hsz; have hx3 := Below.new wr (.cells #[.int .i64 x1, .string x2, .int .i64 x3] 101); have kF := Blk.new wr [.int .i64 x1, .string x2, .int .i64 x3] 101; have g0 := kF.cell 0 rfl; have g1 := kF.cell 1 rfl; have g2 := kF.cell 2 rfl; have hS1 := HS.out.keep hx3; have hb1 := hbl.trans (hx3.mono hbl.size); clear HS hbl
      go_wp2_with fail
      obtain ⟨F, hF⟩ : ∃ F, wr.heap.size = F := ⟨_, rfl⟩; rw [hF] at kF g0 g1 g2 ⊢; clear c0 c1 c2 hx3 hF g0 g1 g2; generalize wr.alloc (.cells #[.int .i64 x1, .string x2, .int .i64 x3] 101) = wx at *; refine (HC.out wx).mono ?_; rintro e W1 ⟨rfl, hx⟩; have hS1 := hS1.keep hx; have kF := kF.keep hx; have hb1 := hb1.trans (hx.mono hb1.size); have g0 := kF.cell 0 rfl; have g1 := kF.cell 1 rfl; have g2 := kF.cell 2 rfl; clear hx HC; have hlk : (Instr.lookup 216 (.map (some B)) (.agg #[.int .i64 x1, .string x2, .int .i64 x3]) false).run Tryz.prog W1 = .ok (.bool false) W1 := by
        obtain ⟨m, h, -⟩ := hS1; have h2 := h.look kv.val Tryz.underlying216 (Tryz.zeroB W1) HKY.out; have h3 : setF PK (x1, x2, x3) = none := if_neg HNM.out; rw [h3] at h2; exact h2
      go_wp2_with (at_mapUpdate; go_must (refine wpList_vset_put (T := 216) W1 rfl (.tmp 25) (.tmp 26) (.const (.bool true)) rfl kv.val vVal_inj Tryz.underlying216 rfl hS1 htl (x1, x2, x3) rfl HKY.out rfl ?_); intro W4 hS4 hg4; have hb4 := hb1.grown hg4 hb1.size (fun j hj => by cases hj; exact hwB); clear hS1 hg4 hb1 hlk)
      go_roundw
      case rel => exact ⟨k + 1, by omega, by go_num, Lib.hid (by rw [HPN.out, HTK.out]; exact hS4), hb4⟩
      case measure => simp [intOf]; omega
    · have hlt' : ¬ (k : Int) < (N : Int) := by omega
      go_wp2; go_ret; exact ⟨rfl, hbl⟩
set_option maxHeartbeats 3200000 in
theorem tbchk_ok (B : Nat) (t : TB) (ht : TbOk t) (h1 : ∀ k ∈ t.1, k.size ≤ maxLen) (hl : t.1.length ≤ 100000 ∧ t.2.length ≤ 100000) (w : World) (htb : TbIn w B t) :
    Calls Tryz.prog 89 #[.pointer (some ⟨B, 0, none⟩)] w fun e w' => e = .returned (.int .i64 0) ∧ Below w.heap.size w w' := by
  obtain ⟨kp, kc, vp, vc, k1, ⟨hk, -⟩, ⟨hv, -⟩⟩ := htb; have H1 := Lib.hid (onceS_ok kp kc t.1 hl.1 (fun k hm => ⟨ht.2.1 k hm, h1 k hm⟩) ht.1 w hk); have H2 := Lib.hid (fun W (h : Below w.heap.size w W) => onceV_ok vp vc t.2 hl.2 ht.2.2.2 ht.2.2.1 W (hv.keep h)); have c0 := k1.cell 0 rfl; generalize t.1.length = n1 at *; generalize t.2.length = n2 at *; clear ht h1 hl hk hv
  go_enter Tryz.func89, Tryz.ntmps89
  go_wp2_with fail
  refine H1.out.mono ?_; rintro e w1 ⟨rfl, hb1⟩; have c1 := (k1.keep hb1).cell 1 rfl; clear c0 k1 H1
  go_wp2_with fail
  refine (H2.out _ hb1).mono ?_; rintro e w2 ⟨rfl, hb2⟩; have hb := hb1.trans (hb2.mono hb1.size); go_wp2; go_ret; exact ⟨rfl, hb⟩
end Go.Proofs.YtjggoajfilnfjaaGreat
/- (*table.Table).Attrs: of right tags. -/
set_option linter.unusedVariables false
set_option linter.unusedSimpArgs false
set_option maxRecDepth 100000
namespace Go
open Go.RowKit
theorem StrSet.kept {P : Program} {K E : TypeId} {w w' : World} {b n : Nat} {ks : List (List UInt8)} {r : Option Nat} (h : StrSet P K E w b n ks) (hg : w.grownBy w' r) (hne : some b ≠ r) : StrSet P K E w' b n ks := by
  obtain ⟨D, hD, hm, hk⟩ := h; have hl := hD.lt; obtain ⟨es, clock, he, r⟩ := hD; exact ⟨D, ⟨es, clock, (hg.block b hl hne).trans he, r⟩, hm, hk⟩
end Go
namespace Go.Proofs.YtjggoajfilnfjaaGreat
open Go.RowKit
theorem Tryz.infoAttr : (Tryz.prog.info? 103).map (fun i => (i.zero, i.size, i.bytes)) = some (some (.agg #[.string ⟨#[]⟩, .int .i64 0, .string ⟨#[]⟩, .int .i64 0]), 4, 48) := by kernel_rfl
set_option maxHeartbeats 12800000 in
theorem attrs_ok (B : Nat) (kp : Option Addr) (kc : Nat) (vp : Option Addr) (vc : Nat) (t : TB) (a : Option Addr) (c : Nat) (tags : List Int) (ls : List At) (hT : TagsOf t tags ls) (hn : ls.length ≤ 8) (hnd : (ls.map (·.key.data.toList)).Nodup) (hks : ∀ k ∈ t.1, k.size ≤ maxLen) (hl : t.1.length ≤ 1000 ∧ t.2.length ≤ 1000)
    (w : World) (kB : Blk w B [.slice kp t.1.length kc, .slice vp t.2.length vc]) (hkr : Rd w kp (t.1.map Value.string)) (hvr : Rd w vp (vvs t.2)) (hr : Rd w a (tags.map (Value.int .i64))) :
    Calls Tryz.prog 112 #[.pointer (some ⟨B, 0, none⟩), .slice a tags.length c] w fun e w' => ∃ v, e = .returned (.tuple #[v, .int .i64 0]) ∧ w'.ownsRow w.heap.size 103 4 v ls.length (ats ls) ∧ Below w.heap.size w w' := by
  obtain ⟨hT0, hT1⟩ := hT; have HT := Lib.hid hT1; have HND := Lib.hid (fun k h => nodup_at hnd k h); have HKS := Lib.hid hks; have HKR := Lib.hid hkr; have HVR := Lib.hid hvr; have HR := Lib.hid hr; obtain ⟨n, hln⟩ : ∃ n, ls.length = n := ⟨_, rfl⟩; have HN := Lib.hid hln; obtain ⟨n1, hn1⟩ : ∃ n, t.1.length = n := ⟨_, rfl⟩; have HN1 := Lib.hid hn1; obtain ⟨n2, hn2⟩ : ∃ n, t.2.length = n := ⟨_, rfl⟩; have HN2 := Lib.hid hn2; rw [hn1, hn2] at kB; rw [hln] at hT0 hn ⊢; rw [hn1, hn2] at hl; obtain ⟨NT, hNT⟩ : ∃ m, tags.length = m := ⟨_, rfl⟩; have HNT := Lib.hid hNT; rw [hNT] at hT0 ⊢; clear hNT; have KB := Lib.hid kB; have HTL := Lib.hid hT0; clear hT1 hnd hks hkr hvr hr hln hn1 hn2 hT0; have hmm := @run_makeMap Tryz.prog; obtain ⟨Mp, hMp⟩ : ∃ B, w.heap.size = B := ⟨_, rfl⟩; have hwM : w.heap.size ≤ Mp := by omega
  have hS0 := StrSet.made Tryz.prog 9 4 w; rw [hMp] at hS0; have hb0 := (Below.refl w.heap.size w).alloc (Nat.le_refl _) (.map #[] 0); have hs0 : (w.alloc (.map #[] 0)).heap.size = Mp + 1 := by simp [hMp]
  have q1 : (NT : Int).tmod 2 = 0 := by rw [Int.tmod_eq_emod_of_nonneg (by omega), HTL.out]; omega
  have q2 : ¬ (16 : Int) < (NT : Int) := by have := HTL.out; omega
  go_enter Tryz.func112, Tryz.ntmps112
  go_wp2
  try rw [hMp]
  generalize w.alloc (.map #[] 0) = w1 at *; have hw1 : w.heap.size ≤ w1.heap.size := by omega
  have hM1 : Mp < w1.heap.size := by omega
  clear hMp q1 q2 hs0
  go_loopw [7, 8] (fun u7 i wr => ∃ (j p : Nat) (met : List (List UInt8)), j ≤ n ∧ i = .int .i64 (p : Nat) ∧ Hid (p = 2 * j) ∧ Hid (∀ s ∈ met, s ∈ (ls.map (·.key.data.toList)).take j) ∧ Hid (StrSet Tryz.prog 9 4 wr Mp j met) ∧ wr.ownsRow w1.heap.size 103 4 u7 j (ats (ls.take j)) ∧ w1.heap.size ≤ wr.heap.size ∧ Below w.heap.size w wr) (fun _ i _ => NT - (intOf i).toNat)
  case atStart => exact ⟨0, 0, [], by omega, rfl, Lib.hid rfl, Lib.hid (by simp), Lib.hid hS0, by simpa [ats] using World.ownsRow_nil _ _ _ _, Nat.le_refl _, hb0⟩
  case round =>
    clear hS0 hb0; obtain ⟨j, p, met, hj, rfl, HP, HM, HS, ho, hsz, hbl⟩ := hrel; have hNl := HN.out
    by_cases hlt : j < n
    · have hlt' : (p : Int) < (NT : Int) := by have := HP.out; have := HTL.out; omega
      have hlt2 : (p : Int) + 1 < (NT : Int) := by have := HP.out; have := HTL.out; omega
      have hlt3 : ¬ (p : Int) + 1 < 0 := by omega
      have hpb : (p : Int) + 1 ≤ 100 := by have := HP.out; omega
      have hjl : j < ls.length := by omega
      obtain ⟨k, v, g1, g2, g3, g4⟩ := HT.out j hjl; obtain ⟨b1, o1, rfl, c0, -⟩ := (HR.out.keep hbl).at (i := p) (v := .int .i64 (k : Int)) (by rw [List.getElem?_map, HP.out, g1]; rfl); obtain ⟨b1', o1', he, c1, -⟩ := (HR.out.keep hbl).at (i := p + 1) (v := .int .i64 (v : Int)) (by rw [List.getElem?_map, HP.out, g2]; rfl)
      cases he
      have hk1 := (List.getElem?_eq_some_iff.1 g3).1; have hv1 := (List.getElem?_eq_some_iff.1 g4).1; have hkm := List.mem_of_getElem? g3; have hksz := HKS.out _ hkm; have hnm : ls[j].key.data.toList ∉ met := fun hm => by
        have h := HM.out _ hm; have h2 := HND.out j (by rw [List.length_map]; exact hjl); rw [List.getElem_map] at h2; exact h2 h
      have HM2 : Hid (∀ s ∈ ls[j].key.data.toList :: met, s ∈ (ls.map (·.key.data.toList)).take (j + 1)) := Lib.hid (fun s hs => by
        rw [List.take_succ_eq_append_getElem (by rw [List.length_map]; exact hjl), List.getElem_map]
        rcases List.mem_cons.1 hs with rfl | hs
        · exact List.mem_append.2 (.inr (List.mem_singleton.2 rfl))
        · exact List.mem_append.2 (.inl (HM.out s hs)))
      obtain ⟨b2, o2, hkp, ec0, -⟩ := HKR.out.at (i := k) (v := .string ls[j].key) (by rw [List.getElem?_map, g3]; rfl); obtain ⟨b3, o3, hvp, -, ev0, ev1, ev2⟩ := HVR.out.vv v hv1; rw [(List.getElem?_eq_some_iff.1 g4).2] at ev0 ev1 ev2; subst hkp; subst hvp; have HKC : Hid (∀ V, Below w.heap.size w V → V.cell? ⟨b2, o2 + k, none⟩ = some (.string ls[j].key)) := Lib.hid (fun V h => by
        obtain ⟨b, o, e, h2, -⟩ := (HKR.out.keep h).at (i := k) (v := .string ls[j].key) (by rw [List.getElem?_map, g3]; rfl)
        cases e
        exact h2)
      have HVC : Hid (∀ V, Below w.heap.size w V → V.cell? ⟨b3, o3 + v * 3, none⟩ = some (.int .i64 ls[j].kind) ∧ V.cell? ⟨b3, o3 + v * 3 + 1, none⟩ = some (.string ls[j].text) ∧ V.cell? ⟨b3, o3 + v * 3 + 2, none⟩ = some (.int .i64 ls[j].n)) := Lib.hid (fun V h => by
        obtain ⟨b, o, e, -, h2, h3, h4⟩ := (HVR.out.keep h).vv v hv1
        cases e
        rw [(List.getElem?_eq_some_iff.1 g4).2] at h2 h3 h4; exact ⟨h2, h3, h4⟩)
      have htk : ls.take (j + 1) = ls.take j ++ [ls[j]] := List.take_succ_eq_append_getElem hjl; clear g1 g2 g3 g4 hkm HM ec0 ev0 ev1 ev2; have hkn : (k : Int) < (n1 : Int) := by have := HN1.out; omega
      have hvn : (v : Int) < (n2 : Int) := by have := HN2.out; omega
      have hk0 : ¬ (k : Int) < 0 := by omega
      have hv0 : ¬ (v : Int) < 0 := by omega
      generalize ls[j] = x at *; obtain ⟨ky, x1, x2, x3⟩ := x; dsimp only at hksz hnm HM2 HKC HVC; have HTK : Hid (ats (ls.take (j + 1)) = ats (ls.take j) ++ [.string ky, .int .i64 x1, .string x2, .int .i64 x3]) := Lib.hid (by rw [htk, ats_snoc]; rfl); have k0 := (KB.out.keep hbl).cell 0 rfl; have k1 := (KB.out.keep hbl).cell 1 rfl; have kk := HKC.out _ hbl; clear htk hk1 hv1; have hS1 := HS.out; clear HS; go_wp2
      go_quiet (fail)
      have hdr : Below wr.heap.size wr (wr.drewN nq) := ⟨rfl, rfl, rfl, Nat.le_refl _, fun _ _ => rfl⟩; have hb1 := hbl.trans (hdr.mono hbl.size); have hS2 := hS1.below hdr; have ho2 := ho.below hdr; have hsz2 : w1.heap.size ≤ (wr.drewN nq).heap.size := hsz; clear hS1 ho hsz hbl k0 k1 kk c0 c1 hdr; generalize wr.drewN nq = W0 at *; have k0 := (KB.out.keep hb1).cell 0 rfl; have k1 := (KB.out.keep hb1).cell 1 rfl; have kk := HKC.out _ hb1; have hlk := hS2.look Tryz.underlying75 Tryz.underlying9 Tryz.underlying4 (Tryz.zeroB W0) ky hksz; rw [decide_eq_false hnm] at hlk; clear hnm
      go_wp2_with (at_mapUpdate; go_must (refine wpList_set_add W0 rfl (.tmp 74) (.tmp 81) (.const (.bool true)) rfl Tryz.underlying75 Tryz.underlying9 Tryz.underlying4 Mp j met rfl hS2 (by unfold maxLen; omega) ky hksz rfl rfl ?_); intro W4 hS4 hg4; have hb4 := hb1.grown hg4 hb1.size (fun i hi => by cases hi; exact hwM); have ho4 := ho2.kept hg4 (.inr (fun e => by have := (ho2.lt _ e).1; omega)); have hsz4 := Nat.le_trans hsz2 hg4.size; clear hS2 hg4 hlk hb1 ho2 hsz2 k0 k1 kk)
      refine wp_region_sched 19 [0, 1, 2, 3, 4, 5, 6, 7, 8, 9, 10, 11, 12, 13, 14, 15, 18] (fun V => Below w.heap.size w V) rfl (by kernel_rfl) (by kernel_rfl) ?_; have HB : Below w.heap.size w W4.drew := hb4.trans (((Below.refl _ W4).drew).mono hb4.size); have ho5 : W4.drew.ownsRow w1.heap.size 103 4 u7 j (ats (ls.take j)) := ho4.below (Below.refl _ _).drew; have hS5 : StrSet Tryz.prog 9 4 W4.drew Mp (j + 1) (ky.data.toList :: met) := hS4.below (Below.refl _ _).drew; have hsz5 : w1.heap.size ≤ W4.drew.heap.size := hsz4; generalize W4.drew = V0 at *
      (refine sched_light 0 _ ?_ (by kernel_rfl) (by kernel_rfl) rfl rfl ?_ HB ?_; rotate_left; · (intro w' hS; (try dsimp only at hS); go_simp; with_reducible rfl)); try simp only [Act.put, List.getElem_toArray, List.getElem_cons_succ, List.getElem_cons_zero, List.setIfInBounds_toArray, List.set_cons_zero, List.set_cons_succ]
      (refine sched_light 1 _ ?_ (by kernel_rfl) (by kernel_rfl) rfl rfl ?_ HB ?_; rotate_left; · (intro w' hS; (try dsimp only at hS); go_simp; with_reducible rfl)); try simp only [Act.put, List.getElem_toArray, List.getElem_cons_succ, List.getElem_cons_zero, List.setIfInBounds_toArray, List.set_cons_zero, List.set_cons_succ]
      (refine sched_light 2 _ ?_ (by kernel_rfl) (by kernel_rfl) rfl rfl ?_ HB ?_; rotate_left; · (intro w' hS; (try dsimp only at hS); go_simp; with_reducible rfl)); try simp only [Act.put, List.getElem_toArray, List.getElem_cons_succ, List.getElem_cons_zero, List.setIfInBounds_toArray, List.set_cons_zero, List.set_cons_succ]
      (refine sched_light 3 _ ?_ (by kernel_rfl) (by kernel_rfl) rfl rfl ?_ HB ?_; rotate_left; · (intro w' hS; (try dsimp only at hS); go_simp; with_reducible rfl)); try simp only [Act.put, List.getElem_toArray, List.getElem_cons_succ, List.getElem_cons_zero, List.setIfInBounds_toArray, List.set_cons_zero, List.set_cons_succ]
      refine sched_light 4 _ (.slice (some ⟨b2, o2, none⟩) n1 kc) (by kernel_rfl) (by kernel_rfl) rfl rfl ?_ HB ?_
      · intro w' hS; have e0 := (KB.out.keep hS).cell 0 rfl; clear hS; go_simp
      try simp only [Act.put, List.getElem_toArray, List.getElem_cons_succ, List.getElem_cons_zero, List.setIfInBounds_toArray, List.set_cons_zero, List.set_cons_succ]
      (refine sched_light 5 _ ?_ (by kernel_rfl) (by kernel_rfl) rfl rfl ?_ HB ?_; rotate_left; · (intro w' hS; (try dsimp only at hS); go_simp; with_reducible rfl)); try simp only [Act.put, List.getElem_toArray, List.getElem_cons_succ, List.getElem_cons_zero, List.setIfInBounds_toArray, List.set_cons_zero, List.set_cons_succ]
      (refine sched_light 6 _ ?_ (by kernel_rfl) (by kernel_rfl) rfl rfl ?_ HB ?_; rotate_left; · (intro w' hS; (try dsimp only at hS); go_simp; with_reducible rfl)); try simp only [Act.put, List.getElem_toArray, List.getElem_cons_succ, List.getElem_cons_zero, List.setIfInBounds_toArray, List.set_cons_zero, List.set_cons_succ]
      refine sched_light 7 _ (.string ky) (by kernel_rfl) (by kernel_rfl) rfl rfl ?_ HB ?_
      · intro w' hS; have e0 := HKC.out _ hS; clear hS; go_simp
      try simp only [Act.put, List.getElem_toArray, List.getElem_cons_succ, List.getElem_cons_zero, List.setIfInBounds_toArray, List.set_cons_zero, List.set_cons_succ]
      (refine sched_light 8 _ ?_ (by kernel_rfl) (by kernel_rfl) rfl rfl ?_ HB ?_; rotate_left; · (intro w' hS; (try dsimp only at hS); go_simp; with_reducible rfl)); try simp only [Act.put, List.getElem_toArray, List.getElem_cons_succ, List.getElem_cons_zero, List.setIfInBounds_toArray, List.set_cons_zero, List.set_cons_succ]
      (refine sched_light 9 _ ?_ (by kernel_rfl) (by kernel_rfl) rfl rfl ?_ HB ?_; rotate_left; · (intro w' hS; (try dsimp only at hS); go_simp; with_reducible rfl)); try simp only [Act.put, List.getElem_toArray, List.getElem_cons_succ, List.getElem_cons_zero, List.setIfInBounds_toArray, List.set_cons_zero, List.set_cons_succ]
      (refine sched_light 10 _ ?_ (by kernel_rfl) (by kernel_rfl) rfl rfl ?_ HB ?_; rotate_left; · (intro w' hS; (try dsimp only at hS); go_simp; with_reducible rfl)); try simp only [Act.put, List.getElem_toArray, List.getElem_cons_succ, List.getElem_cons_zero, List.setIfInBounds_toArray, List.set_cons_zero, List.set_cons_succ]
      refine sched_light 11 _ (.slice (some ⟨b3, o3, none⟩) n2 vc) (by kernel_rfl) (by kernel_rfl) rfl rfl ?_ HB ?_
      · intro w' hS; have e0 := (KB.out.keep hS).cell 1 rfl; clear hS; go_simp
      try simp only [Act.put, List.getElem_toArray, List.getElem_cons_succ, List.getElem_cons_zero, List.setIfInBounds_toArray, List.set_cons_zero, List.set_cons_succ]
      (refine sched_light 12 _ ?_ (by kernel_rfl) (by kernel_rfl) rfl rfl ?_ HB ?_; rotate_left; · (intro w' hS; (try dsimp only at hS); go_simp; with_reducible rfl)); try simp only [Act.put, List.getElem_toArray, List.getElem_cons_succ, List.getElem_cons_zero, List.setIfInBounds_toArray, List.set_cons_zero, List.set_cons_succ]
      (refine sched_light 13 _ ?_ (by kernel_rfl) (by kernel_rfl) rfl rfl ?_ HB ?_; rotate_left; · (intro w' hS; (try dsimp only at hS); go_simp; with_reducible rfl)); try simp only [Act.put, List.getElem_toArray, List.getElem_cons_succ, List.getElem_cons_zero, List.setIfInBounds_toArray, List.set_cons_zero, List.set_cons_succ]
      refine sched_light 14 _ (.agg #[.int .i64 x1, .string x2, .int .i64 x3]) (by kernel_rfl) (by kernel_rfl) rfl rfl ?_ HB ?_
      · intro w' hS; obtain ⟨e0, e1, e2⟩ := HVC.out _ hS; clear hS; go_simp
      try simp only [Act.put, List.getElem_toArray, List.getElem_cons_succ, List.getElem_cons_zero, List.setIfInBounds_toArray, List.set_cons_zero, List.set_cons_succ]
      (refine sched_light 15 _ ?_ (by kernel_rfl) (by kernel_rfl) rfl rfl ?_ HB ?_; rotate_left; · (intro w' hS; (try dsimp only at hS); go_simp; with_reducible rfl)); try simp only [Act.put, List.getElem_toArray, List.getElem_cons_succ, List.getElem_cons_zero, List.setIfInBounds_toArray, List.set_cons_zero, List.set_cons_succ]
      refine sched_fork [16] (by kernel_rfl) (by kernel_rfl) (by simp) (fun i hi => ?_); obtain rfl : i = 16 := by simpa using hi
      refine sched_heavy 16 _ rfl rfl (fun K hK => ?_); go_step; have hx := Below.new V0 (.cells #[.string ky, .int .i64 x1, .string x2, .int .i64 x3] 103); have HB := HB.trans (hx.mono HB.size); have rdx := Rd.lit V0 V0.heap.size [.string ky, .int .i64 x1, .string x2, .int .i64 x3] 103 rfl; have ho6 := ho5.below hx; have hS6 := hS5.below hx; have hsz6 : w1.heap.size ≤ (V0.alloc (.cells #[.string ky, .int .i64 x1, .string x2, .int .i64 x3] 103)).heap.size := by simp; omega
      refine hK.out _ _ HB ?_; clear hK K ho5 hS5 hx; generalize V0.alloc (.cells #[.string ky, .int .i64 x1, .string x2, .int .i64 x3] 103) = V1 at *
      try simp only [Act.put, List.getElem_toArray, List.getElem_cons_succ, List.getElem_cons_zero, List.setIfInBounds_toArray, List.set_cons_zero, List.set_cons_succ]
      refine sched_fork [17] (by kernel_rfl) (by kernel_rfl) (by simp) (fun i hi => ?_); obtain rfl : i = 17 := by simpa using hi
      refine sched_heavy 17 _ rfl rfl (fun K hK => ?_); refine wp_app (.tmp 82) (.tmp 98) 50 rfl w1.heap.size 103 (.agg #[.string ⟨#[]⟩, .int .i64 0, .string ⟨#[]⟩, .int .i64 0]) 4 48 Tryz.underlying50 Tryz.infoAttr rfl (by decide) u7 j (ats (ls.take j)) rfl ho6 (some ⟨V0.heap.size, 0, none⟩) 1 1 [.string ky, .int .i64 x1, .string x2, .int .i64 x3] rfl (fun h => by cases h) rdx rfl (by simp [Value.oneCell']) (by omega) (by decide) hsz6 ?_; intro v7 V2 ho7 hg7; have hsz7 := Nat.le_trans hsz6 hg7.size; have hb7 := HB.grown hg7 HB.size (fun k h => Nat.le_trans hw1 (ho6.lt k h).1); have hS7 := hS6.kept hg7 (fun e => by have := (ho6.lt _ e.symm).1; omega); refine hK.out _ _ hb7 ?_; clear hK K ho6 hS6 hg7 rdx hsz6; have HB := hb7
      try simp only [Act.put, List.getElem_toArray, List.getElem_cons_succ, List.getElem_cons_zero, List.setIfInBounds_toArray, List.set_cons_zero, List.set_cons_succ]
      (refine sched_light 18 _ ?_ (by kernel_rfl) (by kernel_rfl) rfl rfl ?_ HB ?_; rotate_left; · (intro w' hS; (try dsimp only at hS); go_simp; with_reducible rfl)); try simp only [Act.put, List.getElem_toArray, List.getElem_cons_succ, List.getElem_cons_zero, List.setIfInBounds_toArray, List.set_cons_zero, List.set_cons_succ]
      refine sched_end (by kernel_rfl) ?_
      try simp only [Act.put, List.getElem_toArray, List.getElem_cons_succ, List.getElem_cons_zero, List.setIfInBounds_toArray, List.set_cons_zero, List.set_cons_succ]
      go_wp2; go_roundw
      case rel => exact ⟨j + 1, p + 2, _, by omega, by go_num, Lib.hid (by have := HP.out; omega), HM2, Lib.hid hS7, by rw [HTK.out]; exact ho7, hsz7, HB⟩
      case measure => simp [intOf]; omega
    · have hlt' : ¬ (p : Int) < (NT : Int) := by have := HP.out; have := HTL.out; omega
      obtain rfl : j = n := by omega
      have hta : ls.take j = ls := List.take_of_length_le (by omega); rw [hta] at ho; have ho2 := ho.mono hw1; go_wp2; exact bodyPost_ret (v := .tuple #[u7, .int .i64 0]) (by simp [results, Tryz.results112, go_sem]) rfl ⟨_, rfl, ho2, hbl⟩
end Go.Proofs.YtjggoajfilnfjaaGreat
/- Features of our own: what keeps them readable; rows of points behind values as rings. -/
set_option linter.unusedVariables false
set_option linter.unusedSimpArgs false
namespace Go
open Go.RowKit
def ByT (W : World) (base : Nat) (a : Option Addr) (T : TypeId) : Prop := TypB W a T ∧ ∀ b, a.map (·.block) = some b → base ≤ b
theorem ByT.of_owns {W : World} {base : Nat} {e : TypeId} {size n c m : Nat} {a : Option Addr} {xs : List Value} (h : W.ownsRow base e size (.slice a n c) m xs) : ByT W base a e := by
  refine ⟨typB_owns h, ?_⟩; obtain ⟨a2, c2, e2, -, -, -, -, h2⟩ := h.form
  cases e2
  exact fun b hb => (h2 b hb).1
theorem ByT.mono {W : World} {base base' : Nat} {a : Option Addr} {T : TypeId} (h : ByT W base a T) (hb : base' ≤ base) : ByT W base' a T := ⟨h.1, fun b hx => Nat.le_trans hb (h.2 b hx)⟩
theorem ByT.below {W W' : World} {base : Nat} {a : Option Addr} {T : TypeId} (h : ByT W base a T) (hb : Below W.heap.size W W') : ByT W' base a T := ⟨typB_below h.1 hb, h.2⟩
def Off (W : World) (base : Nat) (Ts : List TypeId) (r : Option Nat) : Prop := ∀ (b : Nat) (cs : Array Value) (T : TypeId) (fr : Nat × Nat), W.heap[b]? = some (.cells cs T fr) → T ∈ Ts → base ≤ b → some b ≠ r
theorem Off.low {W : World} {base R : Nat} {Ts : List TypeId} (h : R < base) : Off W base Ts (some R) := fun b _ _ _ _ _ hb e => by
  have := Option.some.inj e; omega
theorem Off.row {W : World} {base base2 : Nat} {Ts : List TypeId} {e : TypeId} {size n : Nat} {v : Value} {xs : List Value} (ho : W.ownsRow base2 e size v n xs) (he : e ∉ Ts) : Off W base Ts v.ownBlock := fun b cs T fr hc hT _ hx => by
  rcases ho.2 with ⟨rfl, _⟩ | ⟨g, cap, cur, rfl, _, hgb, _⟩
  · cases hx
  · obtain rfl : b = g := by simpa [Value.ownBlock] using hx
    rw [hgb] at hc
    cases hc
    exact he hT
theorem Off.walk {W : World} {base : Nat} {Ts : List TypeId} {r : Option Nat} (h : ∀ k, r = some k → ∃ o : Obj, W.heap[k]? = some o ∧ o.isCells = false) : Off W base Ts r := fun b cs T fr hc _ _ hx => by
  obtain ⟨o, ho, hi⟩ := h b hx.symm; rw [hc] at ho
  cases ho
  cases hi
theorem Off.none {W : World} {base : Nat} {Ts : List TypeId} : Off W base Ts none := fun _ _ _ _ _ _ _ h => by cases h
theorem ByT.ne {W : World} {base : Nat} {a : Option Addr} {T : TypeId} {Ts : List TypeId} {r : Option Nat} (h : ByT W base a T) (ho : Off W base Ts r) (hT : T ∈ Ts) : ∀ b, a.map (·.block) = some b → some b ≠ r := fun b hb => by
  obtain ⟨cs, fr, hc⟩ := h.1 b hb; exact ho b cs T fr hc hT (h.2 b hb)
theorem ByT.gr {W W' : World} {base : Nat} {a : Option Addr} {T : TypeId} {Ts : List TypeId} {r : Option Nat} (h : ByT W base a T) (hg : W.grownBy W' r) (ho : Off W base Ts r) (hT : T ∈ Ts) : ByT W' base a T := ⟨typB_grown h.1 hg (h.ne ho hT), h.2⟩
end Go
namespace Go.Proofs.YtjggoajfilnfjaaGreat
open Go.RowKit
def FtT (base : Nat) (W : World) (f : Ft) : Prop := f.Ok W ∧ ByT W base f.aa 103 ∧ ByT W base f.ra 80 ∧ ∀ r ∈ f.rs, ByT W base r.p 79
def ftTs : List TypeId := [103, 80, 79]
theorem FtT.mono {base base' : Nat} {W : World} {f : Ft} (h : FtT base W f) (hb : base' ≤ base) : FtT base' W f := ⟨h.1, h.2.1.mono hb, h.2.2.1.mono hb, fun r hr => (h.2.2.2 r hr).mono hb⟩
theorem FtT.below {base : Nat} {W W' : World} {f : Ft} (h : FtT base W f) (hb : Below W.heap.size W W') : FtT base W' f := ⟨h.1.keep hb, h.2.1.below hb, h.2.2.1.below hb, fun r hr => (h.2.2.2 r hr).below hb⟩
theorem FtT.gr {base : Nat} {W W' : World} {f : Ft} {r : Option Nat} (h : FtT base W f) (hg : W.grownBy W' r) (ho : Off W base ftTs r) : FtT base W' f := by
  obtain ⟨⟨⟨h1, h1'⟩, ⟨h2, h2'⟩, h3⟩, h4, h5, h6⟩ := h; refine ⟨⟨⟨h1.grown hg (h4.ne ho (by simp [ftTs])), h1'⟩, ⟨h2.grown hg (h5.ne ho (by simp [ftTs])), h2'⟩, fun x hx => ?_⟩, h4.gr hg ho (by simp [ftTs]), h5.gr hg ho (by simp [ftTs]), fun x hx => (h6 x hx).gr hg ho (by simp [ftTs])⟩; exact ⟨(h3 x hx).1.grown hg ((h6 x hx).ne ho (by simp [ftTs])), (h3 x hx).2⟩
theorem inP_pcs {H : Nat} {W : World} : ∀ {vals : List Value} {G : List (List Pt)}, InP 79 H W vals G → ∃ rs : List PC, vals = rcs rs ∧ rs.map (·.l) = G ∧ ∀ r ∈ rs, r.Ok W ∧ ByT W H r.p 79
  | [], [], _ => ⟨[], rfl, rfl, by simp⟩
  | [], _ :: _, h => by have := h.1; simp at this
  | _ :: _, [], h => by have := h.1; simp at this
  | v :: vals, g :: G, h => by
    obtain ⟨rs, h1, h2, h3⟩ := inP_pcs (vals := vals) (G := G) (W := W) (H := H) ⟨by simpa using h.1, fun j u k hu hk => h.2 (j + 1) u k (by simpa using hu) (by simpa using hk)⟩; have ho := h.2 0 v g rfl rfl; obtain ⟨a, c, rfl, p1, p2, p3, p4, -⟩ := ho.form; refine ⟨⟨g, a, c⟩ :: rs, by rw [h1]; rfl, by simp [h2], fun r hr => ?_⟩
    rcases List.mem_cons.1 hr with rfl | hr
    · exact ⟨⟨p4, p1, p2, p3⟩, ByT.of_owns ho⟩
    · exact h3 r hr
end Go.Proofs.YtjggoajfilnfjaaGreat
/- All blocks of a first world but some lie as they lay. -/
set_option linter.unusedVariables false
set_option linter.unusedSimpArgs false
namespace Go
open Go.RowKit
def KB (S : List Nat) (A B : World) : Prop := A.heap.size ≤ B.heap.size ∧ (B.os = A.os ∧ B.tape = A.tape ∧ B.output = A.output) ∧ ∀ k, k < A.heap.size → k ∉ S → B.heap[k]? = A.heap[k]?
theorem KB.refl (S : List Nat) (A : World) : KB S A A := ⟨Nat.le_refl _, ⟨rfl, rfl, rfl⟩, fun _ _ _ => rfl⟩
theorem KB.step {S : List Nat} {W0 A B : World} {r : Option Nat} (h : KB S W0 A) (hg : A.grownBy B r) (hr : ∀ k, r = some k → W0.heap.size ≤ k ∨ k ∈ S) : KB S W0 B :=
  ⟨Nat.le_trans h.1 hg.size, ⟨hg.os.trans h.2.1.1, hg.tape.trans h.2.1.2.1, hg.output.trans h.2.1.2.2⟩, fun k hk hn => (hg.block k (Nat.lt_of_lt_of_le hk h.1) (fun e => by
    rcases hr k e.symm with h1 | h1
    · omega
    · exact hn h1)).trans (h.2.2 k hk hn)⟩
theorem KB.below {S : List Nat} {w W0 B : World} (h : KB S W0 B) (h0 : Below w.heap.size w W0) (hS : ∀ k ∈ S, w.heap.size ≤ k) : Below w.heap.size w B :=
  ⟨h.2.1.1.trans h0.os, h.2.1.2.1.trans h0.tape, h.2.1.2.2.trans h0.output, Nat.le_trans h0.size h.1, fun k hk => (h.2.2 k (Nat.lt_of_lt_of_le hk h0.size) (fun hm => by have := hS k hm; omega)).trans (h0.block k hk)⟩
theorem KB.blk {S : List Nat} {W0 B : World} {b : Nat} {vs : List Value} (h : KB S W0 B) (hb : Blk W0 b vs) (hn : b ∉ S) : Blk B b vs := hb.of_block (h.2.2 b hb.lt hn)
theorem KB.boxed {S : List Nat} {W0 B : World} {b : Nat} {t : TypeId} {v : Value} (h : KB S W0 B) (hb : Boxed W0 b t v) (hn : b ∉ S) : Boxed B b t v := (h.2.2 b hb.lt hn).trans hb
theorem KB.rd {S : List Nat} {W0 B : World} {a : Option Addr} {vs : List Value} (h : KB S W0 B) (hr : Rd W0 a vs) (hne : ∀ b, a.map (·.block) = some b → b ∉ S) : Rd B a vs := by
  rcases hr with he | ⟨b, off, rfl, hc⟩
  · exact .inl he
  · refine .inr ⟨b, off, rfl, fun i v hv => ?_⟩; have hl := hc i v hv; have hb : b < W0.heap.size := by
      unfold World.cell? at hl; dsimp only at hl
      rcases hx : W0.heap[b]? with _ | o
      · rw [hx] at hl; cases hl
      · exact (Array.getElem?_eq_some_iff.1 hx).1
    have hbk := h.2.2 b hb (hne b rfl); unfold World.cell? at hl ⊢; dsimp only at hl ⊢; rw [hbk]; exact hl
theorem KB.own {β : Type} (S : List Nat) (W0 : World) : OwnFrom W0.heap.size (fun (_ : β) W => KB S W0 W) :=
  fun _ _ _ _ hs hg hr => hs.step hg (fun k e => .inl (hr k e).1)
theorem KB.kpf {a : Option Addr} {L : List FC} {Bn Bm : Nat} {S : List Nat} {W0 A B : World} (hA : KB S W0 A) (hB : KB S W0 B) (hr : Rd B a (flat L)) (hn : Bn < W0.heap.size) (hm : Bm < W0.heap.size) (h1 : Bn ∉ S) (h2 : Bm ∉ S) : KpF a L Bn Bm A B :=
  ⟨fun _ => hr, (hB.2.2 Bn hn h1).trans (hA.2.2 Bn hn h1).symm, (hB.2.2 Bm hm h2).trans (hA.2.2 Bm hm h2).symm⟩
theorem owns_own {β : Type} {B base : Nat} {e : TypeId} {size : Nat} {v : β → Value} {n : β → Nat} {xs : β → List Value} : OwnFrom B (fun s W => W.ownsRow base e size (v s) (n s) (xs s)) := by
  intro s X Y row h2 hg hr; refine h2.kept hg ?_
  rcases h2.2 with ⟨h, _⟩ | ⟨g, cap, cur, h, _, hgb, _⟩
  · rw [h]; exact .inl rfl
  · refine .inr fun e' => ?_; rw [h] at e'; obtain ⟨o, ho, hc⟩ := (hr g (by simpa [Value.ownBlock] using e'.symm)).2; rw [hgb] at ho
    cases ho
    cases hc
end Go
namespace Go
open Go.RowKit
def BkT (W : World) (b : Nat) (T : TypeId) (vs : List Value) : Prop := W.heap[b]? = some (.cells vs.toArray T (0, 0))
section
variable {W W' : World} {b : Nat} {T : TypeId} {vs : List Value}
theorem BkT.blk (h : BkT W b T vs) : Blk W b vs := ⟨T, h⟩
theorem BkT.lt (h : BkT W b T vs) : b < W.heap.size := h.blk.lt
theorem BkT.lit (w : World) (b : Nat) (vs : List Value) (T : TypeId) (hb : w.heap.size = b) : BkT (w.alloc (.cells vs.toArray T)) b T vs := by subst hb; exact heap_alloc_new w _
theorem BkT.of_block (h : BkT W b T vs) (hb : W'.heap[b]? = W.heap[b]?) : BkT W' b T vs := hb.trans h
theorem BkT.keep (h : BkT W b T vs) (hb : Below W.heap.size W W') : BkT W' b T vs := h.of_block (hb.block b h.lt)
theorem BkT.alloc (h : BkT W b T vs) (o : Obj) : BkT (W.alloc o) b T vs := h.of_block (heap_alloc_old W o h.lt)
theorem BkT.grown {r : Option Nat} (h : BkT W b T vs) (hg : W.grownBy W' r) (hne : some b ≠ r) : BkT W' b T vs := h.of_block (hg.block b h.lt hne)
theorem BkT.other (h : BkT W b T vs) {b' o : Nat} (hp : b ≠ b') (u : Value) : BkT (W.setCell ⟨b', o, none⟩ u) b T vs := h.of_block (Below.heap_setCell _ ⟨b', o, none⟩ _ _ hp)
theorem BkT.set (h : BkT W b T vs) (i : Nat) (u : Value) : BkT (W.setCell ⟨b, i, none⟩ u) b T (vs.set i u) := by
  have h2 : W.heap[b]? = some (.cells vs.toArray T (0, 0)) := h; have hl := h.lt; unfold BkT; simp [World.setCell, Array.getElem?_modify, h2]
end
end Go
namespace Go.Proofs.YtjggoajfilnfjaaGreat
open Go.RowKit
theorem Lies.below {W W' : World} {x : FC} (h : Lies W x) (hb : Below W.heap.size W W') : Lies W' x := ⟨h.1.keep hb, fun b hx => by
  obtain ⟨cs, fr, hc⟩ := h.2 b hx; exact ⟨cs, fr, (hb.block b (Array.getElem?_eq_some_iff.1 hc).1).trans hc⟩⟩
theorem Lies.set {W : World} {x : FC} (h : Lies W x) {R o : Nat} {T : TypeId} {vs : List Value} {u : Value} (hb : BkT W R T vs) (hT : T ≠ 5) : Lies (W.setCell ⟨R, o, none⟩ u) x := by
  have hne : ∀ b, x.p.map (·.block) = some b → b ≠ R := fun b hx e => by
    obtain ⟨cs, fr, hc⟩ := h.2 b hx; have h2 : W.heap[R]? = some (.cells vs.toArray T (0, 0)) := hb; rw [e, h2] at hc
    cases hc
    exact hT rfl
  exact ⟨⟨h.1.1.set_off hne, h.1.2⟩, fun b hx => (h.2 b hx).set_at (hne b hx) u⟩
def LF (base : Nat) (la : Option Addr) (lc : Nat) (L : List FC) (W : World) : Prop := W.ownsRow base 72 4 (.slice la L.length lc) L.length (flat L) ∧ ∀ x ∈ L, Lies W x
theorem LF.below {base : Nat} {la : Option Addr} {lc : Nat} {L : List FC} {W W' : World} (h : LF base la lc L W) (hb : Below W.heap.size W W') : LF base la lc L W' := ⟨h.1.below hb, fun x hx => (h.2 x hx).below hb⟩
theorem LF.set {base : Nat} {la : Option Addr} {lc : Nat} {L : List FC} {W : World} (h : LF base la lc L W) {R : Nat} (o : Nat) {T : TypeId} {vs : List Value} (u : Value) (hb : BkT W R T vs) (hT : T ≠ 5) (hT2 : T ≠ 72) : LF base la lc L (W.setCell ⟨R, o, none⟩ u) := by
  refine ⟨h.1.set_ne (p := ⟨R, o, none⟩) (fun e => ?_) u, fun x hx => (h.2 x hx).set hb hT⟩; have h2 : W.heap[R]? = some (.cells vs.toArray T (0, 0)) := hb
  rcases h.1.2 with ⟨hv, _⟩ | ⟨g, cap, cur, hv, _, hgb, _⟩
  · rw [hv] at e; cases e
  · rw [hv] at e; obtain rfl : g = R := by simpa [Value.ownBlock] using e
    rw [h2] at hgb
    cases hgb
    exact hT2 rfl
theorem LF.rd {base : Nat} {la : Option Addr} {lc : Nat} {L : List FC} {W : World} (h : LF base la lc L W) : Rd W la (flat L) := Rd.of_owns h.1
theorem LF.ok {base : Nat} {la : Option Addr} {lc : Nat} {L : List FC} {W : World} (h : LF base la lc L W) : ∀ x ∈ L, x.Ok W := fun x hx => (h.2 x hx).1
end Go.Proofs.YtjggoajfilnfjaaGreat
/- mvt.readTags: of right tags. -/
set_option linter.unusedVariables false
set_option linter.unusedSimpArgs false
set_option maxRecDepth 100000
namespace Go.Proofs.YtjggoajfilnfjaaGreat
open Go.RowKit Go.Vint
set_option maxHeartbeats 12800000 in
theorem rtags_ok (B : Nat) (kp : Option Addr) (kc : Nat) (vp : Option Addr) (vc : Nat) (t : TB) (a : Option Addr) (c : Nat) (L : List Int) (ls : List At) (hT : TagsOf t L ls) (hn : ls.length ≤ 8) (hnd : (ls.map (·.key.data.toList)).Nodup) (hks : ∀ k ∈ t.1, k.size ≤ maxLen) (hl : t.1.length ≤ 1000 ∧ t.2.length ≤ 1000)
    (hL : ∀ x ∈ L, 0 ≤ x ∧ x ≤ 2147483648) (hc : (vbs L).length ≤ c) (hcm : c ≤ maxLen) (w : World) (kB : Blk w B [.slice kp t.1.length kc, .slice vp t.2.length vc]) (hkr : Rd w kp (t.1.map Value.string)) (hvr : Rd w vp (vvs t.2)) (hr : Rd w a ((vbs L).map (Value.int .u8))) :
    Calls Tryz.prog 91 #[.slice a (vbs L).length c, .pointer (some ⟨B, 0, none⟩)] w fun e w' => ∃ v, e = .returned (.tuple #[v, .int .i64 0]) ∧ w'.ownsRow w.heap.size 103 4 v ls.length (ats ls) ∧ Below w.heap.size w w' := by
  have hLb : ∀ x ∈ L, 0 ≤ x ∧ x ≤ 18446744073709551615 := fun x hx => by have := hL x hx; omega
  have hvl := vbs_len L (fun x hx => (hLb x hx).2); have hll : L.length ≤ 16 := by have := hT.1; omega
  have hrow := vrow_any a c (vbs L) (vbs_bd L hLb) (by omega) hc hcm w hr; rw [row_vbs L hLb] at hrow; have HROW := Lib.hid hrow; have HA := Lib.hid (fun (W : World) (h : Below w.heap.size w W) (a : Option Addr) (c : Nat) (h2 : Rd W a (L.map (Value.int .i64))) => attrs_ok B kp kc vp vc t a c L ls hT hn hnd hks hl W (kB.keep h) (hkr.keep h) (hvr.keep h) h2); have HL := Lib.hid hL; generalize vbs L = BS at *; clear hrow hT hn hnd hks hl hL hc hcm kB hkr hvr hr hLb hvl
  go_enter Tryz.func91, Tryz.ntmps91
  go_wp2_with fail
  refine HROW.out.mono ?_; rintro e w1 ⟨⟨v, rfl, hown⟩, hb1⟩; dsimp only at *; obtain ⟨va, vc2, rfl, p1, p2, p3, hrv, -⟩ := hown.form; have HRV := Lib.hid hrv; obtain ⟨N, hN⟩ : ∃ N, L.length = N := ⟨_, rfl⟩; have HN := Lib.hid hN; have hs1 := hb1.size; rw [hN] at hll ⊢; clear hown hrv p1 p2 p3 hN HROW; go_wp2
  go_loopw [9, 23] (fun u9 i wr => ∃ k : Nat, k ≤ N ∧ i = .int .i64 k ∧ wr.ownsRow w1.heap.size 3 1 u9 k ((L.take k).map (Value.int .i64)) ∧ Below w1.heap.size w1 wr) (fun _ i _ => N - (intOf i).toNat)
  case atStart => exact ⟨0, by omega, rfl, by simpa using World.ownsRow_nil _ _ _ _, Below.refl _ _⟩
  case round =>
    obtain ⟨k, hk, rfl, ho, hbr⟩ := hrel; have hNl := HN.out
    by_cases hlt : k < N
    · have hlt' : (k : Int) < (N : Int) := by omega
      have hkl : k < L.length := by omega
      obtain ⟨b1, o1, rfl, c0, -⟩ := (HRV.out.keep hbr).at (i := k) (v := .int .u64 L[k]) (by simp [hkl]); have hx := HL.out L[k] (List.getElem_mem hkl); have HTK : Hid ((L.take (k + 1)).map (Value.int .i64) = (L.take k).map (Value.int .i64) ++ [.int .i64 L[k]]) := Lib.hid (by rw [List.take_succ_eq_append_getElem hkl, List.map_append]; rfl); generalize L[k] = x at *; have hx0 : 0 ≤ x := hx.1; have hx1 : ¬ 2147483648 < x := by omega
      have hx2 : x ≤ 2147483648 := hx.2; clear hx
      go_wp2_with (at_builtin; go_must (refine wpList_appLit' w1 hbr rfl (.tmp 29) (.tmp 32) 106 rfl 3 (.int .i64 0) 1 8 Tryz.underlying106 Tryz.infoInt rfl (by decide) (by decide) u9 k ((L.take k).map (Value.int .i64)) rfl ho 1 1 [.int .i64 x] _ rfl rfl (by simp [Value.oneCell']) (by omega) ?_); intro v8 W8 ho8 hg8 hb8; clear ho hbr hg8)
      go_roundw
      case rel => exact ⟨k + 1, by omega, by go_num, by rw [HTK.out]; exact ho8, hb8⟩
      case measure => simp [intOf]; omega
    · obtain rfl : k = N := by omega
      have hlt' : ¬ (k : Int) < (k : Int) := by omega
      rw [List.take_of_length_le (by omega)] at ho; obtain ⟨ta, tc, rfl, -, -, -, htr, -⟩ := ho.form; have hb2 := hb1.trans (hbr.mono hs1); have HA2 := Lib.hid (HA.out _ hb2 ta tc htr); rw [hNl] at HA2; clear ho htr hlt HA hNl
      go_wp2_with fail
      refine HA2.out.mono ?_; rintro e w3 ⟨v3, rfl, ho3, hx⟩; have hb3 := hb2.trans (hx.mono hb2.size); have ho4 := ho3.mono hb2.size; clear ho3 hx; go_wp2; exact bodyPost_ret (v := .tuple #[v3, .int .i64 0]) (by simp [results, Tryz.results91, go_sem]) rfl ⟨_, rfl, ho4, hb3⟩
end Go.Proofs.YtjggoajfilnfjaaGreat
