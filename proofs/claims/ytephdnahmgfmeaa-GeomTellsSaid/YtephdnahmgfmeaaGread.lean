/-
  geom.Read of a geometry's numbers; geom.Bytes, geom.Parse.
-/
import Derived.Test.YtephdnahmgfmeaaGat
import Derived.Test.YtephdnahmgfmeaaVbytes
import Derived.Test.YtephdnahmgfmeaaVrow
set_option linter.unusedVariables false
set_option linter.unusedSimpArgs false
set_option maxRecDepth 100000
namespace Go
open Go.RowKit Go.Vint

/-- Rows of points behind values. -/
def InP (e : TypeId) (H : Nat) (W : World) (vals : List Value) (G : List (List Pt)) : Prop :=
  vals.length = G.length ∧ ∀ (j : Nat) (v : Value) (g : List Pt), vals[j]? = some v → G[j]? = some g → W.ownsRow H e 2 v g.length (pts g)
theorem InP.keep {e : TypeId} {H : Nat} {W W' : World} {vals : List Value} {G : List (List Pt)} (h : InP e H W vals G) (hb : Below W.heap.size W W') : InP e H W' vals G := ⟨h.1, fun j v g h1 h2 => (h.2 j v g h1 h2).below hb⟩
theorem InP.kept {e : TypeId} {H B : Nat} {W W' : World} {vals : List Value} {G : List (List Pt)} (h : InP e H W vals G) (hg : W.grownBy W' (some B)) (hB : B < H) : InP e H W' vals G :=
  ⟨h.1, fun j v g h1 h2 => (h.2 j v g h1 h2).kept hg (.inr (fun e => by have := ((h.2 j v g h1 h2).lt _ e).1; omega))⟩
theorem InP.grown {e e2 : TypeId} {H b s n : Nat} {W W' : World} {vals : List Value} {G : List (List Pt)} {o : Value} {xs : List Value} (h : InP e H W vals G) (ho : W.ownsRow b e2 s o n xs) (he : e ≠ e2) (hg : W.grownBy W' o.ownBlock) : InP e H W' vals G :=
  ⟨h.1, fun j v g h1 h2 => (h.2 j v g h1 h2).kept hg (ownsRow_ne_type (h.2 j v g h1 h2) ho he)⟩
theorem InP.snoc {e : TypeId} {H : Nat} {W : World} {vals : List Value} {G : List (List Pt)} (h : InP e H W vals G) {v : Value} {g : List Pt} (hv : W.ownsRow H e 2 v g.length (pts g)) : InP e H W (vals ++ [v]) (G ++ [g]) := by
  refine ⟨by simp [h.1], fun j u k h1 h2 => ?_⟩
  by_cases hj : j < vals.length
  · rw [List.getElem?_append_left hj] at h1
    rw [List.getElem?_append_left (by rw [← h.1]; exact hj)] at h2
    exact h.2 j u k h1 h2
  · have hl := (List.getElem?_eq_some_iff.1 h1).1
    obtain rfl : j = vals.length := by simp at hl; omega
    rw [List.getElem?_append_right (Nat.le_refl _)] at h1
    rw [h.1, List.getElem?_append_right (Nat.le_refl _)] at h2
    simp at h1 h2
    subst h1 h2
    exact hv
theorem InP.mono {e : TypeId} {H H' : Nat} {W : World} {vals : List Value} {G : List (List Pt)} (h : InP e H W vals G) (hh : H' ≤ H) : InP e H' W vals G := ⟨h.1, fun j v g h1 h2 => (h.2 j v g h1 h2).mono hh⟩
theorem numsF_ne {kind : Int} {a : Pt} {l : List Pt} {t : List (List Pt)} : numsF kind a (l :: t) = partN kind a l ++ numsF kind l[l.length - 1]! t := rfl
end Go
namespace Go.Proofs.Ytephdnahmgfmeaa
open Go.RowKit Go.Vint

set_option maxHeartbeats 1600000 in
theorem gread_ok (kind : Int) (G : List (List Pt)) (hE : checkE kind G = 0) (hG : G.length ≤ 100) (hle : ∀ g ∈ G, g.length ≤ 1000) (a : Option Addr) (c : Nat) (L : List Int) (hL : numsF kind ⟨0, 0⟩ G = L) (hlen : L.length ≤ 1000000) (hc : L.length ≤ c) (w : World) (hr : Rd w a (L.map (Value.int .u64))) :
    Calls Try.prog 16 #[.int .i64 kind, .slice a L.length c] w fun e w' => ∃ v vals, e = .returned (.tuple #[v, .int .i64 0]) ∧
      w'.ownsRow w.heap.size 27 1 v G.length vals ∧ InP 59 w.heap.size w' vals G ∧ Below w.heap.size w w' := by
  obtain ⟨hk, hG1, hcl⟩ := checkE_zero hE
  have hkk : ((kind != 2) && (kind != 3)) = false := by rcases hk with rfl | rfl <;> rfl
  have hp : ∀ (W : World) (B b off : Nat) (j k : Nat) (at' : Pt) (l : List Pt) (rest : List Int), G[j]? = some l → L.drop k = partN kind at' l ++ rest → Close at' → RdS w W B b off c L k at' → Calls Try.prog 32 #[.pointer (some ⟨B, 0, none⟩), .int .i64 kind, .bool (decide (j = 0))] W fun e w' => ∃ v, e = .returned (.tuple #[v, .int .i64 0]) ∧
      w'.ownsRow W.heap.size 59 2 v l.length (pts l) ∧ RdS w w' B b off c L (k + 2 + 2 * l.length + (if kind = 3 then 1 else 0)) l[l.length - 1]! ∧ W.grownBy w' (some B) := by
    intro W B b off j k at' l rest hg hd hat h
    obtain ⟨hj, hgj⟩ := List.getElem?_eq_some_iff.1 hg
    have hm : l ∈ G := by rw [← hgj]; exact List.getElem_mem _
    have hx := hcl l hm
    exact rpart_ok w W B b off c L k at' kind _ l hk hx.1 (hle l hm) hx.2 hat (partAt_of hd hx.1) (by rw [← hgj]; exact checkE_get hE j hj) hlen hc h
  have hLne : 1 ≤ L.length := by
    cases G with
    | nil => simp at hG1
    | cons l t =>
      rw [← hL, numsF_ne, List.length_append, partN_len' _ _ _ (by have := (hcl l (by simp)).1; omega)]
      omega
  obtain ⟨b, off, rfl, -, -⟩ := hr.at (i := 0) (v := .int .u64 L[0]) (by simp [hLne])
  have HL0 : Hid (L.drop 0 = numsF kind ⟨0, 0⟩ (G.drop 0)) := Lib.hid (by simp [hL])
  have hstep : ∀ (j k : Nat) (at' : Pt) (l : List Pt), Hid (L.drop k = numsF kind at' (G.drop j)) → G[j]? = some l → k < L.length ∧ L.drop k = partN kind at' l ++ numsF kind l[l.length - 1]! (G.drop (j + 1)) ∧ k + 2 + 2 * l.length + (if kind = 3 then 1 else 0) ≤ L.length ∧
      Hid (L.drop (k + 2 + 2 * l.length + (if kind = 3 then 1 else 0)) = numsF kind l[l.length - 1]! (G.drop (j + 1))) ∧ Close l[l.length - 1]! := by
    intro j k at' l hd hl
    have hl1 : l ∈ G := List.mem_of_getElem? hl
    obtain ⟨hlt, hgj⟩ := List.getElem?_eq_some_iff.1 hl
    have hdr : G.drop j = l :: G.drop (j + 1) := by rw [List.drop_eq_getElem_cons hlt, hgj]
    have hd := hd.out
    rw [hdr, numsF] at hd
    have hl2 := hcl l hl1
    have hln := partN_len' kind at' l (by omega)
    have hle := congrArg List.length hd
    rw [List.length_append, List.length_drop, hln] at hle
    refine ⟨by omega, hd, by omega, Lib.hid ?_, by rw [getElem!_pos l (l.length - 1) (by omega)]; exact hl2.2 _ (List.getElem_mem _)⟩
    have e : k + 2 + 2 * l.length + (if kind = 3 then 1 else 0) = k + (partN kind at' l).length := by rw [hln]; omega
    rw [e, ← List.drop_drop, hd, List.drop_left]
  obtain ⟨D, hD⟩ : ∃ D : Nat, (if kind = (3 : Int) then 1 else 0) = D := ⟨_, rfl⟩
  simp only [hD] at hstep hp
  clear hD
  have HST := Lib.hid hstep
  have HP := Lib.hid hp
  have HCL := Lib.hid hcl
  obtain ⟨N, hN⟩ : ∃ N, L.length = N := ⟨_, rfl⟩
  have hR0 : RdS w (w.alloc (.cells #[.slice (some ⟨b, off, none⟩) L.length c, .int .i64 0, .int .i64 0, .int .i64 0] 69)) w.heap.size b off c L 0 ⟨0, 0⟩ := ⟨hr, Nat.le_refl _, Blk.new w [_, _, _, _] _, Below.new w _⟩
  have HR0 := Lib.hid hR0
  have hNE : (N : Int) ≠ 0 := by omega
  have HN := Lib.hid hN
  rw [hN] at hlen hc ⊢
  clear hp hcl hstep hL hr hE hR0 hN hLne
  have HLE := Lib.hid hle
  clear hle
  have HK := Lib.hid hk
  clear hk
  have core : ∀ kk : Bool, True := fun _ => trivial
  clear core
  rcases HK.out with rfl | rfl
  all_goals
    go_enter Try.func16, Try.ntmps16
    go_wp2
    go_loopg [7] (G.length) (fun g o wr => ∃ (j k : Nat) (at' : Pt) (vals : List Value), g = G.length - j ∧ j ≤ G.length ∧ Hid (L.drop k = numsF _ at' (G.drop j)) ∧ k ≤ N ∧ Close at' ∧ RdS w wr w.heap.size b off c L k at' ∧
      wr.ownsRow (w.heap.size + 1) 27 1 o j vals ∧ InP 59 (w.heap.size + 1) wr vals (G.take j) ∧ Below w.heap.size w wr)
    case atStart => exact ⟨0, 0, ⟨0, 0⟩, [], rfl, Nat.zero_le _, HL0, Nat.zero_le _, ⟨⟨by decide, by decide⟩, by decide, by decide⟩, by rw [← HN.out]; exact HR0.out, World.ownsRow_nil _ _ _ _, ⟨rfl, by simp⟩, Below.new w _⟩
    case round =>
      obtain ⟨j, k, at', vals, hgk, hj, hd, hkN, hat, hrs, hown, hin, hbl⟩ := hrel
      have HGK := Lib.hid hgk
      have c1 := hrs.2.2.1.cell 1 rfl
      have hsz := hrs.2.2.1.lt
      clear hgk
      by_cases hlt : j < G.length
      · obtain ⟨l, hl⟩ : ∃ l, G[j]? = some l := ⟨_, List.getElem?_eq_getElem hlt⟩
        have hl1 : l ∈ G := List.mem_of_getElem? hl
        have hle := HLE.out l hl1
        obtain ⟨hkl, hdd, hk2, hd2, hc2⟩ := HST.out j k at' l hd hl
        rw [HN.out] at hkl hk2
        have hp := HP.out wr w.heap.size b off j k at' l _ hl hdd hat hrs
        have htk : Hid (G.take (j + 1) = G.take j ++ [l]) := Lib.hid (by rw [List.take_add_one, hl]; rfl)
        have hjj : ((j : Int) == 0) = decide (j = 0) := by
          by_cases h : j = 0
          · subst h; rfl
          · rw [decide_eq_false h]; simpa using h
        have HPP := Lib.hid hp
        have hgl : Hid (G.length - (j + 1) < G.length - j) := Lib.hid (by omega)
        have hob := hown.lt
        obtain ⟨oa, oc, rfl, -, -, -, -, -⟩ := hown.form
        have hs := hbl.size
        clear hp hdd hd hl1 hl hrs
        go_wp2_with fail
        refine HPP.out.mono ?_
        rintro e w1 ⟨v1, rfl, hv1, h1, hg1⟩
        have hown1 := hown.kept hg1 (.inr (by intro e; have := (hob _ e).1; omega))
        have hin1 := (hin.kept hg1 (by omega)).snoc (hv1.mono (by omega))
        have hbl1 := hbl.grown hg1 hs (by simp)
        obtain ⟨va, vc, rfl, -, -, -, -, -⟩ := hv1.form
        clear HPP hown hin hbl hg1 hv1 c1
        generalize l[l.length - 1]! = at2 at *
        generalize (k + 2 + 2 * l.length + D) = k2 at *
        obtain ⟨ti, hti, hz0, hz1, hz2⟩ := info_parts Try.infoPts
        go_wp2_with (at_builtin; go_must (refine wpList_append_own_at (w1.alloc (.cells #[.slice va l.length vc] 27)) rfl (.tmp 43) (.tmp 45) 22 rfl (w.heap.size + 1) 27 ti (.slice none 0 0) 1 24 Try.underlying22 hti hz0 hz1 hz2 rfl (by decide) (.slice oa j oc) j vals rfl (hown1.below (Below.new _ _)) ⟨w1.heap.size, 0, none⟩ 1 1 [.slice va l.length vc] rfl rfl (Rd.new w1 [.slice va l.length vc] 27).add (by simp [Value.oneCell']) (by unfold maxLen; omega) (by omega) (by have := hbl1.size; have := h1.2.2.1.lt; simp; omega) ?_); intro v2 w2 hown2 hg3 _ _)
        go_roundg (G.length - (j + 1))
        case measure => rw [HGK.out]; exact hgl.out
        case rel =>
          have hin2 := (hin1.keep (Below.new _ (.cells #[.slice va l.length vc] 27))).grown (hown1.below (Below.new _ (.cells #[.slice va l.length vc] 27))) (by decide) hg3
          have hgg : ∀ g, Value.ownBlock (.slice oa j oc) = some g → w.heap.size + 1 ≤ g := fun g e => (hob g e).1
          refine ⟨j + 1, k2, at2, _, rfl, by omega, hd2, hk2, hc2, (h1.grown (grown_alloc w1 (.cells #[.slice va l.length vc] 27) none)).app hg3 (fun g e => by have := hgg g e; omega), hown2, by rw [htk.out]; exact hin2, (hbl1.alloc hbl1.size _).grown hg3 (by have := hbl1.size; simp; omega) (fun g e => by have := hgg g e; omega)⟩
      · obtain rfl : j = G.length := by omega
        have hkl : ¬ k < N := by
          have := congrArg List.length hd.out
          rw [List.drop_of_length_le (Nat.le_refl _), numsF, List.length_drop, HN.out] at this
          simp at this
          omega
        rw [List.take_length] at hin
        obtain ⟨oa, oc, rfl, -, -, -, -, -⟩ := hown.form
        clear hd hrs
        go_wp2
        refine bodyPost_ret (v := .tuple #[.slice oa G.length oc, .int .i64 0]) (by simp [results, Try.results16, go_sem]) rfl ⟨_, vals, rfl, hown.mono (by omega), hin.mono (by omega), hbl⟩

theorem gbytes_any (kind : Int) (a : Option Addr) (c : Nat) (xs : List PC) (hl : xs.length ≤ 100) (hle : ∀ x ∈ xs, x.l.length ≤ 1000) (w : World) (hr : Rd w a (xs.map PC.val)) (hok : ∀ x ∈ xs, x.Ok w) (R : List Int)
    (hR : R = (if checkE kind (xs.map (·.l)) = 0 then numsF kind ⟨0, 0⟩ (xs.map (·.l)) else [])) (hRl : R.length ≤ 1000000) (hRb : ∀ x ∈ R, 0 ≤ x ∧ x ≤ 18446744073709551615) :
    Calls Try.prog 12 #[.int .i64 kind, .slice a xs.length c] w fun e w' => ∃ v, e = .returned (.tuple #[v, .int .i64 (checkE kind (xs.map (·.l)))]) ∧
      w'.ownsRow w.heap.size 5 1 v (vbs R).length ((vbs R).map (Value.int .u8)) ∧ Below w.heap.size w w' := by
  have hc := gnums_any kind a c xs hl hle w hr hok R hR
  have hE : checkE kind (xs.map (·.l)) ≠ 0 → R = [] := fun h => by rw [hR, if_neg h]
  generalize checkE kind (xs.map (·.l)) = E at *
  have HC := Lib.hid hc
  clear hc hR hr hok hle
  go_enter Try.func12, Try.ntmps12
  go_wp2_with fail
  refine HC.out.mono ?_
  rintro e w1 ⟨v, rfl, hown, hb1⟩
  obtain ⟨va, vc, rfl, -, -, -, hrv, -⟩ := hown.form
  have hs := hb1.size
  by_cases hE0 : E = 0
  · subst hE0
    clear HC hE
    go_wp2_with fail
    refine (vbytes_any va vc R hRb hRl w1 hrv).mono ?_
    rintro e w2 ⟨v2, rfl, hown2, hb2⟩
    obtain ⟨ua, uc, rfl, -, -, -, -, -⟩ := hown2.form
    clear hRb
    go_wp2
    refine bodyPost_ret (v := .tuple #[.slice ua (vbs R).length uc, .int .i64 0]) (by simp [results, Try.results12, go_sem]) rfl ⟨_, rfl, hown2.mono hs, hb1.trans (hb2.mono hs)⟩
  · have hE' : (E != 0) = true := by simpa using hE0
    have hR0 := hE hE0
    subst hR0
    clear HC hE hE0
    go_wp2
    refine bodyPost_ret (v := .tuple #[.slice none 0 0, .int .i64 E]) (by simp [results, Try.results12, go_sem]) rfl ⟨_, rfl, World.ownsRow_nil _ _ _ _, hb1⟩

theorem gparse_ok (kind : Int) (G : List (List Pt)) (hE : checkE kind G = 0) (hG : G.length ≤ 100) (hle : ∀ g ∈ G, g.length ≤ 1000) (a : Option Addr) (c : Nat) (L : List Int) (hL : numsF kind ⟨0, 0⟩ G = L) (hlen : L.length ≤ 1000000) (hLb : ∀ x ∈ L, 0 ≤ x ∧ x ≤ 18446744073709551615)
    (hc : (vbs L).length ≤ c) (hcm : c ≤ maxLen) (w : World) (hr : Rd w a ((vbs L).map (Value.int .u8))) :
    Calls Try.prog 17 #[.int .i64 kind, .slice a (vbs L).length c] w fun e w' => ∃ v vals, e = .returned (.tuple #[v, .int .i64 0]) ∧
      w'.ownsRow w.heap.size 27 1 v G.length vals ∧ InP 59 w.heap.size w' vals G ∧ Below w.heap.size w w' := by
  have hvl := vbs_len L (fun x hx => (hLb x hx).2)
  have hrow := vrow_any a c (vbs L) (vbs_bd L hLb) (by omega) hc hcm w hr
  rw [row_vbs L hLb] at hrow
  have hrd := fun a c w h h2 => gread_ok kind G hE hG hle a c L hL hlen h w h2
  have HROW := Lib.hid hrow
  have HRD := Lib.hid hrd
  clear hrow hrd hE hle hL hLb hr hvl
  go_enter Try.func17, Try.ntmps17
  go_wp2_with fail
  refine HROW.out.mono ?_
  rintro e w1 ⟨⟨v, rfl, hown⟩, hb1⟩
  dsimp only at *
  obtain ⟨va, vc, rfl, hvc, -, -, hrv, -⟩ := hown.form
  have hs := hb1.size
  have HRD2 := Lib.hid (HRD.out va vc w1 hvc hrv)
  clear HROW HRD hown
  go_wp2_with fail
  refine HRD2.out.mono ?_
  rintro e w2 ⟨v2, vals, rfl, hown2, hin2, hb2⟩
  go_wp2
  refine bodyPost_ret (v := .tuple #[v2, .int .i64 0]) (by simp [results, Try.results17, go_sem]) rfl ⟨_, vals, rfl, hown2.mono hs, hin2.mono hs, hb1.trans (hb2.mono hs)⟩
end Go.Proofs.Ytephdnahmgfmeaa
