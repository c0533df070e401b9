/-
  GeomGroups: the walk.
-/
import Derived.Test.YtephdnahmgfmeaaGknown
import Derived.Test.YtephdnahmgfmeaaGgood
set_option linter.unusedVariables false
set_option linter.unusedSimpArgs false
set_option maxRecDepth 100000
namespace Go.Proofs.Ytephdnahmgfmeaa
open Go.RowKit

/-- What the loops go by. -/
def lf (Y : List PC) (i : Nat) : Bool := if h : i < Y.length then lefty (Y[i]).l else false

set_option maxHeartbeats 1600000 in
theorem geomGroups_walk {w : World} (a : Option Addr) (c : Nat) (X : List PC) (hl : X.length ≤ c) (hm : c ≤ maxLen) (hn : a = none → c = 0) (hr0 : Rd w a (X.flatMap PC.cells)) (hok : ∀ y ∈ X, y.Ok w) :
    Calls Try.prog 3 #[.slice a X.length c] w fun e w' => e = .returned (.bool true) ∧ Below w.heap.size w w' := by
  have hr : Rd w a (X.map PC.val) := by rw [← rings_map]; exact hr0
  have hcut := cut23_any a c X w hr hok (by omega)
  have hYl : ((X.take 10).map PC.cut).length ≤ 10 := by simp; omega
  have hYo : ∀ x ∈ (X.take 10).map PC.cut, x.Ok w ∧ x.l.length ≤ 1000 := by
    intro x hx
    obtain ⟨y, hy, rfl⟩ := List.mem_map.1 hx
    refine ⟨(hok y (List.mem_of_mem_take hy)).cut, ?_⟩
    simp [PC.cut]; omega
  generalize (X.take 10).map PC.cut = Y at *
  obtain ⟨n, hn0⟩ : ∃ n, Y.length = n := ⟨_, rfl⟩
  have hgr := fun a c W h1 h2 => groups_any a c Y (by omega) (fun x hx => (hYo x hx).2) (lf Y) (fun i h => by unfold lf; rw [dif_pos h]) W h1 h2
  have hlf : ∀ k (h : k < n) W, Below w.heap.size w W → ∃ x : PC, Y[k]? = some x ∧ Calls Try.prog 7 #[x.val] W fun e w' => e = .returned (.bool (lf Y k)) ∧ Below W.heap.size W w' := fun k h W hW => by
    have hm : Y[k] ∈ Y := List.getElem_mem (by omega)
    refine ⟨Y[k], List.getElem?_eq_getElem (by omega), ?_⟩
    have := left_any Y[k] W ⟨(hYo _ hm).1.1.below hW (Nat.le_refl _), (hYo _ hm).1.2⟩ (hYo _ hm).2
    unfold lf
    rw [dif_pos (by omega)]
    exact this
  have hYo2 : ∀ W, Below w.heap.size w W → ∀ x ∈ Y, x.Ok W := fun W hW x hx => ⟨(hYo x hx).1.1.below hW (Nat.le_refl _), (hYo x hx).1.2⟩
  obtain ⟨s, hs, hs1, hs2, hgd⟩ := grps_gto (lf Y) n
  generalize lf Y = f at *
  rw [hn0] at hcut hgr hYl
  have hYlen : (Y.map PC.val).length = n := by simp [hn0]
  have hYg : ∀ (k : Nat) (x : PC), Y[k]? = some x → (Y.map PC.val)[k]? = some x.val := fun k x h => by simp [h]
  have HCUT := Lib.hid hcut
  have HGR := Lib.hid hgr
  have HLF := Lib.hid hlf
  have HYO := Lib.hid hYo2
  have HS := Lib.hid (And.intro hs (And.intro hs1 hs2))
  have HGD := Lib.hid hgd
  have HYG := Lib.hid hYg
  generalize Y.map PC.val = V at *
  have hgl := gto_len f n
  generalize gto f n = G at *
  clear hcut hgr hlf hYo2 hYo hn0 hr hr0 hok hs1 hs2 hgd hYg
  go_enter Try.func3, Try.ntmps3
  go_wp2_with fail
  refine HCUT.out.mono ?_
  rintro e w1 ⟨v1, rfl, hown1, hb1⟩
  obtain ⟨p1, c1, rfl, hpc1, hpm1, -, hr1, -⟩ := hown1.form
  have hs1 := hb1.size
  clear hown1 HCUT
  have hg2 := Lib.hid (HGR.out p1 c1 w1 hr1 (HYO.out w1 hb1))
  go_wp2_with fail
  refine hg2.out.mono ?_
  rintro e w2 ⟨v2, vals, rfl, hown2, hinn, hb2'⟩
  obtain ⟨p2, c2, rfl, hpc2, hpm2, -, hr2, -⟩ := hown2.form
  have hb2 := hb1.trans (hb2'.mono hs1)
  have hs2 := hb2.size
  have hr1 := hr1.keep hb2'
  clear hg2 HGR HYO hown2 hb2'
  go_wp2
  go_loopw [4] (fun i wr => ∃ k : Nat, k ≤ n ∧ i = .int .i64 k ∧ (∀ j, j < k → f j = false) ∧ Below w2.heap.size w2 wr) (fun i _ => n - (intOf i).toNat)
  case atStart => exact ⟨0, Nat.zero_le _, rfl, fun j h => absurd h (Nat.not_lt_zero _), Below.refl _ _⟩
  case round =>
    obtain ⟨k, hk, rfl, hno, hbl⟩ := hrel
    have HNO := Lib.hid hno
    clear hno
    have hbw := hb2.trans (hbl.mono hs2)
    have hex : k < n ∧ f k = false ∨ Hid (k = s) ∧ (k = n ∨ k < n ∧ f k = true) := by
      obtain ⟨e1, e2, e3⟩ := HS.out
      by_cases h1 : k < n
      · cases h2 : f k with
        | false => exact .inl ⟨h1, rfl⟩
        | true => exact .inr ⟨Lib.hid (grps_start e1 e2 e3 hk HNO.out (fun _ => h2)), .inr ⟨h1, rfl⟩⟩
      · exact .inr ⟨Lib.hid (grps_start e1 e2 e3 hk HNO.out (fun h => absurd h h1)), .inl (by omega)⟩
    rcases hex with ⟨hlt, hfk⟩ | ⟨hks, hex⟩
    · obtain ⟨x, hx, hc⟩ := HLF.out k hlt wr hbw
      obtain ⟨b1, off1, rfl, c0, _⟩ := (hr1.keep hbl).at (HYG.out k x hx)
      obtain ⟨l, p, cx⟩ := x
      have HFK := Lib.hid hfk
      rw [hfk] at hc
      have HC := Lib.hid hc
      clear hc hx hfk
      dsimp only [PC.val] at c0 HC
      go_wp2_with fail
      refine HC.out.mono ?_
      rintro e w3 ⟨rfl, hb3⟩
      have hbl3 := hbl.trans (hb3.mono hbl.size)
      clear HC hb3 hbl hbw c0
      go_wp2
      go_roundw
      case rel =>
        refine ⟨k + 1, by omega, by go_num, fun j hj => ?_, hbl3⟩
        by_cases h : j < k
        · exact HNO.out j h
        · obtain rfl : j = k := by omega
          exact HFK.out
      case measure => simp [intOf]; omega
    · have HGD2 : Hid (Grps f G k n) := Lib.hid (by rw [hks.out]; exact HGD.out)
      clear hks HNO HS HGD
      rcases hex with hkn | ⟨hlt, hfk⟩
      · obtain rfl : n = k := hkn.symm
        go_wp2
        go_loopw [4, 5] (fun nx i wr => ∃ q m : Nat, q ≤ G.length ∧ i = .int .i64 q ∧ nx = .int .i64 m ∧ Hid (Grps f (G.drop q) m n) ∧ Below w2.heap.size w2 wr) (fun _ i _ => G.length - (intOf i).toNat)
        case atStart => exact ⟨0, _, Nat.zero_le _, rfl, rfl, HGD2, hbl⟩
        case round =>
          obtain ⟨q, m, hq, rfl, rfl, hgd, hbq⟩ := hrel
          by_cases hlq : q < G.length
          · obtain ⟨g, hg⟩ : ∃ g, G[q]? = some g := ⟨_, List.getElem?_eq_getElem hlq⟩
            obtain ⟨vq, hv⟩ : ∃ v, vals[q]? = some v := ⟨_, List.getElem?_eq_getElem (by rw [hinn.1]; exact hlq)⟩
            have hdr : G.drop q = g :: G.drop (q + 1) := by
              rw [List.drop_eq_getElem_cons hlq]; rw [List.getElem?_eq_getElem hlq] at hg; cases hg; rfl
            rw [hdr] at hgd
            obtain ⟨ho, hgn⟩ := hinn.2.1 q vq g hv hg
            obtain ⟨pg, cg, rfl, -, -, -, hrg, -⟩ := ho.form
            obtain ⟨b2, off2, rfl, d0, _⟩ := (hr2.keep hbq).at hv
            have hgl0 : 0 < g.length := List.length_pos_iff.2 hgn
            have hle : m + g.length ≤ n := hgd.out.2.2.le
            have HGQ : Hid (∀ k, k < g.length → g[k]? = some ((m + k : Nat) : Int) ∧ f (m + k) = decide (k = 0)) := Lib.hid hgd.out.2.1
            have HGR : Hid (Grps f (G.drop (q + 1)) (m + g.length) n) := Lib.hid hgd.out.2.2
            obtain ⟨N, hN⟩ : ∃ N, g.length = N := ⟨_, rfl⟩
            have HRG := Lib.hid hrg
            rw [hN] at hgl0 hle HGQ HGR d0 hv
            have HV := Lib.hid hv
            clear hdr hgd ho hgn hg hN hrg hv
            go_wp2
            go_loopw [4, 6] (fun nx i wr => ∃ k : Nat, k ≤ N ∧ i = .int .i64 k ∧ nx = .int .i64 ((m + k : Nat) : Int) ∧ Below w2.heap.size w2 wr) (fun _ i _ => N - (intOf i).toNat)
            case atStart => exact ⟨0, Nat.zero_le _, rfl, rfl, hbq⟩
            case round =>
              obtain ⟨j, hj, rfl, rfl, hbj⟩ := hrel
              obtain ⟨b3, off3, he, e0, _⟩ := (hr2.keep hbj).at HV.out
              cases he
              have hbjw := hb2.trans (hbj.mono hs2)
              by_cases hlj : j < N
              · obtain ⟨hgj, hfj⟩ := HGQ.out j hlj
                obtain ⟨b4, off4, rfl, f0, _⟩ := (HRG.out.keep hbj).at (i := j) (v := .int .i64 ((m + j : Nat) : Int)) (by simp [hgj])
                obtain ⟨x, hx, hc⟩ := HLF.out (m + j) (by omega) wr hbjw
                obtain ⟨b5, off5, he5, g0, _⟩ := (hr1.keep hbj).at (HYG.out (m + j) x hx)
                cases he5
                obtain ⟨l, p, cx⟩ := x
                rw [hfj] at hc
                have HC := Lib.hid hc
                clear hc hx hgj hfj
                dsimp only [PC.val] at g0 HC
                have hmj : m + j < n := by omega
                go_wp2_with fail
                refine HC.out.mono ?_
                rintro e w5 ⟨rfl, hb5⟩
                have hbl5 := hbj.trans (hb5.mono hbj.size)
                clear HC hb5 hbj hbjw f0 g0 e0
                by_cases hj0 : j = 0
                · subst hj0
                  go_wp2
                  go_roundw
                  case rel => exact ⟨1, by omega, rfl, by go_num, hbl5⟩
                  case measure => simp [intOf]; omega
                · have hj0' : ((j : Int) == 0) = false := by simpa using hj0
                  rw [decide_eq_false hj0]
                  go_wp2
                  go_roundw
                  case rel => exact ⟨j + 1, by omega, by go_num, by go_num, hbl5⟩
                  case measure => simp [intOf]; omega
              · obtain rfl : j = N := by omega
                go_wp2
                go_roundw
                case rel => exact ⟨q + 1, m + j, by omega, by go_num, rfl, HGR, hbj⟩
                case measure => simp [intOf]; omega
          · have hmn : m = n := by
              have := hgd.out
              rw [List.drop_of_length_le (by omega)] at this
              exact this
            subst hmn
            have hbqw := hb2.trans (hbq.mono hs2)
            clear hgd
            go_wp2_with fail
            refine (gknown_any _).mono ?_
            rintro e w6 ⟨rfl, hb6⟩
            have hb7 := hbqw.trans (hb6.mono hbqw.size)
            go_wp2
            go_ret
            exact ⟨rfl, hb7⟩
      · obtain ⟨x, hx, hc⟩ := HLF.out k hlt wr hbw
        obtain ⟨b1, off1, rfl, c0, _⟩ := (hr1.keep hbl).at (HYG.out k x hx)
        obtain ⟨l, p, cx⟩ := x
        rw [hfk] at hc
        have HC := Lib.hid hc
        clear hc hx hfk
        dsimp only [PC.val] at c0 HC
        go_wp2_with fail
        refine HC.out.mono ?_
        rintro e w3 ⟨rfl, hb3⟩
        have hbl3 := hbl.trans (hb3.mono hbl.size)
        clear HC hb3 hbl hbw c0
        go_wp2
        go_loopw [4, 5] (fun nx i wr => ∃ q m : Nat, q ≤ G.length ∧ i = .int .i64 q ∧ nx = .int .i64 m ∧ Hid (Grps f (G.drop q) m n) ∧ Below w2.heap.size w2 wr) (fun _ i _ => G.length - (intOf i).toNat)
        case atStart => exact ⟨0, _, Nat.zero_le _, rfl, rfl, HGD2, hbl3⟩
        case round =>
          obtain ⟨q, m, hq, rfl, rfl, hgd, hbq⟩ := hrel
          by_cases hlq : q < G.length
          · obtain ⟨g, hg⟩ : ∃ g, G[q]? = some g := ⟨_, List.getElem?_eq_getElem hlq⟩
            obtain ⟨vq, hv⟩ : ∃ v, vals[q]? = some v := ⟨_, List.getElem?_eq_getElem (by rw [hinn.1]; exact hlq)⟩
            have hdr : G.drop q = g :: G.drop (q + 1) := by
              rw [List.drop_eq_getElem_cons hlq]; rw [List.getElem?_eq_getElem hlq] at hg; cases hg; rfl
            rw [hdr] at hgd
            obtain ⟨ho, hgn⟩ := hinn.2.1 q vq g hv hg
            obtain ⟨pg, cg, rfl, -, -, -, hrg, -⟩ := ho.form
            obtain ⟨b2, off2, rfl, d0, _⟩ := (hr2.keep hbq).at hv
            have hgl0 : 0 < g.length := List.length_pos_iff.2 hgn
            have hle : m + g.length ≤ n := hgd.out.2.2.le
            have HGQ : Hid (∀ k, k < g.length → g[k]? = some ((m + k : Nat) : Int) ∧ f (m + k) = decide (k = 0)) := Lib.hid hgd.out.2.1
            have HGR : Hid (Grps f (G.drop (q + 1)) (m + g.length) n) := Lib.hid hgd.out.2.2
            obtain ⟨N, hN⟩ : ∃ N, g.length = N := ⟨_, rfl⟩
            have HRG := Lib.hid hrg
            rw [hN] at hgl0 hle HGQ HGR d0 hv
            have HV := Lib.hid hv
            clear hdr hgd ho hgn hg hN hrg hv
            go_wp2
            go_loopw [4, 6] (fun nx i wr => ∃ k : Nat, k ≤ N ∧ i = .int .i64 k ∧ nx = .int .i64 ((m + k : Nat) : Int) ∧ Below w2.heap.size w2 wr) (fun _ i _ => N - (intOf i).toNat)
            case atStart => exact ⟨0, Nat.zero_le _, rfl, rfl, hbq⟩
            case round =>
              obtain ⟨j, hj, rfl, rfl, hbj⟩ := hrel
              obtain ⟨b3, off3, he, e0, _⟩ := (hr2.keep hbj).at HV.out
              cases he
              have hbjw := hb2.trans (hbj.mono hs2)
              by_cases hlj : j < N
              · obtain ⟨hgj, hfj⟩ := HGQ.out j hlj
                obtain ⟨b4, off4, rfl, f0, _⟩ := (HRG.out.keep hbj).at (i := j) (v := .int .i64 ((m + j : Nat) : Int)) (by simp [hgj])
                obtain ⟨x, hx, hc⟩ := HLF.out (m + j) (by omega) wr hbjw
                obtain ⟨b5, off5, he5, g0, _⟩ := (hr1.keep hbj).at (HYG.out (m + j) x hx)
                cases he5
                obtain ⟨l, p, cx⟩ := x
                rw [hfj] at hc
                have HC := Lib.hid hc
                clear hc hx hgj hfj
                dsimp only [PC.val] at g0 HC
                have hmj : m + j < n := by omega
                go_wp2_with fail
                refine HC.out.mono ?_
                rintro e w5 ⟨rfl, hb5⟩
                have hbl5 := hbj.trans (hb5.mono hbj.size)
                clear HC hb5 hbj hbjw f0 g0 e0
                by_cases hj0 : j = 0
                · subst hj0
                  go_wp2
                  go_roundw
                  case rel => exact ⟨1, by omega, rfl, by go_num, hbl5⟩
                  case measure => simp [intOf]; omega
                · have hj0' : ((j : Int) == 0) = false := by simpa using hj0
                  rw [decide_eq_false hj0]
                  go_wp2
                  go_roundw
                  case rel => exact ⟨j + 1, by omega, by go_num, by go_num, hbl5⟩
                  case measure => simp [intOf]; omega
              · obtain rfl : j = N := by omega
                go_wp2
                go_roundw
                case rel => exact ⟨q + 1, m + j, by omega, by go_num, rfl, HGR, hbj⟩
                case measure => simp [intOf]; omega
          · have hmn : m = n := by
              have := hgd.out
              rw [List.drop_of_length_le (by omega)] at this
              exact this
            subst hmn
            have hbqw := hb2.trans (hbq.mono hs2)
            clear hgd
            go_wp2_with fail
            refine (gknown_any _).mono ?_
            rintro e w6 ⟨rfl, hb6⟩
            have hb7 := hbqw.trans (hb6.mono hbqw.size)
            go_wp2
            go_ret
            exact ⟨rfl, hb7⟩
end Go.Proofs.Ytephdnahmgfmeaa
