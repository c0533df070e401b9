/-
  (*rows.Index).Pairs. The store of a whole struct into a block, as one step (many cells).
-/
import Derived.Test.YtccamjnomjcchaaPk19
import Derived.Test.YtccamjnomjcchaaPk6
import Derived.Test.YtccamjnomjcchaaPk1
import Derived.Laws.Tables
/- (*rows.Index).Pairs. -/
set_option linter.unusedVariables false
set_option linter.unusedSimpArgs false
set_option maxRecDepth 100000
namespace Go.Proofs.Ytccamjnomjcchaa
open Go.RowKit
def p2s (l : List (Int × Int)) : List Value := l.flatMap fun p => [.int .i64 p.1, .int .i64 p.2]
def PairsIn (base : Nat) (w : World) (bs : List Bx) (v : Value) : Prop :=
  ∃ L : List (Int × Int), PairsTo bs bs.length L ∧ L.length ≤ 1000000 ∧ w.ownsRow base 110 2 v L.length (p2s L)
theorem Try.infoP2 : (Try.prog.info? 110).map (fun i => (i.zero, i.size, i.bytes)) = some (some (.agg #[.int .i64 0, .int .i64 0]), 2, 16) := by kernel_rfl
set_option maxHeartbeats 6400000 in
theorem pairs_any (B : Nat) (bs : List Bx) (hlen : bs.length ≤ 1000) (w : World) (hi : IdxOk w B bs) :
    Calls Try.prog 59 #[.pointer (some ⟨B + 1, 0, none⟩)] w fun e w' => (∃ v, e = .returned v ∧ PairsIn w.heap.size w' bs v) ∧ Below w.heap.size w w' := by
  have HIX := Lib.hid hi; have HFN := Lib.hid (fun (b : Bx) (hb : b.Ok) W hw => find_any B bs b hlen hb W hw); obtain ⟨va, vg, f, m, n, hkp, hV, hn, hI, hok⟩ := hi; obtain ⟨xa, xc, hve, -, -, -, hrd, -⟩ := hI.all.form; subst hve; have HR := Lib.hid hrd; have HOK := Lib.hid hok; obtain ⟨N, hN⟩ : ∃ N, bs.length = N := ⟨_, rfl⟩; have HN := Lib.hid hN; rw [hN] at hkp hlen; clear hV hI hok hrd hn hN; have q0 := hkp.cell 0 rfl
  go_enter Try.func59, Try.ntmps59
  go_wp2
  go_loopw [3, 15] (fun v i wr => ∃ (k : Nat) (L : List (Int × Int)), k ≤ N ∧ i = .int .i64 k ∧ Hid (PairsTo bs k L) ∧ L.length ≤ k * 1000 ∧ Hid (wr.ownsRow w.heap.size 110 2 v L.length (p2s L)) ∧ Below w.heap.size w wr) (fun _ i _ => N - (intOf i).toNat)
  case atStart => exact ⟨0, [], by omega, rfl, Lib.hid (PairsTo.zero bs), by simp, Lib.hid (World.ownsRow_nil _ _ _ _), Below.refl _ _⟩
  case round =>
    obtain ⟨k, L, hk, rfl, HP, hLl, HO, hbl⟩ := hrel
    by_cases h1 : k < N
    · have h1' : (k : Int) < (N : Int) := by omega
      have hkl : k < bs.length := by rw [HN.out]; exact h1
      have HX := Lib.hid (HIX.out.keep hbl); obtain ⟨b', off', rfl, hbb, c0, c1, c2, c3⟩ := (HR.out.keep hbl).bx k hkl; have HOKk := Lib.hid (HOK.out _ (List.getElem_mem hkl)); have HFK := Lib.hid (fun W hw => HFN.out bs[k] HOKk.out W hw); have HDN := Lib.hid (fun (L' : List (Int × Int)) (R : List Int) (h : PairsAt L k R R.length L') (hR : ∀ x, x ∈ R ↔ MeetsAt bs[k] bs x) => h.done HP.out hkl hR); clear HOKk; generalize bs[k] = x at *; clear hkl; obtain ⟨⟨lx, ly⟩, ⟨hx, hy⟩⟩ := x; dsimp only [Bx.val] at c0 c1 c2 c3 HFK; have hblA := Below.new wr (.cells #[.int .i64 lx, .int .i64 ly, .int .i64 hx, .int .i64 hy] 104); have HXA := Lib.hid (HX.out.keep hblA); have HOA := Lib.hid (HO.out.below hblA); have kx := Blk.new wr [.int .i64 lx, .int .i64 ly, .int .i64 hx, .int .i64 hy] 104; have hbl2 := hbl.trans (hblA.mono hbl.size); have p0 := kx.cell 0 rfl; have p1 := kx.cell 1 rfl; have p2 := kx.cell 2 rfl; have p3 := kx.cell 3 rfl; have hne1 : b' ≠ wr.heap.size := by omega
      clear hblA HX HO q0; obtain ⟨S, hS⟩ : ∃ s, wr.heap.size = s := ⟨_, rfl⟩
      go_wp2_with fail
      generalize wr.alloc (.cells #[.int .i64 lx, .int .i64 ly, .int .i64 hx, .int .i64 hy] 104) = wa at *; refine (HFK.out wa HXA.out).mono ?_; rintro e wb ⟨⟨v, rfl, R, hRm, hRl, hRo⟩, hbb2⟩; rw [HN.out] at hRl; obtain ⟨ra, rc, rfl, -, -, -, hRr, -⟩ := hRo.form; have HRR := Lib.hid hRr; have HRM := Lib.hid hRm; obtain ⟨RL, hRL⟩ : ∃ n, R.length = n := ⟨_, rfl⟩; have HRE := Lib.hid hRL; rw [hRL] at hRl; rw [hRL]; have HOB := Lib.hid (HOA.out.below (hbb2.mono (Nat.le_refl _))); have hbl3 := hbl2.trans (hbb2.mono hbl2.size); have hD0 : ∀ g, ra.map (·.block) = some g → u3.ownBlock ≠ some g ∧ g < wb.heap.size := fun g hg => by
        have e : (Value.slice ra R.length rc).ownBlock = some g := by cases ra with
          | none => cases hg
          | some a => simpa [Value.ownBlock] using hg
        have h1 := hRo.lt g e; exact ⟨fun e2 => by have := (HOA.out.lt g e2).2; omega, h1.2⟩
      have HD0 := Lib.hid hD0; clear p0 p1 p2 p3 c0 c1 c2 c3 kx hRo hRr hRm hRL hbb2 HOA hbl2 hD0; go_wp2
      go_loopw [3, 24] (fun v i wr => ∃ (t : Nat) (L2 : List (Int × Int)), t ≤ RL ∧ i = .int .i64 t ∧ Hid (PairsAt L k R t L2) ∧ L2.length ≤ k * 1000 + t ∧ Hid (wr.ownsRow w.heap.size 110 2 v L2.length (p2s L2)) ∧ Below w.heap.size w wr ∧ Hid (Rd wr ra (ins R)) ∧ Hid (∀ g, ra.map (·.block) = some g → v.ownBlock ≠ some g ∧ g < wr.heap.size)) (fun _ i _ => RL - (intOf i).toNat)
      case atStart => exact ⟨0, L, by omega, rfl, Lib.hid (PairsAt.zero L k R), by omega, HOB, hbl3, HRR, HD0⟩
      case round =>
        obtain ⟨t, L2, ht, rfl, HA, hLl2, HO2, hbl4, HRW, HDW⟩ := hrel
        by_cases h2 : t < RL
        · have h2' : (t : Int) < (RL : Int) := by omega
          have htl : t < R.length := by rw [HRE.out]; exact h2
          obtain ⟨rb, ro, rfl, cR, hrb⟩ := Rd.at HRW.out (i := t) (v := .int .i64 R[t]) (by simp [ins, List.getElem?_eq_getElem htl]); have HRT := Lib.hid (List.getElem?_eq_getElem htl); generalize R[t] = x at *; clear htl
          by_cases h3 : (k : Int) < x
          · have HA2 := Lib.hid (HA.out.yes HRT.out h3); have hown := HO2.out; obtain ⟨oa, oc, hoe, -, -, -, -, -⟩ := hown.form; subst hoe; have hsz := hbl4.size; have hone : ∀ u ∈ [Value.int .i64 (k : Int), Value.int .i64 x], u.oneCell' = true := by simp [Value.oneCell']
            go_wp2_with (first | (at_builtin; (refine wpList_appLitG w.heap.size (by omega) rfl _ _ 108 rfl 110 _ 2 16 Try.underlying108 Try.infoP2 rfl (by decide) (by decide) (.slice oa L2.length oc) _ _ rfl hown 1 1 _ rfl [.int .i64 (k : Int), .int .i64 x] 110 rfl rfl hone (by omega) ?_; intro v' w4 hown4 hg4 hat4)) | fail)
            have hb5 : Below w.heap.size w w4 := hbl4.grown hg4 hsz (fun j hj => (hown.lt j hj).1); have HR4 := Lib.hid (HRW.out.grown hg4 (fun g hg e => (HDW.out g hg).1 e.symm)); have HD4 : Hid (∀ g, (some (⟨rb, ro, none⟩ : Addr)).map (·.block) = some g → v'.ownBlock ≠ some g ∧ g < w4.heap.size) := Lib.hid (fun g hg => by
              have h1 := HDW.out g hg; have h2 := hg4.size; refine ⟨fun e => ?_, by omega⟩
              rcases hat4 with e2 | ⟨z, e2, hz⟩
              · exact h1.1 (e2 ▸ e)
              · rw [e] at e2; cases e2; omega)
            have HO4 : Hid (w4.ownsRow w.heap.size 110 2 v' (L2 ++ [((k : Int), x)]).length (p2s (L2 ++ [((k : Int), x)]))) := Lib.hid (by
              have e1 : p2s (L2 ++ [((k : Int), x)]) = p2s L2 ++ [.int .i64 (k : Int), .int .i64 x] := by simp [p2s]
              rw [e1, List.length_append]; exact hown4)
            exact ⟨⟨t + 1, L2 ++ [((k : Int), x)], by omega, by go_num, HA2, by simp; omega, HO4, hb5, HR4, HD4⟩, by simp [intOf]; omega⟩
          · have HA2 := Lib.hid (HA.out.no HRT.out h3); go_wp2; exact ⟨⟨t + 1, L2, by omega, by go_num, HA2, by omega, HO2, hbl4, HRW, HDW⟩, by simp [intOf]; omega⟩
        · have h2' : ¬ (t : Int) < (RL : Int) := by omega
          obtain rfl : t = RL := by omega
          have HP2 := Lib.hid (HDN.out L2 R (by rw [HRE.out]; exact HA.out) HRM.out); go_wp2; exact ⟨⟨k + 1, L2, by omega, by go_num, HP2, by omega, HO2, hbl4⟩, by simp [intOf]; omega⟩
    · have h1' : ¬ (k : Int) < (N : Int) := by omega
      obtain rfl : k = N := by omega
      clear q0; go_wp2; refine bodyPost_ret (by simp [results, Try.results59, go_sem]) rfl ⟨⟨_, rfl, L, by rw [HN.out]; exact HP.out, by omega, HO.out⟩, hbl⟩
end Go.Proofs.Ytccamjnomjcchaa
/- The store of a whole struct into a block, as one step (many cells). -/
set_option linter.unusedVariables false
namespace Go
open Go.RowKit
theorem Blk.setRow {w : World} {b : Nat} {vs : List Value} (h : Blk w b vs) (us : List Value) : Blk (w.setRow b us.toArray) b us := by
  obtain ⟨T, h⟩ := h; exact ⟨T, setRow_heap w b _ _ T _ h⟩
theorem Blk.setRow_ne {w : World} {b c : Nat} {vs : List Value} (h : Blk w b vs) (hp : b ≠ c) (us : Array Value) : Blk (w.setRow c us) b vs :=
  h.of_block (setRow_other w c b us hp)
theorem RowKit.Below.setRow {B : Nat} {a w : World} (h : Below B a w) {b : Nat} (hp : B ≤ b) (us : Array Value) : Below B a (w.setRow b us) :=
  h.trans ⟨rfl, rfl, rfl, by simp, fun k hk => setRow_other w b k us (by omega)⟩
theorem wp_store_blk {P : Program} {o : Oper} {a : Act} {w : World} {K : Act → World → Prop} {Q : Exit → Act → World → Prop} (ty : TypeId) (x y : Operand) (ho : o.op = .store ty x y)
    (b : Nat) (vs us : List Value) (hx : a.eval x = .pointer (some ⟨b, 0, none⟩)) (hy : a.eval y = .agg us.toArray) (hb : Blk w b vs) (hi : (P.info? ty).map (·.size) = some us.toArray.size)
    (hl : vs.length = us.length) (h1 : us.all (·.oneCell') = true) (h : K (a.put o.dst undef) (w.setRow b us.toArray)) : o.wp P a w K Q := by
  obtain ⟨T, hb⟩ := hb; exact wp_store_row ty x y ho b us.toArray hx hy T vs.toArray hb hi (by simpa using hl) (by simpa using h1) h
end Go
