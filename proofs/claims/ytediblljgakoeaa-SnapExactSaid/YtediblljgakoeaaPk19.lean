/-
  Plain: of exact faces nothing moves: each edge at the level lies on one of before. graticulelaw10.Cut, graticulelaw11.Cut.
-/
import Derived.Test.YtediblljgakoeaaPk14
import Derived.Test.YtediblljgakoeaaPk17
import Derived.Test.YtediblljgakoeaaPk18
import Derived.Test.YtediblljgakoeaaPk15
import Derived.Test.YtediblljgakoeaaPk2
/- Plain: of exact faces nothing moves: each edge at the level lies on one of before. -/
set_option linter.unusedVariables false
set_option linter.unusedSimpArgs false
namespace Go
open Go.RowKit
theorem pairsP_mem {u v : Pt} : ∀ {l : List Pt}, (u, v) ∈ pairsP l → u ∈ l ∧ v ∈ l
  | [], h => by simp [pairsP] at h
  | [a], h => by simp [pairsP] at h
  | a :: b :: l, h => by
    rw [pairsP, List.mem_cons] at h
    rcases h with h | h
    · cases h; simp
    · have := pairsP_mem h
      exact ⟨List.mem_cons_of_mem _ this.1, List.mem_cons_of_mem _ this.2⟩
theorem pairsP_split {u v y : Pt} {t : List Pt} : ∀ {l : List Pt}, (u, v) ∈ pairsP (l ++ y :: t) → (u, v) ∈ pairsP (l ++ [y]) ∨ (u, v) ∈ pairsP (y :: t)
  | [], h => .inr h
  | [a], h => by
    rw [List.cons_append, List.nil_append, pairsP, List.mem_cons] at h
    rcases h with h | h
    · exact .inl (by simp [pairsP, h])
    · exact .inr h
  | a :: b :: l, h => by
    rw [List.cons_append, List.cons_append, pairsP, List.mem_cons] at h
    rcases h with h | h
    · exact .inl (by rw [List.cons_append, List.cons_append, pairsP]; exact List.mem_cons.2 (.inl h))
    · rcases pairsP_split (l := b :: l) h with h | h
      · exact .inl (by rw [List.cons_append, List.cons_append, pairsP]; exact List.mem_cons_of_mem _ h)
      · exact .inr h
theorem pairs_walk {L : List Int} {u v : Pt} : ∀ {l : List Pt}, (u, v) ∈ pairsP (walkF L l) → ∃ a b, (a, b) ∈ pairsP l ∧ u ∈ allPts a b L L ∧ v ∈ allPts a b L L
  | [], h => by simp [walkF, pairsP] at h
  | [a], h => by simp [walkF, pairsP] at h
  | x :: y :: r, h => by
    obtain ⟨t, ht⟩ := walkF_cons L y r
    have e : walkF L (x :: y :: r) = (x :: cutsF x y L L) ++ y :: t := by
      show edgeF L (x, y) ++ walkF L (y :: r) = _
      rw [ht]; rfl
    rw [e] at h
    rcases pairsP_split h with h | h
    · refine ⟨x, y, by rw [pairsP]; simp, ?_⟩
      exact pairsP_mem h
    · rw [← ht] at h
      obtain ⟨a, b, h1, h2⟩ := pairs_walk h
      exact ⟨a, b, by rw [pairsP]; exact List.mem_cons_of_mem _ h1, h2⟩
theorem pairs_ded {u v : Pt} : ∀ {l : List Pt}, (u, v) ∈ pairsP (ded l) → (u, v) ∈ pairsP l
  | [], h => by simp [ded, pairsP] at h
  | [a], h => by simp [ded, pairsP] at h
  | p :: q :: l, h => by
    rw [ded] at h
    split at h
    · rw [pairsP]
      exact List.mem_cons_of_mem _ (pairs_ded h)
    · obtain ⟨t, ht⟩ := ded_cons q l
      rw [ht, pairsP, List.mem_cons] at h
      rw [pairsP]
      rcases h with h | h
      · rw [h]; simp
      · rw [← ht] at h
        exact List.mem_cons_of_mem _ (pairs_ded h)
theorem edges_map (f : Pt → Pt) (l : List Pt) : edges (l.map f) = (edges l).map (fun e => (f e.1, f e.2)) := by
  cases l with
  | nil => rfl
  | cons p l =>
    rw [List.map_cons, edges_pairs, edges_pairs]
    have key : ∀ l : List Pt, pairsP (l.map f) = (pairsP l).map (fun e => (f e.1, f e.2)) := by
      intro l
      induction l with
      | nil => rfl
      | cons a l ih =>
        cases l with
        | nil => rfl
        | cons b l => simp only [List.map_cons, pairsP]; rw [← List.map_cons, ih]
    rw [← key]; simp
/-- An edge of a ring with its cuts lies along an edge of the ring. -/
theorem ring_along {L : List Int} {l : List Pt} {u v : Pt} (h : (u, v) ∈ edges (ringM L l)) : ∃ a b, (a, b) ∈ edges l ∧ u ∈ allPts a b L L ∧ v ∈ allPts a b L L := by
  cases l with
  | nil =>
    have h0 : thinR ([] : List Pt) = [] := List.eq_nil_of_length_eq_zero (by have := thinR_len []; simpa using this)
    simp [ringM, h0, edges] at h
  | cons p t =>
    rw [edges_pairs]
    rcases ringM_path L p t with ⟨h1, h2⟩ | ⟨s, h0, h1, h2⟩
    · rw [h2] at h
      have hu : u = p ∧ v = p := by simpa [edges] using h
      rw [hu.1, hu.2]
      cases t with
      | nil => exact ⟨p, p, by simp [pairsP], by simp [allPts], by simp [allPts]⟩
      | cons q t => exact ⟨p, q, by simp [pairsP], by simp [allPts], by simp [allPts]⟩
    · have hm : (u, v) ∈ pairsP (walkF L (p :: s ++ [p])) := by
        rw [← h2]
        obtain ⟨r, hr⟩ : ∃ r, ringM L (p :: t) = p :: r := by
          obtain ⟨r, hr⟩ := walkF_cons L p (s ++ [p])
          have e := h2
          rw [List.cons_append, hr] at e
          cases hx : ringM L (p :: t) with
          | nil =>
            rw [hx] at e
            simp at e
            exfalso
            subst e
            cases s with
            | nil => exact h0 rfl
            | cons y s' =>
              obtain ⟨t', ht'⟩ := walkF_cons L y (s' ++ [p])
              have e2 : walkF L (p :: (y :: s' ++ [p])) = edgeF L (p, y) ++ walkF L (y :: (s' ++ [p])) := rfl
              rw [hr, ht'] at e2
              have := congrArg List.length e2
              simp [edgeF] at this
          | cons x r' =>
            rw [hx] at e
            simp at e
            exact ⟨r', by rw [e.1]⟩
        rw [hr] at h ⊢
        rw [edges_pairs] at h
        exact h
      obtain ⟨a, b, h3, h4⟩ := pairs_walk hm
      rw [← h1] at h3
      exact ⟨a, b, pairs_ded h3, h4⟩

/-- What is left of a side where nothing moves: both ends are whole at the level, and it goes straight or aslant. -/
structure Ex45 (d : Int) (p q a b : Pt) : Prop where
  p1 : p.x = d * a.x
  p2 : p.y = d * a.y
  q1 : q.x = d * b.x
  q2 : q.y = d * b.y
  w1 : (0 ≤ p.x ∧ p.x ≤ 65536) ∧ 0 ≤ p.y ∧ p.y ≤ 65536
  w2 : (0 ≤ q.x ∧ q.x ≤ 65536) ∧ 0 ≤ q.y ∧ q.y ≤ 65536
  way : b.x = a.x ∨ b.y = a.y ∨ b.x - a.x = b.y - a.y ∨ b.x - a.x = -(b.y - a.y)
theorem cut_on {d : Int} (hd : 0 < d) {p q a b u : Pt} {L : List Int} (h : Ex45 d p q a b) (hu : u ∈ allPts a b L L) : crs a b u = 0 ∧ InBox a b u := by
  unfold allPts at hu
  rcases List.mem_append.1 hu with hu | hu
  · rcases List.mem_cons.1 hu with rfl | hu
    · exact ⟨by unfold crs; grind, by unfold InBox; omega⟩
    · have hm : u ∈ cutPts a b L L ∨ u = a ∨ u = b := by
        have : u ∈ ded (a :: cutPts a b L L ++ [b]) := by
          unfold cutsF at hu
          rw [thinP_ded] at hu
          exact List.mem_of_mem_drop ((List.dropLast_sublist _).subset hu)
        have := ded_mem this
        simp at this
        rcases this with h | h | h
        · exact .inr (.inl h)
        · exact .inl h
        · exact .inr (.inr h)
      rcases hm with hm | rfl | rfl
      · refine ⟨?_, cutPts_box hm⟩
        obtain ⟨k, hk, rfl⟩ := cutPts_mem hm
        rcases cutRow_mem hk with ⟨c, hc⟩ | ⟨c, hc⟩
        · obtain ⟨h2, rfl⟩ := cutX_some hc
          have hs := at_side h2
          show crs a b ⟨c, (atF a b c).1⟩ = 0
          have way := h.way
          have : ∃ e, (c - a.x) * (b.y - a.y) = (e - a.y) * (b.x - a.x) := by
            rcases way with w | w | w | w
            · omega
            · exact ⟨a.y, by rw [w]; simp⟩
            · exact ⟨a.y + (c - a.x), by rw [w]; grind⟩
            · exact ⟨a.y - (c - a.x), by rw [w]; grind⟩
          obtain ⟨e, he⟩ := this
          rw [at_exact h2 he]
          unfold crs
          dsimp only
          grind
        · obtain ⟨h2, rfl⟩ := cutY_some hc
          have hs := at_side h2
          dsimp only at hs
          show crs a b ⟨(atF ⟨a.y, a.x⟩ ⟨b.y, b.x⟩ c).1, c⟩ = 0
          have way := h.way
          have : ∃ e, (c - a.y) * (b.x - a.x) = (e - a.x) * (b.y - a.y) := by
            rcases way with w | w | w | w
            · exact ⟨a.x, by rw [w]; simp⟩
            · omega
            · exact ⟨a.x + (c - a.y), by rw [w]; grind⟩
            · exact ⟨a.x - (c - a.y), by rw [w]; grind⟩
          obtain ⟨e, he⟩ := this
          rw [at_exact h2 he]
          unfold crs
          dsimp only
          grind
      · exact ⟨by unfold crs; grind, by unfold InBox; omega⟩
      · exact ⟨by unfold crs; grind, by unfold InBox; omega⟩
  · obtain rfl := List.mem_singleton.1 hu
    exact ⟨by unfold crs; grind, by unfold InBox; omega⟩
theorem mul_mono {d x y : Int} (hd : 0 < d) (h : x ≤ y) : d * x ≤ d * y := Int.mul_le_mul_of_nonneg_left h (by omega)
theorem cut_onX {d : Int} (hd : 0 < d) {p q a b u : Pt} {L : List Int} (h : Ex45 d p q a b) (hu : u ∈ allPts a b L L) : onX p q ⟨d * u.x, d * u.y⟩ = true ∧ (0 ≤ d * u.x ∧ d * u.x ≤ 65536) ∧ 0 ≤ d * u.y ∧ d * u.y ≤ 65536 := by
  obtain ⟨hc, ⟨hb1, hb2⟩, hb3, hb4⟩ := cut_on hd h hu
  have i1 : min p.x q.x ≤ d * u.x := by
    rcases Int.le_total a.x b.x with h' | h'
    · have := mul_mono hd (show a.x ≤ u.x by omega); have := h.p1; omega
    · have := mul_mono hd (show b.x ≤ u.x by omega); have := h.q1; omega
  have i2 : d * u.x ≤ max p.x q.x := by
    rcases Int.le_total a.x b.x with h' | h'
    · have := mul_mono hd (show u.x ≤ b.x by omega); have := h.q1; omega
    · have := mul_mono hd (show u.x ≤ a.x by omega); have := h.p1; omega
  have i3 : min p.y q.y ≤ d * u.y := by
    rcases Int.le_total a.y b.y with h' | h'
    · have := mul_mono hd (show a.y ≤ u.y by omega); have := h.p2; omega
    · have := mul_mono hd (show b.y ≤ u.y by omega); have := h.q2; omega
  have i4 : d * u.y ≤ max p.y q.y := by
    rcases Int.le_total a.y b.y with h' | h'
    · have := mul_mono hd (show u.y ≤ b.y by omega); have := h.q2; omega
    · have := mul_mono hd (show u.y ≤ a.y by omega); have := h.p2; omega
  have hcr : crs p q ⟨d * u.x, d * u.y⟩ = 0 := by
    have e : crs p q ⟨d * u.x, d * u.y⟩ = d * d * crs a b u := by
      unfold crs
      rw [h.p1, h.p2, h.q1, h.q2]
      grind
    rw [e, hc]; simp
  refine ⟨?_, ?_⟩
  · unfold onX boxB
    dsimp only
    rw [hcr]
    simp only [decide_true, Bool.true_and, Bool.and_eq_true, decide_eq_true_eq]
    exact ⟨⟨i1, i2⟩, i3, i4⟩
  · have := h.w1; have := h.w2; omega
theorem powD_pos {z : Int} (hz : levelB z = true) : 0 < powD z ∧ powD z ≤ 16 := by
  rcases level_cases hz with rfl | rfl | rfl | rfl | rfl <;> decide
theorem shift_exact {v d : Int} (hd : 0 < d) (h : v % d = 0) : v = d * shiftF v d := by
  obtain ⟨k, rfl⟩ := Int.dvd_of_emod_eq_zero h
  unfold shiftF
  have : (d * k + d / 2) / d = k := by
    rw [Int.mul_comm d k, Int.add_comm, Int.add_mul_ediv_right _ _ (by omega)]
    rw [Int.ediv_eq_zero_of_lt (by omega) (by omega)]; omega
  rw [this]
theorem wrap64_small {n : Int} (h1 : -200000 ≤ n) (h2 : n ≤ 200000) : wrap64 n = n := by
  unfold wrap64; omega
/-- A side where nothing moves, and the next. -/
theorem exS_45 {z : Int} (hz : levelB z = true) {s : Sd} (h : exS z s = true) (hb : worldB s.b = true) (hb2 : s.b.x % powD z = 0 ∧ s.b.y % powD z = 0) : Ex45 (powD z) s.a s.b (snapP s.a z) (snapP s.b z) := by
  obtain ⟨hd, hd2⟩ := powD_pos hz
  unfold exS at h
  simp only [Bool.and_eq_true, decide_eq_true_eq] at h
  obtain ⟨⟨ha, ha1, ha2⟩, hw⟩ := h
  unfold worldB at ha hb
  rw [decide_eq_true_eq] at ha hb
  have e1 := shift_exact hd ha1
  have e2 := shift_exact hd ha2
  have e3 := shift_exact hd hb2.1
  have e4 := shift_exact hd hb2.2
  refine ⟨e1, e2, e3, e4, ha, hb, ?_⟩
  rw [wrap64_small (n := s.b.x - s.a.x) (by omega) (by omega), wrap64_small (n := s.b.y - s.a.y) (by omega) (by omega), wrap64_small (n := -(s.b.y - s.a.y)) (by omega) (by omega)] at hw
  show shiftF s.b.x (powD z) = shiftF s.a.x (powD z) ∨ shiftF s.b.y (powD z) = shiftF s.a.y (powD z) ∨ shiftF s.b.x (powD z) - shiftF s.a.x (powD z) = shiftF s.b.y (powD z) - shiftF s.a.y (powD z) ∨ shiftF s.b.x (powD z) - shiftF s.a.x (powD z) = -(shiftF s.b.y (powD z) - shiftF s.a.y (powD z))
  generalize powD z = d at *
  generalize shiftF s.a.x d = a1 at *
  generalize shiftF s.a.y d = a2 at *
  generalize shiftF s.b.x d = b1 at *
  generalize shiftF s.b.y d = b2 at *
  have hne : d ≠ 0 := by omega
  rcases hw with hw | hw | hw | hw
  · left; exact mul_cancel hne (by rw [Int.mul_comm b1, Int.mul_comm a1]; omega)
  · right; left; exact mul_cancel hne (by rw [Int.mul_comm b2, Int.mul_comm a2]; omega)
  · right; right; left; exact mul_cancel hne (by rw [Int.sub_mul, Int.sub_mul, Int.mul_comm b1, Int.mul_comm a1, Int.mul_comm b2, Int.mul_comm a2]; omega)
  · right; right; right; exact mul_cancel hne (by rw [Int.neg_mul, Int.sub_mul, Int.sub_mul, Int.mul_comm b1, Int.mul_comm a1, Int.mul_comm b2, Int.mul_comm a2]; omega)
end Go
/- graticulelaw10.Cut, graticulelaw11.Cut. -/
set_option linter.unusedVariables false
set_option linter.unusedSimpArgs false
set_option maxRecDepth 100000
namespace Go
open Go.RowKit
def cutS (s : ByteArray) : ByteArray := s.extract 0 (min s.size 100)
def cutA (a : At) : At := ⟨cutS a.key, a.kind, cutS a.text, a.n⟩
def AtOk (a : At) : Prop := a.key.size ≤ maxLen ∧ a.text.size ≤ maxLen
theorem cutS_ok (s : ByteArray) : (cutS s).size ≤ maxLen := by unfold cutS maxLen; simp; omega
theorem cutA_ok (a : At) : AtOk (cutA a) := ⟨cutS_ok _, cutS_ok _⟩
end Go
namespace Go.Proofs.Ytediblljgakoeaa
open Go.RowKit
set_option maxHeartbeats 800000 in
theorem cut10_any (k n : Int) (s : ByteArray) (hs : s.size ≤ maxLen) (w : World) :
    Calls Try.prog 22 #[.agg #[.int .i64 k, .string s, .int .i64 n]] w fun e w' => e = .returned (.agg #[.int .i64 k, .string (cutS s), .int .i64 n]) ∧ Below w.heap.size w w' := by
  have hs2 : s.size ≤ 9223372036854775807 := by unfold maxLen at hs; omega
  obtain ⟨z0, hz0⟩ : ∃ z : Int, (if (100 : Int) < (s.size : Int) then (100 : Int) else (s.size : Int)) = z := ⟨_, rfl⟩
  have e0 : z0.toNat = min s.size 100 := by rw [← hz0]; split <;> omega
  have hz1 : 0 ≤ z0 ∧ z0 ≤ (s.size : Int) := by rw [← hz0]; split <;> omega
  have hzm : min (s.size : Int) 100 = z0 := by rw [← hz0]; split <;> omega
  have HC : Hid (cutS s = s.extract 0 (min s.size 100)) := Lib.hid rfl
  generalize cutS s = CS at *
  go_enter Try.func22, Try.ntmps22
  go_wp2
  refine bodyPost_ret (v := .agg #[.int .i64 k, .string CS, .int .i64 n]) ?_ rfl ⟨rfl, (Below.new _ _).alloc (by simp) _⟩
  rw [← HC.out]
  simp [results, Try.results22, go_sem]

set_option maxHeartbeats 3200000 in
theorem cut11_any (a : Option Addr) (c : Nat) (l : List At) (hlc : l.length ≤ c) (hcm : c ≤ maxLen) (hok : ∀ x ∈ l, AtOk x) (w : World) (hr : Rd w a (ats l)) :
    Calls Try.prog 10 #[.slice a l.length c] w fun e w' => ∃ v, e = .returned v ∧ w'.ownsRow w.heap.size 62 4 v ((l.take 10).map cutA).length (ats ((l.take 10).map cutA)) ∧ Below w.heap.size w w' := by
  have HC := Lib.hid (fun k n s hs w => cut10_any k n s hs w)
  have HOK := Lib.hid hok
  have HR := Lib.hid hr
  unfold maxLen at hcm
  obtain ⟨N, hN⟩ : ∃ N, l.length = N := ⟨_, rfl⟩
  have HN := Lib.hid hN
  rw [hN] at hlc ⊢
  have hml : ((l.take 10).map cutA).length = min 10 N := by rw [List.length_map, List.length_take, hN]
  rw [hml]
  clear hr hN hok hml
  go_enter Try.func10, Try.ntmps10
  go_wp2
  go_loopw [3, 4] (fun o i wr => ∃ k : Nat, k ≤ N ∧ k ≤ 10 ∧ i = .int .i64 k ∧ wr.ownsRow w.heap.size 62 4 o k (ats ((l.take k).map cutA)) ∧ Below w.heap.size w wr) (fun _ i _ => 10 - (intOf i).toNat)
  case atStart => exact ⟨0, by omega, by omega, rfl, World.ownsRow_nil _ _ _ _, Below.refl _ _⟩
  case round =>
    obtain ⟨i, hi, hi10, rfl, ho, hbl⟩ := hrel
    by_cases hlt : i < N ∧ i < 10
    · obtain ⟨h1, h2⟩ := hlt
      have h1' : (i : Int) < (N : Int) := by omega
      have h2' : (i : Int) < 10 := by omega
      have hil : i < l.length := by rw [HN.out]; exact h1
      obtain ⟨b1, o1, rfl, hbb, c0, c1, c2, c3⟩ := HR.out.atr i hil
      obtain ⟨k1, k2⟩ := HOK.out l[i] (List.getElem_mem hil)
      have HSN : Hid (ats ((l.take (i + 1)).map cutA) = ats ((l.take i).map cutA) ++ (cutA l[i]).cells) := Lib.hid (by
        rw [List.take_succ_eq_append_getElem hil, List.map_append, List.map_singleton, ats_snoc])
      have hcc : (cutA l[i]).cells = [.string (cutS l[i].key), .int .i64 l[i].kind, .string (cutS l[i].text), .int .i64 l[i].n] := rfl
      rw [hcc] at HSN
      have HC10 := Lib.hid (fun w => HC.out l[i].kind l[i].n l[i].text k2 w)
      generalize cutS l[i].text = T2 at *
      obtain ⟨K1, hK1⟩ : ∃ K, l[i].key = K := ⟨_, rfl⟩
      rw [hK1] at c0 HSN k1 hcc
      obtain ⟨K2, hK2⟩ : ∃ K, cutS K1 = K := ⟨_, rfl⟩
      rw [hK2] at HSN
      obtain ⟨z0, hz0⟩ : ∃ z : Int, (if (100 : Int) < (K1.size : Int) then (100 : Int) else (K1.size : Int)) = z := ⟨_, rfl⟩
      have e0 : z0.toNat = min K1.size 100 := by rw [← hz0]; split <;> omega
      have hz1 : 0 ≤ z0 ∧ z0 ≤ (K1.size : Int) := by rw [← hz0]; split <;> omega
      have hzm : min (K1.size : Int) 100 = z0 := by rw [← hz0]; split <;> omega
      have hks : K1.extract 0 (min K1.size 100) = K2 := hK2
      generalize l[i].kind = kd at *
      generalize l[i].text = T1 at *
      generalize l[i].n = nn at *
      clear hK1 hK2 hcc k2
      unfold maxLen at k1
      go_wp2
      refine wp_region_lit_txt [0, 1, 2, 3, 4, 5, 6, 7, 8, 9, 10, 11, 12, 13, 14, 15, 16, 17, 18, 20, 23] (fun W => Below w.heap.size w W) (by kernel_rfl) (by kernel_rfl) (by kernel_rfl) (hbl.drew) ?_
      (refine txt_light ?_ rfl rfl ?_ ?_; rotate_left; · (intro w' hS; (try dsimp only at hS); go_simp; with_reducible rfl)); try simp only [Act.put, List.setIfInBounds_toArray, List.set_cons_zero, List.set_cons_succ]
      (refine txt_light ?_ rfl rfl ?_ ?_; rotate_left; · (intro w' hS; (try dsimp only at hS); go_simp; with_reducible rfl)); try simp only [Act.put, List.setIfInBounds_toArray, List.set_cons_zero, List.set_cons_succ]
      (refine txt_light ?_ rfl rfl ?_ ?_; rotate_left; · (intro w' hS; (try dsimp only at hS); go_simp; with_reducible rfl)); try simp only [Act.put, List.setIfInBounds_toArray, List.set_cons_zero, List.set_cons_succ]
      (refine txt_light ?_ rfl rfl ?_ ?_; rotate_left; · (intro w' hS; (try dsimp only at hS); go_simp; with_reducible rfl)); try simp only [Act.put, List.setIfInBounds_toArray, List.set_cons_zero, List.set_cons_succ]
      (refine txt_light ?_ rfl rfl ?_ ?_; rotate_left; · (intro w' hS; (try dsimp only at hS); go_simp; with_reducible rfl)); try simp only [Act.put, List.setIfInBounds_toArray, List.set_cons_zero, List.set_cons_succ]
      refine txt_light (.string K1) rfl rfl ?_ ?_
      · intro w' hS
        have e0 := (hS.cell (p := ⟨b1, o1 + i * 4, none⟩) hbb).trans c0
        go_simp
      try simp only [Act.put, List.setIfInBounds_toArray, List.set_cons_zero, List.set_cons_succ]
      (refine txt_light ?_ rfl rfl ?_ ?_; rotate_left; · (intro w' hS; (try dsimp only at hS); go_simp; with_reducible rfl)); try simp only [Act.put, List.setIfInBounds_toArray, List.set_cons_zero, List.set_cons_succ]
      (refine txt_light ?_ rfl rfl ?_ ?_; rotate_left; · (intro w' hS; (try dsimp only at hS); go_simp; with_reducible rfl)); try simp only [Act.put, List.setIfInBounds_toArray, List.set_cons_zero, List.set_cons_succ]
      (refine txt_light ?_ rfl rfl ?_ ?_; rotate_left; · (intro w' hS; (try dsimp only at hS); go_simp; with_reducible rfl)); try simp only [Act.put, List.setIfInBounds_toArray, List.set_cons_zero, List.set_cons_succ]
      (refine txt_light ?_ rfl rfl ?_ ?_; rotate_left; · (intro w' hS; (try dsimp only at hS); go_simp; with_reducible rfl)); try simp only [Act.put, List.setIfInBounds_toArray, List.set_cons_zero, List.set_cons_succ]
      refine txt_light (.string K1) rfl rfl ?_ ?_
      · intro w' hS
        have e0 := (hS.cell (p := ⟨b1, o1 + i * 4, none⟩) hbb).trans c0
        go_simp
      try simp only [Act.put, List.setIfInBounds_toArray, List.set_cons_zero, List.set_cons_succ]
      (refine txt_light ?_ rfl rfl ?_ ?_; rotate_left; · (intro w' hS; (try dsimp only at hS); go_simp; with_reducible rfl)); try simp only [Act.put, List.setIfInBounds_toArray, List.set_cons_zero, List.set_cons_succ]
      refine txt_light (.int .i64 z0) rfl rfl ?_ ?_
      · intro w' hS
        go_simp
      try simp only [Act.put, List.setIfInBounds_toArray, List.set_cons_zero, List.set_cons_succ]
      refine txt_light (.string K2) rfl rfl ?_ ?_
      · intro w' hS
        go_simp
      try simp only [Act.put, List.setIfInBounds_toArray, List.set_cons_zero, List.set_cons_succ]
      (refine txt_light ?_ rfl rfl ?_ ?_; rotate_left; · (intro w' hS; (try dsimp only at hS); go_simp; with_reducible rfl)); try simp only [Act.put, List.setIfInBounds_toArray, List.set_cons_zero, List.set_cons_succ]
      (refine txt_light ?_ rfl rfl ?_ ?_; rotate_left; · (intro w' hS; (try dsimp only at hS); go_simp; with_reducible rfl)); try simp only [Act.put, List.setIfInBounds_toArray, List.set_cons_zero, List.set_cons_succ]
      (refine txt_light ?_ rfl rfl ?_ ?_; rotate_left; · (intro w' hS; (try dsimp only at hS); go_simp; with_reducible rfl)); try simp only [Act.put, List.setIfInBounds_toArray, List.set_cons_zero, List.set_cons_succ]
      (refine txt_light ?_ rfl rfl ?_ ?_; rotate_left; · (intro w' hS; (try dsimp only at hS); go_simp; with_reducible rfl)); try simp only [Act.put, List.setIfInBounds_toArray, List.set_cons_zero, List.set_cons_succ]
      refine txt_light (.agg #[.int .i64 kd, .string T1, .int .i64 nn]) rfl rfl ?_ ?_
      · intro w' hS
        have e1 := (hS.cell (p := ⟨b1, o1 + i * 4 + 1, none⟩) hbb).trans c1
        have e2 := (hS.cell (p := ⟨b1, o1 + i * 4 + 2, none⟩) hbb).trans c2
        have e3 := (hS.cell (p := ⟨b1, o1 + i * 4 + 3, none⟩) hbb).trans c3
        go_simp
      try simp only [Act.put, List.setIfInBounds_toArray, List.set_cons_zero, List.set_cons_succ]
      have ho0 : wr.drew.ownsRow w.heap.size 62 4 u3 i (ats ((l.take i).map cutA)) := ho
      have hbd : Below w.heap.size w wr.drew := hbl.drew
      generalize wr.drew = W0 at *
      refine txt_call [.agg #[.int .i64 kd, .string T1, .int .i64 nn]] Try.f22 rfl rfl Try.func22 (by kernel_rfl) (by kernel_rfl) rfl ((HC10.out _).mono ?_)
      rintro e W1 ⟨rfl, hx1⟩
      have ho1 := ho0.below hx1
      have hb1 := hbd.trans (hx1.mono hbd.size)
      refine ⟨_, rfl, hb1, ?_⟩
      clear hx1 ho0 hbd
      try simp only [Act.put, List.setIfInBounds_toArray, List.set_cons_zero, List.set_cons_succ]
      refine txt_light (.agg #[.string K2, .int .i64 kd, .string T2, .int .i64 nn]) rfl rfl ?_ ?_
      · intro w' hS
        go_simp
      try simp only [Act.put, List.setIfInBounds_toArray, List.set_cons_zero, List.set_cons_succ]
      refine txt_heavy rfl rfl (fun K hK => ?_)
      go_step
      have ho2 := ho1.below (Below.new W1 (.cells #[.string K2, .int .i64 kd, .string T2, .int .i64 nn] 62))
      have hb2 := hb1.alloc hb1.size (.cells #[.string K2, .int .i64 kd, .string T2, .int .i64 nn] 62)
      have rd := Rd.lit W1 W1.heap.size [.string K2, .int .i64 kd, .string T2, .int .i64 nn] 62 rfl
      refine hK.out _ _ hb2 ?_
      clear hK K ho1 hb1
      generalize W1.alloc (.cells #[.string K2, .int .i64 kd, .string T2, .int .i64 nn] 62) = W2 at *
      try simp only [Act.put, List.setIfInBounds_toArray, List.set_cons_zero, List.set_cons_succ]
      refine txt_app w hb2 rfl rfl (.tmp 15) (.tmp 36) 37 rfl 62 (.agg #[.string ⟨#[]⟩, .int .i64 0, .string ⟨#[]⟩, .int .i64 0]) 4 48 Try.underlying37 Try.infoAt rfl (by decide) u3 i (ats ((l.take i).map cutA)) rfl ho2 (some ⟨W1.heap.size, 0, none⟩) 1 1 [.string K2, .int .i64 kd, .string T2, .int .i64 nn] rfl (fun h => by cases h) rd rfl (by simp [Value.oneCell']) (by omega) (by decide) ?_
      intro v3 W3 ho3 hg3 hb3
      refine ⟨hb3, ?_⟩
      try simp only [Act.put, List.setIfInBounds_toArray, List.set_cons_zero, List.set_cons_succ]
      (refine txt_light ?_ rfl rfl ?_ ?_; rotate_left; · (intro w' hS; (try dsimp only at hS); go_simp; with_reducible rfl)); try simp only [Act.put, List.setIfInBounds_toArray, List.set_cons_zero, List.set_cons_succ]
      refine txt_nil ?_
      clear c0 c1 c2 c3 ho2 hb2 hg3 rd
      have HO9 : Hid (W3.ownsRow w.heap.size 62 4 v3 (i + 1) (ats ((l.take (i + 1)).map cutA))) := Lib.hid (by rw [HSN.out]; exact ho3)
      clear ho3
      go_wp2
      exact ⟨⟨i + 1, by omega, by omega, by go_num, by have := HO9.out; simpa only [List.map_take] using this, hb3⟩, by simp [intOf]; omega⟩
    · have HML : Hid (i = min 10 N) := Lib.hid (by omega)
      have HTK : Hid (l.take i = l.take 10) := Lib.hid (by
        by_cases h10 : i = 10
        · rw [h10]
        · rw [List.take_of_length_le (by rw [HN.out]; omega), List.take_of_length_le (by rw [HN.out]; omega)])
      have HO9 : Hid (wr.ownsRow w.heap.size 62 4 u3 (min 10 N) (ats ((l.take 10).map cutA))) := Lib.hid (by rw [← HML.out, ← HTK.out]; exact ho)
      by_cases h1 : i < N
      · have h1' : (i : Int) < (N : Int) := by omega
        have h2' : ¬ (i : Int) < 10 := by omega
        go_wp2
        go_ret
        exact ⟨u3, rfl, by have := HO9.out; simpa only [List.map_take] using this, hbl⟩
      · have h1' : ¬ (i : Int) < (N : Int) := by omega
        go_wp2
        go_ret
        exact ⟨u3, rfl, by have := HO9.out; simpa only [List.map_take] using this, hbl⟩
end Go.Proofs.Ytediblljgakoeaa
