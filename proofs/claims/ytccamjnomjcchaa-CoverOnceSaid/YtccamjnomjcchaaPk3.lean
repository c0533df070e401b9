/-
  A region that draws its order, of which some operations (H) come behind all that read: behind these nothing need be known of the world; the light operations are taken first. exact.Box, of points that may be.
-/
import Derived.Test.YtccamjnomjcchaaPk2
import Derived.Test.YtccamjnomjcchaaPk1
import Derived.RegionTactic
import Derived.BigRegion
/- A region that draws its order, of which some operations (H) come behind all that read: behind these nothing need be known of the world; the light operations are taken first. -/
set_option linter.unusedVariables false
set_option linter.unusedSimpArgs false
namespace Go
open Go.RowKit
section
variable {P : Program} {ops : Array Oper} {Q : Exit → Act → World → Prop} {md : Region.Mode} {S I : World → Prop} {H F : List Nat} {lt : Nat → Bool}

def waitsFor (md : Region.Mode) (ops : Array Oper) (j i : Nat) : Bool := match ops[j]? with | none => true | some o => o.after.any fun e => Region.binds md e && e.on == i

def demG (S I : World → Prop) (H F : List Nat) (i : Nat) (w w' : World) : Prop := I w' ∧ (H.contains i = false → if F.contains i then S w → S w' else S w')

def wpAnyG (P : Program) (md : Region.Mode) (ops : Array Oper) (Q : Exit → Act → World → Prop) (S I : World → Prop) (H F : List Nat) : Nat → Array Bool → Act → World → Prop
  | 0, listed, a, w => Region.ready md ops listed = [] ∧ Q .normal a w
  | f + 1, listed, a, w => (Region.ready md ops listed = [] → Q .normal a w) ∧
    ∀ i ∈ Region.ready md ops listed, wpOp P ops Q i (fun a' w' => demG S I H F i w w' ∧ wpAnyG P md ops Q S I H F f (listed.setIfInBounds i true) a' w') a w

theorem wpAny_of_G (f : Nat) : ∀ (listed : Array Bool) (a : Act) (w : World), wpAnyG P md ops Q S I H F f listed a w → wpAny P md ops Q f listed a w := by
  induction f with
  | zero => intro _ _ _ h; exact h
  | succ f ih => intro listed a w h; exact ⟨h.1, fun i hi => wpOp_mono (fun a' w' h' => ih _ a' w' h'.2) (h.2 i hi)⟩

theorem wpAnyG_done {listed : Array Bool} {a : Act} {w : World} (hr : Region.ready md ops listed = []) (h : Q .normal a w) : ∀ f, wpAnyG P md ops Q S I H F f listed a w
  | 0 => ⟨hr, h⟩
  | _ + 1 => ⟨fun _ => h, by rw [hr]; simp⟩

theorem wpAnyG_take {R : World → Prop} {i : Nat} {oi : Oper} {v : Value} (hR : ∀ j, waitsFor md ops j i = false → ∀ w w', R w → demG S I H F j w w' → R w') (hi : ops[i]? = some oi) (hs : Region.noSelect ops = true) (hQ : ∀ c a w, Q (.panic c) (a.put oi.dst v) w → Q (.panic c) a w) (hRS : ∀ w', R w' → demG S I H F i w' w') (f : Nat) :
    ∀ (listed : Array Bool) (a : Act) (w : World), Region.free md ops listed i = true → (Region.ready md ops listed).contains i = true → YieldsIf P ops R oi v a → R w →
      wpAnyG P md ops Q S I H F f (listed.setIfInBounds i true) (a.put oi.dst v) w → wpAnyG P md ops Q S I H F (f + 1) listed a w := by
  suffices HH : ∀ (listed : Array Bool) (a : Act) (w : World),
      (∀ j oj, ops[j]? = some oj → j ≠ i → listed.getD j true = false → (∀ e ∈ oj.after, Region.binds md e = true → e.on ≠ i) → oi.apart ops oj = true) →
      i ∈ Region.ready md ops listed → YieldsIf P ops R oi v a → R w →
      wpAnyG P md ops Q S I H F f (listed.setIfInBounds i true) (a.put oi.dst v) w → wpAnyG P md ops Q S I H F (f + 1) listed a w by
    intro listed a w hf hr hy hS h; exact HH listed a w (Region.free_spec hi hf) (by simpa using hr) hy hS h
  have hsel := Region.noSelect_spec hs
  induction f with
  | zero =>
    intro listed a w hfree hr hy hS H1; refine ⟨fun h => (by rw [h] at hr; cases hr), fun j hj => ?_⟩
    by_cases hji : j = i
    · subst hji; exact hy.wpOp hi hS ⟨hRS _ hS, H1⟩
    · have := ready_mono hj hji; rw [H1.1] at this
      cases this
  | succ f ih =>
    intro listed a w hfree hr hy hS H1; refine ⟨fun h => (by rw [h] at hr; cases hr), fun j hj => ?_⟩
    by_cases hji : j = i
    · subst hji; exact hy.wpOp hi hS ⟨hRS _ hS, H1⟩
    · have h1 := H1.2 j (ready_mono hj hji); obtain ⟨hjun, oj, hoj, hall⟩ := mem_ready.1 hj; have hnot : ∀ e ∈ oj.after, Region.binds md e = true → e.on ≠ i := by
        intro e he hb heq; have h1 := hall e he hb; have h0 := (mem_ready.1 hr).1; rw [heq] at h1
        rcases Nat.lt_or_ge i listed.size with h' | h'
        · simp [h'] at h0 h1; rw [h0] at h1; cases h1
        · simp [Array.getElem?_eq_none h'] at h1
      have hjw : waitsFor md ops j i = false := by
        cases hw : waitsFor md ops j i
        · rfl
        · unfold waitsFor at hw; simp only [hoj] at hw; obtain ⟨e, he, hb⟩ := Array.any_eq_true'.1 hw; rw [Bool.and_eq_true] at hb; exact absurd (by simpa using hb.2) (hnot e he hb.1)
      have h2 := wpOp_putIf hoj (hfree j oj hoj hji hjun hnot) (fun cs b => hsel i oi cs b hi) (fun cs b => hsel j oj cs b hoj) hQ hy h1; have hri : i ∈ Region.ready md ops (listed.setIfInBounds j true) := ready_mono hr (Ne.symm hji); have hfree' : ∀ k ok, ops[k]? = some ok → k ≠ i → (listed.setIfInBounds j true).getD k true = false →
          (∀ e ∈ ok.after, Region.binds md e = true → e.on ≠ i) → oi.apart ops ok = true := by
        intro k ok hk hki hun hno; refine hfree k ok hk hki ?_ hno
        by_cases hjk : j = k
        · subst hjk; exact hjun
        · rw [getD_set_ne true hjk] at hun; exact hun
      refine wpOp_mono (fun a' w' h3 => ?_) h2; obtain ⟨h4, h5, h6⟩ := h3; have hR' := hR j hjw _ w' hS h5; refine ⟨h5, ih (listed.setIfInBounds j true) a' w' hfree' hri h4 hR' ?_⟩; rw [Array.setIfInBounds_comm _ _ hji]; exact h6

def wpStg (P : Program) (ops : Array Oper) (lt : Nat → Bool) (Q : Exit → Act → World → Prop) (S I : World → Prop) (H F : List Nat) : Nat → Array Bool → Act → World → Prop
  | 0, listed, a, w => Region.ready .any ops listed = [] ∧ Q .normal a w
  | f + 1, listed, a, w =>
    match (Region.ready .any ops listed).find? lt with
    | some j => Region.free .any ops listed j = true ∧ ∃ (o : Oper) (v : Value) (R : World → Prop), ops[j]? = some o ∧ YieldsIf P ops R o v a ∧ R w ∧ (∀ k, waitsFor .any ops k j = false → ∀ w w', R w → demG S I H F k w w' → R w') ∧ (∀ w', R w' → demG S I H F j w' w') ∧ wpStg P ops lt Q S I H F f (listed.setIfInBounds j true) (a.put o.dst v) w
    | none => (Region.ready .any ops listed = [] → Q .normal a w) ∧
      ∀ i ∈ Region.ready .any ops listed, wpOp P ops Q i (fun a' w' => demG S I H F i w w' ∧ wpStg P ops lt Q S I H F f (listed.setIfInBounds i true) a' w') a w

theorem wpStg_sound (hs : Region.noSelect ops = true) (hQ : ∀ c a w, ¬ Q (.panic c) a w) : ∀ (f : Nat) (listed : Array Bool) (a : Act) (w : World),
    wpStg P ops lt Q S I H F f listed a w → wpAnyG P .any ops Q S I H F f listed a w := by
  intro f
  induction f with
  | zero => intro listed a w h; exact wpAnyG_done h.1 h.2 0
  | succ f ih =>
    intro listed a w h; unfold wpStg at h
    cases hf : (Region.ready .any ops listed).find? lt with
    | some j =>
      rw [hf] at h; simp only at h; obtain ⟨h1, o, v, R, ho, hy, hR, hk, hRS, h2⟩ := h; have hr : (Region.ready .any ops listed).contains j = true := by
        have := List.mem_of_find?_eq_some hf
        simpa using this
      exact wpAnyG_take hk ho hs (fun c a w h => absurd h (hQ c _ w)) hRS f listed a w h1 hr hy hR (ih _ _ _ h2)
    | none =>
      rw [hf] at h; simp only at h; exact ⟨h.1, fun i hi => wpOp_mono (fun a' w' h' => ⟨h'.1, ih _ _ _ h'.2⟩) (h.2 i hi)⟩

theorem stg_light {f : Nat} {listed : Array Bool} {a : Act} {w : World} (j : Nat) (o : Oper) (v : Value) (hr : (Region.ready .any ops listed).find? lt = some j) (hf : Region.free .any ops listed j = true) (hwt : (H.all fun k => waitsFor .any ops k j) = true) (ho : ops[j]? = some o)
    (hw : Region.wanted o (yielded ops a.tmps) = true) (hv : ∀ w', S w' → I w' → (execOp a.eval o).run P w' = .ok (.value v) w') (hS : S w) (hI : I w) (h : wpStg P ops lt Q S I H F f (listed.setIfInBounds j true) (a.put o.dst v) w) : wpStg P ops lt Q S I H F (f + 1) listed a w := by
  unfold wpStg; rw [hr]; refine ⟨hf, o, v, fun w => S w ∧ I w, ho, .inl ⟨hw, fun w' h => hv w' h.1 h.2⟩, ⟨hS, hI⟩, fun k hk w w' hw0 hS' => ⟨?_, hS'.1⟩, fun w' h => ⟨h.2, fun _ => by split <;> simp_all⟩, h⟩
  cases hc : H.contains k
  · have := hS'.2 hc
    split at this
    · exact this hw0.1
    · exact this
  · have := List.all_eq_true.1 hwt k (by simpa using hc); rw [this] at hk; cases hk
theorem stg_skip {f : Nat} {listed : Array Bool} {a : Act} {w : World} (j : Nat) (o : Oper) (hr : (Region.ready .any ops listed).find? lt = some j) (hf : Region.free .any ops listed j = true) (hj : F.contains j = true) (ho : ops[j]? = some o)
    (hw : Region.wanted o (yielded ops a.tmps) = false) (hI : I w) (h : wpStg P ops lt Q S I H F f (listed.setIfInBounds j true) (a.put o.dst undef) w) : wpStg P ops lt Q S I H F (f + 1) listed a w := by
  unfold wpStg; rw [hr]; exact ⟨hf, o, undef, I, ho, .inr ⟨hw, rfl⟩, hI, fun k _ w w' _ h => h.1, fun w' h => ⟨h, fun _ => by rw [if_pos hj]; exact id⟩, h⟩
theorem stg_free {f : Nat} {listed : Array Bool} {a : Act} {w : World} (j : Nat) (o : Oper) (v : Value) (hr : (Region.ready .any ops listed).find? lt = some j) (hf : Region.free .any ops listed j = true) (hj : F.contains j = true) (ho : ops[j]? = some o)
    (hw : Region.wanted o (yielded ops a.tmps) = true) (hv : ∀ w', I w' → (execOp a.eval o).run P w' = .ok (.value v) w') (hI : I w) (h : wpStg P ops lt Q S I H F f (listed.setIfInBounds j true) (a.put o.dst v) w) : wpStg P ops lt Q S I H F (f + 1) listed a w := by
  unfold wpStg; rw [hr]; exact ⟨hf, o, v, I, ho, .inl ⟨hw, hv⟩, hI, fun k _ w w' _ h => h.1, fun w' h => ⟨h, fun _ => by rw [if_pos hj]; exact id⟩, h⟩
theorem stg_fork {f : Nat} {listed : Array Bool} {a : Act} {w : World} (rs : List Nat) (hr : Region.ready .any ops listed = rs) (hl : rs.find? lt = none) (hne : rs ≠ [])
    (h : ∀ i ∈ rs, wpOp P ops Q i (fun a' w' => demG S I H F i w w' ∧ wpStg P ops lt Q S I H F f (listed.setIfInBounds i true) a' w') a w) : wpStg P ops lt Q S I H F (f + 1) listed a w := by
  unfold wpStg; rw [hr, hl]; exact ⟨fun h0 => absurd h0 hne, h⟩
theorem stg_heavy {f : Nat} {listed : Array Bool} {a : Act} {w : World} (i : Nat) (o : Oper) (hiH : H.contains i = true) (ho : ops[i]? = some o) (hw : Region.wanted o (yielded ops a.tmps) = true)
    (h : ∀ K : Act → World → Prop, Hid (∀ a w, I w → wpStg P ops lt Q S I H F f (listed.setIfInBounds i true) a w → K a w) → o.wp P a w K Q) :
    wpOp P ops Q i (fun a' w' => demG S I H F i w w' ∧ wpStg P ops lt Q S I H F f (listed.setIfInBounds i true) a' w') a w := by
  unfold wpOp; simp only [ho]; rw [if_pos hw]; exact .inl (h _ (fun a w h1 h2 => ⟨⟨h1, fun hc => (by rw [hiH] at hc; cases hc)⟩, h2⟩))
theorem stg_heavyS {f : Nat} {listed : Array Bool} {a : Act} {w : World} (i : Nat) (o : Oper) (hiF : F.contains i = false) (ho : ops[i]? = some o) (hw : Region.wanted o (yielded ops a.tmps) = true)
    (h : ∀ K : Act → World → Prop, Hid (∀ a w, S w → I w → wpStg P ops lt Q S I H F f (listed.setIfInBounds i true) a w → K a w) → o.wp P a w K Q) :
    wpOp P ops Q i (fun a' w' => demG S I H F i w w' ∧ wpStg P ops lt Q S I H F f (listed.setIfInBounds i true) a' w') a w := by
  unfold wpOp; simp only [ho]; rw [if_pos hw]; exact .inl (h _ (fun a w h1 h2 h3 => ⟨⟨h2, fun _ => by rw [hiF]; exact h1⟩, h3⟩))
theorem stg_oneS {f : Nat} {listed : Array Bool} {a : Act} {w : World} (i : Nat) (o : Oper) (hr : Region.ready .any ops listed = [i]) (hl : lt i = false) (hiF : F.contains i = false) (ho : ops[i]? = some o) (hw : Region.wanted o (yielded ops a.tmps) = true)
    (h : ∀ K : Act → World → Prop, Hid (∀ a w, S w → I w → wpStg P ops lt Q S I H F f (listed.setIfInBounds i true) a w → K a w) → o.wp P a w K Q) : wpStg P ops lt Q S I H F (f + 1) listed a w :=
  stg_fork [i] hr (by simp [hl]) (by simp) fun k hk => by
    obtain rfl : k = i := by simpa using hk
    exact stg_heavyS k o hiF ho hw h
theorem stg_one {f : Nat} {listed : Array Bool} {a : Act} {w : World} (i : Nat) (o : Oper) (hr : Region.ready .any ops listed = [i]) (hl : lt i = false) (hiH : H.contains i = true) (ho : ops[i]? = some o) (hw : Region.wanted o (yielded ops a.tmps) = true)
    (h : ∀ K : Act → World → Prop, Hid (∀ a w, I w → wpStg P ops lt Q S I H F f (listed.setIfInBounds i true) a w → K a w) → o.wp P a w K Q) : wpStg P ops lt Q S I H F (f + 1) listed a w :=
  stg_fork [i] hr (by simp [hl]) (by simp) fun k hk => by
    obtain rfl : k = i := by simpa using hk
    exact stg_heavy k o hiH ho hw h
theorem stg_end {listed : Array Bool} {a : Act} {w : World} (hr : Region.ready .any ops listed = []) (h : Q .normal a w) : wpStg P ops lt (OnlyQ Q) S I H F 0 listed a w := ⟨hr, h⟩

theorem wp_region_stage {id : Nat} {a : Act} {w : World} (n : Nat) (lts H F : List Nat) (S I : World → Prop) (hn : ops.size = n) (hm : P.follows .mixedOrders = true) (hs : Region.noSelect ops = true)
    (h : wpStg P ops (lts.contains ·) (OnlyQ Q) S I H F n (Array.replicate n false) a w.drew) : (Code.region id ops true).wp P Q a w := by
  subst hn; refine Code.wp_mono OnlyQ.imp ?_; refine wp_region_any hm (wpAny_of_G (S := S) (I := I) (H := H) (F := F) _ _ _ _ ?_); exact wpStg_sound hs (fun c a w h => h) _ _ _ _ h
end
attribute [irreducible] wpStg
end Go
/- exact.Box, of points that may be. -/
set_option linter.unusedVariables false
set_option linter.unusedSimpArgs false
set_option maxRecDepth 100000
namespace Go
open Go.RowKit
def lowP (a p : Pt) : Pt := ⟨min a.x p.x, min a.y p.y⟩
def highP (a p : Pt) : Pt := ⟨max a.x p.x, max a.y p.y⟩
end Go
namespace Go.Proofs.Ytccamjnomjcchaa
open Go.RowKit
set_option maxHeartbeats 6400000 in
theorem box_any (a : Option Addr) (c : Nat) (p0 : Pt) (l : List Pt) (hlen : (p0 :: l).length ≤ 1000000) (hok : (p0 :: l).all okPt = true) (w : World) (hr : Rd w a (pts (p0 :: l))) :
    Calls Try.prog 83 #[.slice a (p0 :: l).length c] w fun e w' => e = .returned (.tuple #[((p0 :: l).foldl lowP p0).val, ((p0 :: l).foldl highP p0).val, .bool true]) ∧ Below w.heap.size w w' := by
  obtain ⟨L, hL⟩ : ∃ L, p0 :: l = L := ⟨_, rfl⟩; have h0 : L[0]? = some p0 := by rw [← hL]; rfl
  have hne : 0 < L.length := by rw [← hL]; simp
  rw [hL] at hlen hok hr ⊢; have HR := Lib.hid hr; have HXR := Lib.hid (fun W h => xright_any a c L (by unfold maxLen; omega) W h); rw [hok] at HXR; obtain ⟨N, hN⟩ : ∃ N, L.length = N := ⟨_, rfl⟩; have HN := Lib.hid hN; rw [hN] at hlen hne HXR ⊢; have hok0 : ∀ q ∈ L, okPt q = true := fun q hq => List.all_eq_true.1 hok q hq; obtain ⟨x0, y0⟩ := p0; have H0 := Lib.hid h0; clear hL hr hN hok h0; have HB0 : Below w.heap.size w ((w.alloc (.cells #[.int .i64 0, .int .i64 0] 46)).alloc (.cells #[.int .i64 0, .int .i64 0] 46)) := (Below.new _ _).alloc (by simp) _; have kA := (Blk.lit w w.heap.size [.int .i64 0, .int .i64 0] 46 rfl).alloc (.cells #[.int .i64 0, .int .i64 0] 46); have kB := Blk.lit (w.alloc (.cells #[.int .i64 0, .int .i64 0] 46)) (w.heap.size + 1) [.int .i64 0, .int .i64 0] 46 (by simp)
  go_enter Try.func83, Try.ntmps83
  have hne0 : ¬ N = 0 := by omega
  go_wp2_with fail
  obtain ⟨A1, hA1⟩ : ∃ M, w.heap.size + 1 = M := ⟨_, rfl⟩; rw [hA1] at kB ⊢; generalize (w.alloc (.cells #[.int .i64 0, .int .i64 0] 46)).alloc (.cells #[.int .i64 0, .int .i64 0] 46) = w0 at *; refine (HXR.out w0 (HR.out.keep HB0)).mono ?_; rintro e w1 ⟨rfl, hb1⟩; have kA := kA.keep hb1; have kB := kB.keep hb1; have HB1 := HB0.trans (hb1.mono HB0.size); have lB := kB.lt; clear hb1 HB0; obtain ⟨b, off, rfl, hbb, c0, c1⟩ := (HR.out.keep HB1).pt 0 (by rw [HN.out]; exact hne); have hp0 : L[0]'(by rw [HN.out]; exact hne) = ⟨x0, y0⟩ := by have := H0.out; rw [List.getElem?_eq_getElem (by rw [HN.out]; exact hne)] at this; exact Option.some.inj this
  rw [hp0] at c0 c1; dsimp only at c0 c1; have c0 : w1.cell? ⟨b, off, none⟩ = some (.int .i64 x0) := by simpa using c0
  have c1 : w1.cell? ⟨b, off + 1, none⟩ = some (.int .i64 y0) := by simpa using c1
  have hlen0 : (0 : Int) < (N : Int) := by omega
  go_wp2; rename_i K hK; replace hK := Lib.hid hK; have main : ∀ (B5 B6 : Nat) (w2 : World) (u7 u8 u9 u10 u11 u12 u13 u14 u15 u16 u17 u18 u19 u20 u21 u22 u23 u24 u25 u26 u27 u28 u29 u30 u31 u32 u33 u34 u35 u36 u37 u38 u39 u40 u41 u42 u43 u44 u45 u46 u47 u48 u49 u50 u51 u52 u53 u54 u55 u56 u57 : Value), A1 < B5 → A1 < B6 → B5 ≠ B6 → Blk w2 w.heap.size [.int .i64 0, .int .i64 0] → Blk w2 A1 [.int .i64 0, .int .i64 0] → Blk w2 B5 [.int .i64 x0, .int .i64 y0] → Blk w2 B6 [.int .i64 x0, .int .i64 y0] → Below w.heap.size w w2 → K { tmps := #[.slice (some ⟨b, off, none⟩) N c, undef, .pointer (some ⟨w.heap.size, 0, none⟩), .pointer (some ⟨A1, 0, none⟩), .bool false, .pointer (some ⟨B5, 0, none⟩), .pointer (some ⟨B6, 0, none⟩), u7, u8, u9, u10, u11, u12, u13, u14, u15, u16, u17, u18, u19, u20, u21, u22, u23, u24, u25, u26, u27, u28, u29, u30, u31, u32, u33, u34, u35, u36, u37, u38, u39, u40, u41, u42, u43, u44, u45, u46, u47, u48, u49, u50, u51, u52, u53, u54, u55, u56, u57], defers := [] } w2 := by
    intro B5 B6 w2 u7 u8 u9 u10 u11 u12 u13 u14 u15 u16 u17 u18 u19 u20 u21 u22 u23 u24 u25 u26 u27 u28 u29 u30 u31 u32 u33 u34 u35 u36 u37 u38 u39 u40 u41 u42 u43 u44 u45 u46 u47 u48 u49 u50 u51 u52 u53 u54 u55 u56 u57 l5 l6 hne6 kA kB k5 k6 hb2; refine hK.out _ _ ?_; clear hK K c0 c1; go_wp2
    go_loopw [27] (fun i wr => ∃ (k : Nat) (lo hi : Pt), k ≤ N ∧ i = .int .i64 k ∧ Hid ((L.take k).foldl lowP ⟨x0, y0⟩ = lo) ∧ Hid ((L.take k).foldl highP ⟨x0, y0⟩ = hi) ∧ Hid (Blk wr w.heap.size [.int .i64 0, .int .i64 0]) ∧ Hid (Blk wr A1 [.int .i64 0, .int .i64 0]) ∧ Hid (Blk wr B5 [.int .i64 lo.x, .int .i64 lo.y]) ∧ Hid (Blk wr B6 [.int .i64 hi.x, .int .i64 hi.y]) ∧ Below w.heap.size w wr) (fun i _ => N - (intOf i).toNat)
    case atStart => exact ⟨0, ⟨x0, y0⟩, ⟨x0, y0⟩, by omega, rfl, Lib.hid rfl, Lib.hid rfl, Lib.hid kA, Lib.hid kB, Lib.hid k5, Lib.hid k6, hb2⟩
    case round =>
      obtain ⟨k, ⟨lx, ly⟩, ⟨hx, hy⟩, hk, rfl, HLO, HHI, KA, KB, K5, K6, hbl⟩ := hrel; dsimp only at K5 K6
      by_cases h1 : k < N
      · have h1' : (k : Int) < (N : Int) := by omega
        have hkl : k < L.length := by rw [HN.out]; exact h1
        obtain ⟨b', off', he, hbb, c0, c1⟩ := (HR.out.keep hbl).pt k hkl
        cases he
        have HL2 : Hid ((L.take (k + 1)).foldl lowP ⟨x0, y0⟩ = lowP ⟨lx, ly⟩ L[k]) := Lib.hid (by rw [List.take_succ_eq_append_getElem hkl, List.foldl_append, HLO.out]; rfl); have HH2 : Hid ((L.take (k + 1)).foldl highP ⟨x0, y0⟩ = highP ⟨hx, hy⟩ L[k]) := Lib.hid (by rw [List.take_succ_eq_append_getElem hkl, List.foldl_append, HHI.out]; rfl); generalize L[k] = p at *; obtain ⟨px, py⟩ := p; dsimp only [lowP, highP] at c0 c1 HL2 HH2; obtain ⟨m1, hm1⟩ : ∃ z, min lx px = z := ⟨_, rfl⟩; obtain ⟨m2, hm2⟩ : ∃ z, min ly py = z := ⟨_, rfl⟩; obtain ⟨m3, hm3⟩ : ∃ z, max hx px = z := ⟨_, rfl⟩; obtain ⟨m4, hm4⟩ : ∃ z, max hy py = z := ⟨_, rfl⟩; rw [hm1, hm2] at HL2; rw [hm3, hm4] at HH2; have f1 : (if lx < px then lx else px) = m1 := by split <;> omega
        have f2 : (if ly < py then ly else py) = m2 := by split <;> omega
        have f3 : (if hx < px then px else hx) = m3 := by split <;> omega
        have f4 : (if hy < py then py else hy) = m4 := by split <;> omega
        have f5 : (if px < lx then px else lx) = m1 := by split <;> omega
        have f6 : (if py < ly then py else ly) = m2 := by split <;> omega
        have f7 : (if px < hx then hx else px) = m3 := by split <;> omega
        have f8 : (if py < hy then hy else py) = m4 := by split <;> omega
        have kA := KA.out.alloc (.cells #[.int .i64 px, .int .i64 py] 46); have kB := KB.out.alloc (.cells #[.int .i64 px, .int .i64 py] 46); have k5 := K5.out.alloc (.cells #[.int .i64 px, .int .i64 py] 46); have k6 := K6.out.alloc (.cells #[.int .i64 px, .int .i64 py] 46); have kP := Blk.new wr [.int .i64 px, .int .i64 py] 46; have hb3 := hbl.trans ((Below.new wr (.cells #[.int .i64 px, .int .i64 py] 46)).mono hbl.size); obtain ⟨S, hS⟩ : ∃ S, wr.heap.size = S := ⟨_, rfl⟩; rw [hS] at kP; have l5S := K5.out.lt; have l6S := K6.out.lt; clear KA KB K5 K6; go_wp2; generalize wr.alloc (.cells #[.int .i64 px, .int .i64 py] 46) = w3 at *; have n5 : B5 ≠ S := by omega
        have n6 : B6 ≠ S := by omega
        clear hok0; replace kA := kA.drew; replace kB := kB.drew; replace k5 := k5.drew; replace k6 := k6.drew; replace kP := kP.drew; replace hb3 := hb3.drew; refine wp_region_stage 14 [0, 1, 2, 3, 4, 5, 6, 7, 8, 9, 10, 12] [11, 13] [0, 2, 3, 4, 5, 7, 8, 9, 10, 12] (fun W => W = w3.drew) (fun W => Blk W S [.int .i64 px, .int .i64 py]) rfl (by kernel_rfl) (by kernel_rfl) ?_; generalize hWD : w3.drew = wd at *; have hI := kP; have q0 := k5.cell 0 rfl; have q1 := k5.cell 1 rfl; have q2 := kP.cell 0 rfl; have q3 := kP.cell 1 rfl; have q4 := k5.free 0; have q5 := k5.free 1
        (refine stg_free 0 _ ?_ (by kernel_rfl) (by kernel_rfl) (by kernel_rfl) rfl rfl ?_ hI ?_; rotate_left; · (intro w' _; go_simp; with_reducible rfl)); try simp only [Act.put, List.setIfInBounds_toArray, List.set_cons_zero, List.set_cons_succ]
        (refine stg_light 1 _ ?_ (by kernel_rfl) (by kernel_rfl) (by kernel_rfl) rfl rfl ?_ rfl hI ?_; rotate_left; · (intro w' hS _; (try dsimp only at hS); rw [hS]; go_simp; with_reducible rfl)); try simp only [Act.put, List.setIfInBounds_toArray, List.set_cons_zero, List.set_cons_succ]
        (refine stg_free 2 _ ?_ (by kernel_rfl) (by kernel_rfl) (by kernel_rfl) rfl rfl ?_ hI ?_; rotate_left; · (intro w' _; go_simp; with_reducible rfl)); try simp only [Act.put, List.setIfInBounds_toArray, List.set_cons_zero, List.set_cons_succ]
        refine stg_free 3 _ (.int .i64 px) (by kernel_rfl) (by kernel_rfl) (by kernel_rfl) rfl rfl ?_ hI ?_
        · intro w' kP; have q2 := kP.cell 0 rfl; clear kP; go_simp
        try simp only [Act.put, List.setIfInBounds_toArray, List.set_cons_zero, List.set_cons_succ]
        (refine stg_free 4 _ ?_ (by kernel_rfl) (by kernel_rfl) (by kernel_rfl) rfl rfl ?_ hI ?_; rotate_left; · (intro w' _; go_simp; with_reducible rfl)); try simp only [Act.put, List.setIfInBounds_toArray, List.set_cons_zero, List.set_cons_succ]
        (refine stg_free 5 _ ?_ (by kernel_rfl) (by kernel_rfl) (by kernel_rfl) rfl rfl ?_ hI ?_; rotate_left; · (intro w' _; go_simp; with_reducible rfl)); try simp only [Act.put, List.setIfInBounds_toArray, List.set_cons_zero, List.set_cons_succ]
        (refine stg_light 6 _ ?_ (by kernel_rfl) (by kernel_rfl) (by kernel_rfl) rfl rfl ?_ rfl hI ?_; rotate_left; · (intro w' hS _; (try dsimp only at hS); rw [hS]; go_simp; with_reducible rfl)); try simp only [Act.put, List.setIfInBounds_toArray, List.set_cons_zero, List.set_cons_succ]
        (refine stg_free 7 _ ?_ (by kernel_rfl) (by kernel_rfl) (by kernel_rfl) rfl rfl ?_ hI ?_; rotate_left; · (intro w' _; go_simp; with_reducible rfl)); try simp only [Act.put, List.setIfInBounds_toArray, List.set_cons_zero, List.set_cons_succ]
        refine stg_free 8 _ (.int .i64 py) (by kernel_rfl) (by kernel_rfl) (by kernel_rfl) rfl rfl ?_ hI ?_
        · intro w' kP; have q2 := kP.cell 1 rfl; clear kP; go_simp
        try simp only [Act.put, List.setIfInBounds_toArray, List.set_cons_zero, List.set_cons_succ]
        (refine stg_free 9 _ ?_ (by kernel_rfl) (by kernel_rfl) (by kernel_rfl) rfl rfl ?_ hI ?_; rotate_left; · (intro w' _; go_simp; with_reducible rfl)); try simp only [Act.put, List.setIfInBounds_toArray, List.set_cons_zero, List.set_cons_succ]
        (refine stg_free 10 _ ?_ (by kernel_rfl) (by kernel_rfl) (by kernel_rfl) rfl rfl ?_ hI ?_; rotate_left; · (intro w' _; go_simp; with_reducible rfl)); try simp only [Act.put, List.setIfInBounds_toArray, List.set_cons_zero, List.set_cons_succ]
        refine stg_one 11 _ (by kernel_rfl) (by kernel_rfl) (by kernel_rfl) rfl rfl (fun K hK => ?_); go_step; replace hI := hI.set_at (b' := B5) (o := 0) (Ne.symm n5) (.int .i64 m1); refine hK.out _ _ hI ?_; clear hK K
        try simp only [Act.put, List.setIfInBounds_toArray, List.set_cons_zero, List.set_cons_succ]
        (refine stg_free 12 _ ?_ (by kernel_rfl) (by kernel_rfl) (by kernel_rfl) rfl rfl ?_ hI ?_; rotate_left; · (intro w' _; go_simp; with_reducible rfl)); try simp only [Act.put, List.setIfInBounds_toArray, List.set_cons_zero, List.set_cons_succ]
        refine stg_one 13 _ (by kernel_rfl) (by kernel_rfl) (by kernel_rfl) rfl rfl (fun K hK => ?_); go_step; replace hI := hI.set_at (b' := B5) (o := 1) (Ne.symm n5) (.int .i64 m2); refine hK.out _ _ hI ?_; clear hK K; refine stg_end (by kernel_rfl) ?_; replace kA := ((kA.set_at (b' := B5) (o := 0) (by omega) (.int .i64 m1)).set_at (b' := B5) (o := 1) (by omega) (.int .i64 m2)); replace kB := ((kB.set_at (b' := B5) (o := 0) (by omega) (.int .i64 m1)).set_at (b' := B5) (o := 1) (by omega) (.int .i64 m2)); replace k6 := ((k6.set_at (b' := B5) (o := 0) (Ne.symm hne6) (.int .i64 m1)).set_at (b' := B5) (o := 1) (Ne.symm hne6) (.int .i64 m2)); replace kP := ((kP.set_at (b' := B5) (o := 0) (Ne.symm n5) (.int .i64 m1)).set_at (b' := B5) (o := 1) (Ne.symm n5) (.int .i64 m2)); replace k5 : Blk ((wd.setCell ⟨B5, 0, none⟩ (.int .i64 m1)).setCell ⟨B5, 1, none⟩ (.int .i64 m2)) B5 [.int .i64 m1, .int .i64 m2] := ((k5.set 0 (.int .i64 m1)).set 1 (.int .i64 m2)); have hbw : Below w.heap.size w ((wd.setCell ⟨B5, 0, none⟩ (.int .i64 m1)).setCell ⟨B5, 1, none⟩ (.int .i64 m2)) := (hb3.setCell (p := ⟨B5, 0, none⟩) (by show w.heap.size ≤ B5; omega) _).setCell (p := ⟨B5, 1, none⟩) (by show w.heap.size ≤ B5; omega) _; generalize (wd.setCell ⟨B5, 0, none⟩ (.int .i64 m1)).setCell ⟨B5, 1, none⟩ (.int .i64 m2) = w4 at *; clear q0 q1 q2 q3 q4 q5 hb3 c0 c1 hWD hI; go_wp2; replace kA := kA.drew; replace kB := kB.drew; replace k5 := k5.drew; replace k6 := k6.drew; replace kP := kP.drew; replace hbw := hbw.drew; refine wp_region_stage 14 [0, 1, 2, 3, 4, 5, 6, 7, 8, 9, 10, 12] [11, 13] [0, 2, 3, 4, 5, 7, 8, 9, 10, 12] (fun W => W = w4.drew) (fun W => Blk W S [.int .i64 px, .int .i64 py]) rfl (by kernel_rfl) (by kernel_rfl) ?_
        generalize hWD : w4.drew = we at *; have hI := kP; have q0 := k6.cell 0 rfl; have q1 := k6.cell 1 rfl; have q2 := kP.cell 0 rfl; have q3 := kP.cell 1 rfl; have q4 := k6.free 0; have q5 := k6.free 1
        (refine stg_free 0 _ ?_ (by kernel_rfl) (by kernel_rfl) (by kernel_rfl) rfl rfl ?_ hI ?_; rotate_left; · (intro w' _; go_simp; with_reducible rfl)); try simp only [Act.put, List.setIfInBounds_toArray, List.set_cons_zero, List.set_cons_succ]
        (refine stg_light 1 _ ?_ (by kernel_rfl) (by kernel_rfl) (by kernel_rfl) rfl rfl ?_ rfl hI ?_; rotate_left; · (intro w' hS _; (try dsimp only at hS); rw [hS]; go_simp; with_reducible rfl)); try simp only [Act.put, List.setIfInBounds_toArray, List.set_cons_zero, List.set_cons_succ]
        (refine stg_free 2 _ ?_ (by kernel_rfl) (by kernel_rfl) (by kernel_rfl) rfl rfl ?_ hI ?_; rotate_left; · (intro w' _; go_simp; with_reducible rfl)); try simp only [Act.put, List.setIfInBounds_toArray, List.set_cons_zero, List.set_cons_succ]
        refine stg_free 3 _ (.int .i64 px) (by kernel_rfl) (by kernel_rfl) (by kernel_rfl) rfl rfl ?_ hI ?_
        · intro w' kP; have q2 := kP.cell 0 rfl; clear kP; go_simp
        try simp only [Act.put, List.setIfInBounds_toArray, List.set_cons_zero, List.set_cons_succ]
        (refine stg_free 4 _ ?_ (by kernel_rfl) (by kernel_rfl) (by kernel_rfl) rfl rfl ?_ hI ?_; rotate_left; · (intro w' _; go_simp; with_reducible rfl)); try simp only [Act.put, List.setIfInBounds_toArray, List.set_cons_zero, List.set_cons_succ]
        (refine stg_free 5 _ ?_ (by kernel_rfl) (by kernel_rfl) (by kernel_rfl) rfl rfl ?_ hI ?_; rotate_left; · (intro w' _; go_simp; with_reducible rfl)); try simp only [Act.put, List.setIfInBounds_toArray, List.set_cons_zero, List.set_cons_succ]
        (refine stg_light 6 _ ?_ (by kernel_rfl) (by kernel_rfl) (by kernel_rfl) rfl rfl ?_ rfl hI ?_; rotate_left; · (intro w' hS _; (try dsimp only at hS); rw [hS]; go_simp; with_reducible rfl)); try simp only [Act.put, List.setIfInBounds_toArray, List.set_cons_zero, List.set_cons_succ]
        (refine stg_free 7 _ ?_ (by kernel_rfl) (by kernel_rfl) (by kernel_rfl) rfl rfl ?_ hI ?_; rotate_left; · (intro w' _; go_simp; with_reducible rfl)); try simp only [Act.put, List.setIfInBounds_toArray, List.set_cons_zero, List.set_cons_succ]
        refine stg_free 8 _ (.int .i64 py) (by kernel_rfl) (by kernel_rfl) (by kernel_rfl) rfl rfl ?_ hI ?_
        · intro w' kP; have q2 := kP.cell 1 rfl; clear kP; go_simp
        try simp only [Act.put, List.setIfInBounds_toArray, List.set_cons_zero, List.set_cons_succ]
        (refine stg_free 9 _ ?_ (by kernel_rfl) (by kernel_rfl) (by kernel_rfl) rfl rfl ?_ hI ?_; rotate_left; · (intro w' _; go_simp; with_reducible rfl)); try simp only [Act.put, List.setIfInBounds_toArray, List.set_cons_zero, List.set_cons_succ]
        (refine stg_free 10 _ ?_ (by kernel_rfl) (by kernel_rfl) (by kernel_rfl) rfl rfl ?_ hI ?_; rotate_left; · (intro w' _; go_simp; with_reducible rfl)); try simp only [Act.put, List.setIfInBounds_toArray, List.set_cons_zero, List.set_cons_succ]
        refine stg_one 11 _ (by kernel_rfl) (by kernel_rfl) (by kernel_rfl) rfl rfl (fun K hK => ?_); go_step; replace hI := hI.set_at (b' := B6) (o := 0) (Ne.symm n6) (.int .i64 m3); refine hK.out _ _ hI ?_; clear hK K
        try simp only [Act.put, List.setIfInBounds_toArray, List.set_cons_zero, List.set_cons_succ]
        (refine stg_free 12 _ ?_ (by kernel_rfl) (by kernel_rfl) (by kernel_rfl) rfl rfl ?_ hI ?_; rotate_left; · (intro w' _; go_simp; with_reducible rfl)); try simp only [Act.put, List.setIfInBounds_toArray, List.set_cons_zero, List.set_cons_succ]
        refine stg_one 13 _ (by kernel_rfl) (by kernel_rfl) (by kernel_rfl) rfl rfl (fun K hK => ?_); go_step; replace hI := hI.set_at (b' := B6) (o := 1) (Ne.symm n6) (.int .i64 m4); refine hK.out _ _ hI ?_; clear hK K; refine stg_end (by kernel_rfl) ?_; replace kA := ((kA.set_at (b' := B6) (o := 0) (by omega) (.int .i64 m3)).set_at (b' := B6) (o := 1) (by omega) (.int .i64 m4)); replace kB := ((kB.set_at (b' := B6) (o := 0) (by omega) (.int .i64 m3)).set_at (b' := B6) (o := 1) (by omega) (.int .i64 m4)); replace k5 := ((k5.set_at (b' := B6) (o := 0) hne6 (.int .i64 m3)).set_at (b' := B6) (o := 1) hne6 (.int .i64 m4)); replace k6 : Blk ((we.setCell ⟨B6, 0, none⟩ (.int .i64 m3)).setCell ⟨B6, 1, none⟩ (.int .i64 m4)) B6 [.int .i64 m3, .int .i64 m4] := ((k6.set 0 (.int .i64 m3)).set 1 (.int .i64 m4)); have hbw2 : Below w.heap.size w ((we.setCell ⟨B6, 0, none⟩ (.int .i64 m3)).setCell ⟨B6, 1, none⟩ (.int .i64 m4)) := (hbw.setCell (p := ⟨B6, 0, none⟩) (by show w.heap.size ≤ B6; omega) _).setCell (p := ⟨B6, 1, none⟩) (by show w.heap.size ≤ B6; omega) _; generalize (we.setCell ⟨B6, 0, none⟩ (.int .i64 m3)).setCell ⟨B6, 1, none⟩ (.int .i64 m4) = w5 at *; clear q0 q1 q2 q3 q4 q5 hbw kP hWD hI; go_wp2; exact ⟨⟨k + 1, ⟨m1, m2⟩, ⟨m3, m4⟩, by omega, by go_num, HL2, HH2, Lib.hid kA, Lib.hid kB, Lib.hid k5, Lib.hid k6, hbw2⟩, by simp [intOf]; omega⟩
      · have h1' : ¬ (k : Int) < (N : Int) := by omega
        obtain rfl : k = N := by omega
        rw [List.take_of_length_le (by rw [HN.out]; exact Nat.le_refl _)] at HLO HHI; have k5 := K5.out.drew; have k6 := K6.out.drew; have kA := KA.out.drew; have kB := KB.out.drew; replace hbl := hbl.drew; clear hok0 KA KB K5 K6; go_wp2; refine wp_region_stage 5 [0, 1, 4] [2, 3] [0, 1, 4] (fun W => True) (fun W => Blk W B5 [.int .i64 lx, .int .i64 ly] ∧ Blk W B6 [.int .i64 hx, .int .i64 hy]) rfl (by kernel_rfl) (by kernel_rfl) ?_; generalize hWD : wr.drew = wd at *; have hI := And.intro k5 k6; refine stg_free 0 _ (.agg #[.int .i64 lx, .int .i64 ly]) (by kernel_rfl) (by kernel_rfl) (by kernel_rfl) rfl rfl ?_ hI ?_
        · intro w' hh; have q0 := hh.1.cell 0 rfl; have q1 := hh.1.cell 1 rfl; clear hh; go_simp
        try simp only [Act.put, List.setIfInBounds_toArray, List.set_cons_zero, List.set_cons_succ]
        refine stg_free 1 _ (.agg #[.int .i64 hx, .int .i64 hy]) (by kernel_rfl) (by kernel_rfl) (by kernel_rfl) rfl rfl ?_ hI ?_
        · intro w' hh; have q0 := hh.2.cell 0 rfl; have q1 := hh.2.cell 1 rfl; clear hh; go_simp
        try simp only [Act.put, List.setIfInBounds_toArray, List.set_cons_zero, List.set_cons_succ]
        have q0 := kA.cell 0 rfl; have q1 := kA.cell 1 rfl; have q2 := kA.free 0; have q3 := kA.free 1; refine stg_one 2 _ (by kernel_rfl) (by kernel_rfl) (by kernel_rfl) rfl rfl (fun K hK => ?_); go_step; replace hI := And.intro ((hI.1.set_at (b' := w.heap.size) (o := 0) (by omega) (.int .i64 lx)).set_at (b' := w.heap.size) (o := 1) (by omega) (.int .i64 ly)) ((hI.2.set_at (b' := w.heap.size) (o := 0) (by omega) (.int .i64 lx)).set_at (b' := w.heap.size) (o := 1) (by omega) (.int .i64 ly)); refine hK.out _ _ hI ?_ ; clear hK K
        try simp only [Act.put, List.setIfInBounds_toArray, List.set_cons_zero, List.set_cons_succ]
        clear q0 q1 q2 q3; have nA : w.heap.size ≠ A1 := by omega
        replace kA : Blk ((wd.setCell ⟨w.heap.size, 0, none⟩ (.int .i64 lx)).setCell ⟨w.heap.size, 1, none⟩ (.int .i64 ly)) w.heap.size [.int .i64 lx, .int .i64 ly] := ((kA.set 0 (.int .i64 lx)).set 1 (.int .i64 ly)); replace kB := ((kB.set_at (b' := w.heap.size) (o := 0) (Ne.symm nA) (.int .i64 lx)).set_at (b' := w.heap.size) (o := 1) (Ne.symm nA) (.int .i64 ly)); replace hbl : Below w.heap.size w ((wd.setCell ⟨w.heap.size, 0, none⟩ (.int .i64 lx)).setCell ⟨w.heap.size, 1, none⟩ (.int .i64 ly)) := (hbl.setCell (p := ⟨w.heap.size, 0, none⟩) (Nat.le_refl _) _).setCell (p := ⟨w.heap.size, 1, none⟩) (Nat.le_refl _) _; generalize (wd.setCell ⟨w.heap.size, 0, none⟩ (.int .i64 lx)).setCell ⟨w.heap.size, 1, none⟩ (.int .i64 ly) = we at *; have q0 := kB.cell 0 rfl; have q1 := kB.cell 1 rfl; have q2 := kB.free 0; have q3 := kB.free 1; refine stg_one 3 _ (by kernel_rfl) (by kernel_rfl) (by kernel_rfl) rfl rfl (fun K hK => ?_); go_step; replace hI := And.intro ((hI.1.set_at (b' := A1) (o := 0) (by omega) (.int .i64 hx)).set_at (b' := A1) (o := 1) (by omega) (.int .i64 hy)) ((hI.2.set_at (b' := A1) (o := 0) (by omega) (.int .i64 hx)).set_at (b' := A1) (o := 1) (by omega) (.int .i64 hy)); refine hK.out _ _ hI ?_ ; clear hK K
        try simp only [Act.put, List.setIfInBounds_toArray, List.set_cons_zero, List.set_cons_succ]
        clear q0 q1 q2 q3; replace kB : Blk ((we.setCell ⟨A1, 0, none⟩ (.int .i64 hx)).setCell ⟨A1, 1, none⟩ (.int .i64 hy)) A1 [.int .i64 hx, .int .i64 hy] := ((kB.set 0 (.int .i64 hx)).set 1 (.int .i64 hy)); replace kA := ((kA.set_at (b' := A1) (o := 0) nA (.int .i64 hx)).set_at (b' := A1) (o := 1) nA (.int .i64 hy)); replace hbl : Below w.heap.size w ((we.setCell ⟨A1, 0, none⟩ (.int .i64 hx)).setCell ⟨A1, 1, none⟩ (.int .i64 hy)) := (hbl.setCell (p := ⟨A1, 0, none⟩) (by show w.heap.size ≤ A1; omega) _).setCell (p := ⟨A1, 1, none⟩) (by show w.heap.size ≤ A1; omega) _; generalize (we.setCell ⟨A1, 0, none⟩ (.int .i64 hx)).setCell ⟨A1, 1, none⟩ (.int .i64 hy) = wf at *
        (refine stg_free 4 _ ?_ (by kernel_rfl) (by kernel_rfl) (by kernel_rfl) rfl rfl ?_ hI ?_; rotate_left; · (intro w' _; go_simp; with_reducible rfl)); try simp only [Act.put, List.setIfInBounds_toArray, List.set_cons_zero, List.set_cons_succ]
        refine stg_end (by kernel_rfl) ?_
        try simp only [List.getElem_toArray, List.getElem_cons_succ, List.getElem_cons_zero, List.setIfInBounds_toArray, List.set_cons_zero, List.set_cons_succ]
        have q0 := kA.cell 0 rfl; have q1 := kA.cell 1 rfl; have q2 := kB.cell 0 rfl; have q3 := kB.cell 1 rfl; go_wp2; rw [HLO.out, HHI.out]; refine bodyPost_ret (v := .tuple #[.agg #[.int .i64 lx, .int .i64 ly], .agg #[.int .i64 hx, .int .i64 hy], .bool true]) ?_ rfl ⟨rfl, hbl⟩; simp [results, Try.results83, go_sem, q0, q1, q2, q3]
  have hbz := HB1.trans (((Below.new w1 (.cells #[.int .i64 x0, .int .i64 y0] 46)).alloc (by simp) (.cells #[.int .i64 x0, .int .i64 y0] 46)).drew.mono HB1.size); have kA1 := ((kA.alloc (.cells #[.int .i64 x0, .int .i64 y0] 46)).alloc (.cells #[.int .i64 x0, .int .i64 y0] 46)).drew; have kB1 := ((kB.alloc (.cells #[.int .i64 x0, .int .i64 y0] 46)).alloc (.cells #[.int .i64 x0, .int .i64 y0] 46)).drew; have kC := ((Blk.lit w1 w1.heap.size [.int .i64 x0, .int .i64 y0] 46 rfl).alloc (.cells #[.int .i64 x0, .int .i64 y0] 46)).drew; have kD := (Blk.lit (w1.alloc (.cells #[.int .i64 x0, .int .i64 y0] 46)) (w1.heap.size + 1) [.int .i64 x0, .int .i64 y0] 46 (by simp)).drew
  go_region
  all_goals first
    | exact main _ _ _ _ _ _ _ _ _ _ _ _ _ _ _ _ _ _ _ _ _ _ _ _ _ _ _ _ _ _ _ _ _ _ _ _ _ _ _ _ _ _ _ _ _ _ _ _ _ _ _ _ _ _ (by omega) (by omega) (by omega) kA1 kB1 kC kD hbz
    | exact main _ _ _ _ _ _ _ _ _ _ _ _ _ _ _ _ _ _ _ _ _ _ _ _ _ _ _ _ _ _ _ _ _ _ _ _ _ _ _ _ _ _ _ _ _ _ _ _ _ _ _ _ _ _ (by omega) (by omega) (by omega) kA1 kB1 kD kC hbz
end Go.Proofs.Ytccamjnomjcchaa
