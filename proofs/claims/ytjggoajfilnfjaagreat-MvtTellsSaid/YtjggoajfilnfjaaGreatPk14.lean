/-
  table.Check. A region that draws its order, of which some operations (H) come behind all that read: behind these nothing need be known of the world; the light operations are taken first.
-/
import Derived.Test.YtjggoajfilnfjaaGreatPk13
import Derived.Test.YtjggoajfilnfjaaGreatPk12
import Derived.Test.YtjggoajfilnfjaaGreatPk5
set_option linter.unusedVariables false
set_option linter.unusedSimpArgs false
set_option maxRecDepth 100000
namespace Go.Proofs.YtjggoajfilnfjaaGreat
open Go.RowKit
theorem Tryz.zeroB (w : World) : (zeroValue 4).run Tryz.prog w = .ok (.bool false) w := by kernel_rfl

set_option maxHeartbeats 6400000 in
theorem tcheck_any (a : Option Addr) (c : Nat) (l : List At) (hn : l.length ≤ 1000) (hok : ∀ x ∈ l, AtOk x) (w : World) (hr : Rd w a (ats l)) :
  Calls Tryz.prog 58 #[.slice a l.length c] w fun e w' => e = .returned (.int .i64 (tcF l)) ∧ Below w.heap.size w w' := by
 have HR := Lib.hid hr; have HOK := Lib.hid hok; have HT : Hid (tcF l = if 8 < l.length then 6 else tcGo [] (l.drop 0)) := Lib.hid rfl; generalize tcF l = TC at *; obtain ⟨N, hN⟩ : ∃ N, l.length = N := ⟨_, rfl⟩; have HN := Lib.hid hN; rw [hN] at HT hn ⊢; clear hr hok hN; have hmm := @run_makeMap Tryz.prog; obtain ⟨B, hB⟩ : ∃ B, w.heap.size = B := ⟨_, rfl⟩; have HBE := Lib.hid hB
 go_enter Tryz.func58, Tryz.ntmps58
 by_cases h8 : 8 < N
 ·have h8' : (8 : Int) < (N : Int) := by omega
  go_wp2; go_ret; exact ⟨ret_int (by rw [HT.out, if_pos h8]), Below.refl _ _⟩
 ·have h8' : ¬ (8 : Int) < (N : Int) := by omega
  have HT2 : Hid (TC = tcGo [] (l.drop 0)) := Lib.hid (by rw [HT.out, if_neg h8]); have hS0 := StrSet.made Tryz.prog 9 4 w; rw [hB] at hS0; have hb0 := (Below.refl w.heap.size w).alloc (Nat.le_refl _) (.map #[] 0); have hB0 : B < (w.alloc (.map #[] 0)).heap.size := hS0.lt; clear HT; go_wp2; generalize w.alloc (.map #[] 0) = w0 at *
  go_loopw [13] (fun i wr => ∃ (k : Nat) (met : List (List UInt8)), k ≤ N ∧ i = .int .i64 k ∧ Hid (TC = tcGo met (l.drop k)) ∧ Hid (StrSet Tryz.prog 9 4 wr B k met) ∧ Below w.heap.size w wr) (fun i _ => N - (intOf i).toNat)
  case atStart => exact ⟨0, [], by omega, rfl, HT2, Lib.hid hS0, hb0⟩
  case round =>
   obtain ⟨k, met, hk, rfl, HZ, HS, hbl⟩ := hrel
   by_cases h1 : k < N
   ·have h1' : (k : Int) < (N : Int) := by omega
    have hkl : k < l.length := by rw [HN.out]; exact h1
    obtain ⟨b1, o1, rfl, hbb, c0, c1, c2, c3⟩ := (HR.out.keep hbl).atr k hkl; obtain ⟨q1, q2⟩ := HOK.out l[k] (List.getElem_mem hkl); have HD : Hid (l.drop k = l[k] :: l.drop (k + 1)) := Lib.hid (List.drop_eq_getElem_cons hkl); have HZ2 : Hid (TC = if nameF l[k].key = false then 13 else if vcF l[k].kind l[k].text l[k].n ≠ 0 then vcF l[k].kind l[k].text l[k].n else if l[k].key.data.toList ∈ met then 8 else tcGo (l[k].key.data.toList :: met) (l.drop (k + 1))) := Lib.hid (by
     rw [HZ.out, HD.out]; rfl)
    have HNA := Lib.hid (fun W => name_any l[k].key q1 W); have HVC := Lib.hid (fun W => vchk_any l[k].kind l[k].n l[k].text q2 W); generalize nameF l[k].key = NM at *; generalize vcF l[k].kind l[k].text l[k].n = VC at *; generalize l[k].key = KY at *; generalize l[k].kind = kd at *; generalize l[k].text = TX at *; generalize l[k].n = nn at *; have hxT := Below.new wr (.cells #[.string KY, .int .i64 kd, .string TX, .int .i64 nn] 103); have kT := Blk.new wr [.string KY, .int .i64 kd, .string TX, .int .i64 nn] 103; have hS1 := HS.out.below hxT; have hs := hbl.size; have hb1 := hbl.trans (hxT.mono hs); have y0 := kT.cell 0 rfl; clear HZ HD HS
    go_wp2_with fail
    obtain ⟨S, hS⟩ : ∃ S, wr.heap.size = S := ⟨_, rfl⟩; rw [hS] at kT y0 ⊢; generalize wr.alloc (.cells #[.string KY, .int .i64 kd, .string TX, .int .i64 nn] 103) = W1 at *; clear hxT c0 c1 c2 c3 hS; refine (HNA.out W1).mono ?_; rintro e W2 ⟨rfl, hx2⟩; have kT := kT.keep hx2; have hS2 := hS1.below hx2; have hb2 := hb1.trans (hx2.mono hb1.size); clear hS1 hx2 hb1 y0; have y0 := kT.cell 0 rfl; have y1 := kT.cell 1 rfl; have y2 := kT.cell 2 rfl; have y3 := kT.cell 3 rfl
    cases NM with
    | false =>
     go_wp2; go_ret; exact ⟨ret_int (by rw [HZ2.out]; simp), hb2⟩
    | true =>
     go_wp2_with fail
     refine (HVC.out W2).mono ?_; rintro e W3 ⟨rfl, hx3⟩; have kT := kT.keep hx3; have hS3 := hS2.below hx3; have hb3 := hb2.trans (hx3.mono hb2.size); clear hS2 hx3 hb2 y0 y1 y2 y3; have y0 := kT.cell 0 rfl; have hlk := hS3.look Tryz.underlying75 Tryz.underlying9 Tryz.underlying4 (Tryz.zeroB W3) KY q1
     by_cases hv : VC = 0
     ·subst hv
      by_cases hm : KY.data.toList ∈ met
      ·rw [decide_eq_true hm] at hlk; have HV : Hid (TC = 8) := Lib.hid (by rw [HZ2.out, if_neg (by simp), if_neg (by simp), if_pos hm]); clear HZ2 hm; go_wp2; go_ret; exact ⟨ret_int HV.out.symm, hb3⟩
      ·rw [decide_eq_false hm] at hlk; have HV : Hid (TC = tcGo (KY.data.toList :: met) (l.drop (k + 1))) := Lib.hid (by rw [HZ2.out, if_neg (by simp), if_neg (by simp), if_neg hm]); clear HZ2 hm
       go_wp2_with (at_mapUpdate; go_must (refine wpList_set_add W3 rfl (.tmp 31) (.tmp 33) (.const (.bool true)) rfl Tryz.underlying75 Tryz.underlying9 Tryz.underlying4 B k met rfl hS3 (by unfold maxLen; omega) KY q1 rfl rfl ?_); intro W4 hS4 hg4)
       have hb4 := hb3.grown hg4 hb3.size (fun j hj => by cases hj; exact Nat.le_of_eq HBE.out); exact ⟨⟨k + 1, _, by omega, by go_num, HV, Lib.hid hS4, hb4⟩, by simp [intOf]; omega⟩
     ·have hv' : (VC == 0) = false := by simpa using hv
      have HV : Hid (TC = VC) := Lib.hid (by rw [HZ2.out, if_neg (by simp), if_pos hv]); go_wp2; go_ret; exact ⟨ret_int HV.out.symm, hb3⟩
   ·have h1' : ¬ (k : Int) < (N : Int) := by omega
    have hd : l.drop k = [] := List.drop_of_length_le (by rw [HN.out]; omega); rw [hd] at HZ; go_wp2; go_ret; exact ⟨ret_int HZ.out.symm, by first | exact hbl | (rw [← HBE.out]; exact hbl)⟩
end Go.Proofs.YtjggoajfilnfjaaGreat
namespace Go
open Go.RowKit
section
variable {P : Program} {ops : Array Oper} {Q : Exit → Act → World → Prop} {md : Region.Mode} {S I : World → Prop} {H F : List Nat} {lt : Nat → Bool}

def waitsFor (md : Region.Mode) (ops : Array Oper) (j i : Nat) : Bool := match ops[j]? with | none => true | some o => o.after.any fun e => Region.binds md e && e.on == i

def demG (S I : World → Prop) (H F : List Nat) (i : Nat) (w w' : World) : Prop := I w' ∧ (H.contains i = false → if F.contains i then S w → S w' else S w')

def wpAnyG (P : Program) (md : Region.Mode) (ops : Array Oper) (Q : Exit → Act → World → Prop) (S I : World → Prop) (H F : List Nat) : Nat → Array Bool → Act → World → Prop
 | 0, listed, a, w => Region.ready md ops listed = [] ∧ Q .normal a w
 | f + 1, listed, a, w => (Region.ready md ops listed = [] → Q .normal a w) ∧
  ∀ i ∈ Region.ready md ops listed, wpOp P ops Q i (fun a' w' => demG S I H F i w w' ∧ wpAnyG P md ops Q S I H F f (listed.setIfInBounds i true) a' w') a w

theorem wpAny_of_G (f : Nat) : ∀ (listed : Array Bool) (a : Act) (w : World), wpAnyG P md ops Q S I H F f listed a w → wpAny P md ops Q f listed a w := by
 induction f with
 | zero => intro _ _ _ h; exact h
 | succ f ih => intro listed a w h; exact ⟨h.1, fun i hi => wpOp_mono (fun a' w' h' => ih _ a' w' h'.2) (h.2 i hi)⟩

theorem wpAnyG_done {listed : Array Bool} {a : Act} {w : World} (hr : Region.ready md ops listed = []) (h : Q .normal a w) : ∀ f, wpAnyG P md ops Q S I H F f listed a w
 | 0 => ⟨hr, h⟩
 | _ + 1 => ⟨fun _ => h, by rw [hr]; simp⟩

theorem wpAnyG_take {R : World → Prop} {i : Nat} {oi : Oper} {v : Value} (hR : ∀ j, waitsFor md ops j i = false → ∀ w w', R w → demG S I H F j w w' → R w') (hi : ops[i]? = some oi) (hs : Region.noSelect ops = true) (hQ : ∀ c a w, Q (.panic c) (a.put oi.dst v) w → Q (.panic c) a w) (hRS : ∀ w', R w' → demG S I H F i w' w') (f : Nat) :
  ∀ (listed : Array Bool) (a : Act) (w : World), Region.free md ops listed i = true → (Region.ready md ops listed).contains i = true → YieldsIf P ops R oi v a → R w →
   wpAnyG P md ops Q S I H F f (listed.setIfInBounds i true) (a.put oi.dst v) w → wpAnyG P md ops Q S I H F (f + 1) listed a w := by
 suffices HH : ∀ (listed : Array Bool) (a : Act) (w : World),
   (∀ j oj, ops[j]? = some oj → j ≠ i → listed.getD j true = false → (∀ e ∈ oj.after, Region.binds md e = true → e.on ≠ i) → oi.apart ops oj = true) →
   i ∈ Region.ready md ops listed → YieldsIf P ops R oi v a → R w →
   wpAnyG P md ops Q S I H F f (listed.setIfInBounds i true) (a.put oi.dst v) w → wpAnyG P md ops Q S I H F (f + 1) listed a w by
  intro listed a w hf hr hy hS h; exact HH listed a w (Region.free_spec hi hf) (by simpa using hr) hy hS h
 have hsel := Region.noSelect_spec hs
 induction f with
 | zero =>
  intro listed a w hfree hr hy hS H1; refine ⟨fun h => (by rw [h] at hr; cases hr), fun j hj => ?_⟩
  by_cases hji : j = i
  ·subst hji; exact hy.wpOp hi hS ⟨hRS _ hS, H1⟩
  ·have := ready_mono hj hji; rw [H1.1] at this
   cases this
 | succ f ih =>
  intro listed a w hfree hr hy hS H1; refine ⟨fun h => (by rw [h] at hr; cases hr), fun j hj => ?_⟩
  by_cases hji : j = i
  ·subst hji; exact hy.wpOp hi hS ⟨hRS _ hS, H1⟩
  ·have h1 := H1.2 j (ready_mono hj hji); obtain ⟨hjun, oj, hoj, hall⟩ := mem_ready.1 hj; have hnot : ∀ e ∈ oj.after, Region.binds md e = true → e.on ≠ i := by
    intro e he hb heq; have h1 := hall e he hb; have h0 := (mem_ready.1 hr).1; rw [heq] at h1
    rcases Nat.lt_or_ge i listed.size with h' | h'
    ·simp [h'] at h0 h1; rw [h0] at h1; cases h1
    ·simp [Array.getElem?_eq_none h'] at h1
   have hjw : waitsFor md ops j i = false := by
    cases hw : waitsFor md ops j i
    ·rfl
    ·unfold waitsFor at hw; simp only [hoj] at hw; obtain ⟨e, he, hb⟩ := Array.any_eq_true'.1 hw; rw [Bool.and_eq_true] at hb; exact absurd (by simpa using hb.2) (hnot e he hb.1)
   have h2 := wpOp_putIf hoj (hfree j oj hoj hji hjun hnot) (fun cs b => hsel i oi cs b hi) (fun cs b => hsel j oj cs b hoj) hQ hy h1; have hri : i ∈ Region.ready md ops (listed.setIfInBounds j true) := ready_mono hr (Ne.symm hji); have hfree' : ∀ k ok, ops[k]? = some ok → k ≠ i → (listed.setIfInBounds j true).getD k true = false →
     (∀ e ∈ ok.after, Region.binds md e = true → e.on ≠ i) → oi.apart ops ok = true := by
    intro k ok hk hki hun hno; refine hfree k ok hk hki ?_ hno
    by_cases hjk : j = k
    ·subst hjk; exact hjun
    ·rw [getD_set_ne true hjk] at hun; exact hun
   refine wpOp_mono (fun a' w' h3 => ?_) h2; obtain ⟨h4, h5, h6⟩ := h3; have hR' := hR j hjw _ w' hS h5; refine ⟨h5, ih (listed.setIfInBounds j true) a' w' hfree' hri h4 hR' ?_⟩; rw [Array.setIfInBounds_comm _ _ hji]; exact h6

def wpStg (P : Program) (ops : Array Oper) (lt : Nat → Bool) (Q : Exit → Act → World → Prop) (S I : World → Prop) (H F : List Nat) : Nat → Array Bool → Act → World → Prop
 | 0, listed, a, w => Region.ready .any ops listed = [] ∧ Q .normal a w
 | f + 1, listed, a, w =>
  match (Region.ready .any ops listed).find? lt with
  | some j => Region.free .any ops listed j = true ∧ ∃ (o : Oper) (v : Value) (R : World → Prop), ops[j]? = some o ∧ YieldsIf P ops R o v a ∧ R w ∧ (∀ k, waitsFor .any ops k j = false → ∀ w w', R w → demG S I H F k w w' → R w') ∧ (∀ w', R w' → demG S I H F j w' w') ∧ wpStg P ops lt Q S I H F f (listed.setIfInBounds j true) (a.put o.dst v) w
  | none => (Region.ready .any ops listed = [] → Q .normal a w) ∧
   ∀ i ∈ Region.ready .any ops listed, wpOp P ops Q i (fun a' w' => demG S I H F i w w' ∧ wpStg P ops lt Q S I H F f (listed.setIfInBounds i true) a' w') a w

theorem wpStg_sound (hs : Region.noSelect ops = true) (hQ : ∀ c a w, ¬ Q (.panic c) a w) : ∀ (f : Nat) (listed : Array Bool) (a : Act) (w : World),
  wpStg P ops lt Q S I H F f listed a w → wpAnyG P .any ops Q S I H F f listed a w := by
 intro f
 induction f with
 | zero => intro listed a w h; exact wpAnyG_done h.1 h.2 0
 | succ f ih =>
  intro listed a w h; unfold wpStg at h
  cases hf : (Region.ready .any ops listed).find? lt with
  | some j =>
   rw [hf] at h; simp only at h; obtain ⟨h1, o, v, R, ho, hy, hR, hk, hRS, h2⟩ := h; have hr : (Region.ready .any ops listed).contains j = true := by
    have := List.mem_of_find?_eq_some hf
    simpa using this
   exact wpAnyG_take hk ho hs (fun c a w h => absurd h (hQ c _ w)) hRS f listed a w h1 hr hy hR (ih _ _ _ h2)
  | none =>
   rw [hf] at h; simp only at h; exact ⟨h.1, fun i hi => wpOp_mono (fun a' w' h' => ⟨h'.1, ih _ _ _ h'.2⟩) (h.2 i hi)⟩

theorem stg_light {f : Nat} {listed : Array Bool} {a : Act} {w : World} (j : Nat) (o : Oper) (v : Value) (hr : (Region.ready .any ops listed).find? lt = some j) (hf : Region.free .any ops listed j = true) (hwt : (H.all fun k => waitsFor .any ops k j) = true) (ho : ops[j]? = some o)
  (hw : Region.wanted o (yielded ops a.tmps) = true) (hv : ∀ w', S w' → I w' → (execOp a.eval o).run P w' = .ok (.value v) w') (hS : S w) (hI : I w) (h : wpStg P ops lt Q S I H F f (listed.setIfInBounds j true) (a.put o.dst v) w) : wpStg P ops lt Q S I H F (f + 1) listed a w := by
 unfold wpStg; rw [hr]; refine ⟨hf, o, v, fun w => S w ∧ I w, ho, .inl ⟨hw, fun w' h => hv w' h.1 h.2⟩, ⟨hS, hI⟩, fun k hk w w' hw0 hS' => ⟨?_, hS'.1⟩, fun w' h => ⟨h.2, fun _ => by split <;> simp_all⟩, h⟩
 cases hc : H.contains k
 ·have := hS'.2 hc
  split at this
  ·exact this hw0.1
  ·exact this
 ·have := List.all_eq_true.1 hwt k (by simpa using hc); rw [this] at hk; cases hk
theorem stg_free {f : Nat} {listed : Array Bool} {a : Act} {w : World} (j : Nat) (o : Oper) (v : Value) (hr : (Region.ready .any ops listed).find? lt = some j) (hf : Region.free .any ops listed j = true) (hj : F.contains j = true) (ho : ops[j]? = some o)
  (hw : Region.wanted o (yielded ops a.tmps) = true) (hv : ∀ w', I w' → (execOp a.eval o).run P w' = .ok (.value v) w') (hI : I w) (h : wpStg P ops lt Q S I H F f (listed.setIfInBounds j true) (a.put o.dst v) w) : wpStg P ops lt Q S I H F (f + 1) listed a w := by
 unfold wpStg; rw [hr]; exact ⟨hf, o, v, I, ho, .inl ⟨hw, hv⟩, hI, fun k _ w w' _ h => h.1, fun w' h => ⟨h, fun _ => by rw [if_pos hj]; exact id⟩, h⟩
theorem stg_fork {f : Nat} {listed : Array Bool} {a : Act} {w : World} (rs : List Nat) (hr : Region.ready .any ops listed = rs) (hl : rs.find? lt = none) (hne : rs ≠ [])
  (h : ∀ i ∈ rs, wpOp P ops Q i (fun a' w' => demG S I H F i w w' ∧ wpStg P ops lt Q S I H F f (listed.setIfInBounds i true) a' w') a w) : wpStg P ops lt Q S I H F (f + 1) listed a w := by
 unfold wpStg; rw [hr, hl]; exact ⟨fun h0 => absurd h0 hne, h⟩
theorem stg_heavy {f : Nat} {listed : Array Bool} {a : Act} {w : World} (i : Nat) (o : Oper) (hiH : H.contains i = true) (ho : ops[i]? = some o) (hw : Region.wanted o (yielded ops a.tmps) = true)
  (h : ∀ K : Act → World → Prop, Hid (∀ a w, I w → wpStg P ops lt Q S I H F f (listed.setIfInBounds i true) a w → K a w) → o.wp P a w K Q) :
  wpOp P ops Q i (fun a' w' => demG S I H F i w w' ∧ wpStg P ops lt Q S I H F f (listed.setIfInBounds i true) a' w') a w := by
 unfold wpOp; simp only [ho]; rw [if_pos hw]; exact .inl (h _ (fun a w h1 h2 => ⟨⟨h1, fun hc => (by rw [hiH] at hc; cases hc)⟩, h2⟩))
theorem stg_heavyS {f : Nat} {listed : Array Bool} {a : Act} {w : World} (i : Nat) (o : Oper) (hiF : F.contains i = false) (ho : ops[i]? = some o) (hw : Region.wanted o (yielded ops a.tmps) = true)
  (h : ∀ K : Act → World → Prop, Hid (∀ a w, S w → I w → wpStg P ops lt Q S I H F f (listed.setIfInBounds i true) a w → K a w) → o.wp P a w K Q) :
  wpOp P ops Q i (fun a' w' => demG S I H F i w w' ∧ wpStg P ops lt Q S I H F f (listed.setIfInBounds i true) a' w') a w := by
 unfold wpOp; simp only [ho]; rw [if_pos hw]; exact .inl (h _ (fun a w h1 h2 h3 => ⟨⟨h2, fun _ => by rw [hiF]; exact h1⟩, h3⟩))
theorem stg_oneS {f : Nat} {listed : Array Bool} {a : Act} {w : World} (i : Nat) (o : Oper) (hr : Region.ready .any ops listed = [i]) (hl : lt i = false) (hiF : F.contains i = false) (ho : ops[i]? = some o) (hw : Region.wanted o (yielded ops a.tmps) = true)
  (h : ∀ K : Act → World → Prop, Hid (∀ a w, S w → I w → wpStg P ops lt Q S I H F f (listed.setIfInBounds i true) a w → K a w) → o.wp P a w K Q) : wpStg P ops lt Q S I H F (f + 1) listed a w :=
 stg_fork [i] hr (by simp [hl]) (by simp) fun k hk => by
  obtain rfl : k = i := by simpa using hk
  exact stg_heavyS k o hiF ho hw h
theorem stg_one {f : Nat} {listed : Array Bool} {a : Act} {w : World} (i : Nat) (o : Oper) (hr : Region.ready .any ops listed = [i]) (hl : lt i = false) (hiH : H.contains i = true) (ho : ops[i]? = some o) (hw : Region.wanted o (yielded ops a.tmps) = true)
  (h : ∀ K : Act → World → Prop, Hid (∀ a w, I w → wpStg P ops lt Q S I H F f (listed.setIfInBounds i true) a w → K a w) → o.wp P a w K Q) : wpStg P ops lt Q S I H F (f + 1) listed a w :=
 stg_fork [i] hr (by simp [hl]) (by simp) fun k hk => by
  obtain rfl : k = i := by simpa using hk
  exact stg_heavy k o hiH ho hw h
theorem stg_end {listed : Array Bool} {a : Act} {w : World} (hr : Region.ready .any ops listed = []) (h : Q .normal a w) : wpStg P ops lt (OnlyQ Q) S I H F 0 listed a w := ⟨hr, h⟩

theorem wp_region_stage {id : Nat} {a : Act} {w : World} (n : Nat) (lts H F : List Nat) (S I : World → Prop) (hn : ops.size = n) (hm : P.follows .mixedOrders = true) (hs : Region.noSelect ops = true)
  (h : wpStg P ops (lts.contains ·) (OnlyQ Q) S I H F n (Array.replicate n false) a w.drew) : (Code.region id ops true).wp P Q a w := by
 subst hn; refine Code.wp_mono OnlyQ.imp ?_; refine wp_region_any hm (wpAny_of_G (S := S) (I := I) (H := H) (F := F) _ _ _ _ ?_); exact wpStg_sound hs (fun c a w h => h) _ _ _ _ h
end
attribute [irreducible] wpStg
end Go
