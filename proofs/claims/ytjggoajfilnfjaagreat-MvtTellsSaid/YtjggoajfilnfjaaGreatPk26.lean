/-
  What mvt.Decode keeps in its rounds. graticulelaw24.Cut: what a tile that is cut is like.
-/
import Derived.Test.YtjggoajfilnfjaaGreatPk23
import Derived.Test.YtjggoajfilnfjaaGreatPk25
import Derived.Test.YtjggoajfilnfjaaGreatPk10
import Derived.Test.YtjggoajfilnfjaaGreatPk13
import Derived.Test.YtjggoajfilnfjaaGreatPk14
set_option linter.unusedVariables false
set_option linter.unusedSimpArgs false
namespace Go
open Go.RowKit Go.Proto Go.Vint
def dGo (met : List (List UInt8)) : List (Option LyC) → Int
 | [] => 0
 | none :: _ => 7
 | some y :: l => if y.1.data.toList ∈ met then 8 else dGo (y.1.data.toList :: met) l
def rFld : Option LyC → Fld
 | none => ⟨3, 2, 0, []⟩
 | some y => lyFld y
theorem StrSet.add {P : Program} {K E T : TypeId} {w : World} {b n : Nat} {ks : List (List UInt8)} (h : StrSet P K E w b n ks) (ht : P.underlying T = some (.map K E)) (hK : P.underlying K = some .string) (hE : P.underlying E = some .bool) (hn : n < maxLen) (s : ByteArray) (hs : s.size ≤ maxLen) :
  ∃ w', (Instr.mapUpdate T (.map (some b)) (.string s) (.bool true)).run P w = .ok () w' ∧ StrSet P K E w' b (n + 1) (s.data.toList :: ks) ∧ w.grownBy w' (some b) := by
 obtain ⟨D, hD, hmap, hat⟩ := h; obtain ⟨w', hrun, h1, h2⟩ := hD.update (Maps.string_keyed hK) ht hn (WideMaps.keyOf_string_mk hK hs) (plainElem_bool hE true); refine ⟨w', hrun, ⟨_, h1, hmap.put _ _, fun s' => ?_⟩, h2⟩
 by_cases he : s'.data.toList = s.data.toList
 ·rw [he, Maps.atKey_put_same hmap (by trivial)]; simp
 ·rw [Maps.atKey_put_other (by
   intro h; apply he
   injection h), hat]
  simp [he]
theorem rFld_kind (o : Option LyC) : (rFld o).kind = 2 := by cases o <;> rfl
theorem dGo_some : ∀ (l : List LyC) (met : List (List UInt8)), (∀ y ∈ l, lyE [] y = 0) → dGo met (l.map some) = tlGo met l
 | [], _, _ => rfl
 | y :: l, met, h => by
  have h1 := h y (by simp); have ih := dGo_some l (y.1.data.toList :: met) (fun z hz => h z (by simp [hz])); simp only [List.map_cons, dGo, tlGo]; have h2 := lyE_zero h1; have h3 : lyE met y = if y.1.data.toList ∈ met then 8 else 0 := by
   unfold lyE at h1 ⊢; rw [if_neg (by simpa using h2.1)] at h1 ⊢
   split
   ·rfl
   ·rw [if_neg (by simp)] at h1; exact h1
  rw [h3]
  by_cases hm : y.1.data.toList ∈ met
  ·simp [hm]
  ·simp [hm, ih]
end Go
namespace Go.Proofs.YtjggoajfilnfjaaGreat
open Go.RowKit Go.Proto Go.Vint
theorem Tryz.infoLay : (Tryz.prog.info? 46).map (fun i => (i.zero, i.size, i.bytes)) = some (some (.agg #[.string ⟨#[]⟩, .slice none 0 0]), 2, 40) := by kernel_rfl
def lyTs : List TypeId := 53 :: ftTs
theorem offTail {W : World} {base : Nat} {r : Option Nat} (h : Off W base lyTs r) : Off W base ftTs r := fun b cs T fr hc hT hb => h b cs T fr hc (List.mem_cons_of_mem _ hT) hb
theorem LyT.mono {base base' : Nat} {W : World} {y : Ly} (h : LyT base W y) (hb : base' ≤ base) : LyT base' W y := ⟨h.1, h.2.1.mono hb, fun f hf => (h.2.2 f hf).mono hb⟩
theorem LyT.gr {base : Nat} {W W' : World} {y : Ly} {r : Option Nat} (h : LyT base W y) (hg : W.grownBy W' r) (ho : Off W base lyTs r) : LyT base W' y := by
 obtain ⟨⟨⟨h1, h1'⟩, h2⟩, h3, h4⟩ := h; have h4' := fun f hf => (h4 f hf).gr hg (offTail ho); exact ⟨⟨⟨h1.grown hg (h3.ne ho (by simp [lyTs])), h1'⟩, fun f hf => (h4' f hf).1⟩, h3.gr hg ho (by simp [lyTs]), h4'⟩
theorem LyT.below {base : Nat} {W W' : World} {y : Ly} (h : LyT base W y) (hb : Below W.heap.size W W') : LyT base W' y := h.gr (grownBy_of_below hb none) Off.none
def DI (W0 : World) (O Mp : Nat) (rs : List (Option LyC)) (pre : List FC) (W : World) : Prop :=
 ∃ (v : Value) (ys : List Ly) (met : List (List UInt8)), Blk W O [v] ∧ StrSet Tryz.prog 9 4 W Mp ys.length met ∧ W.ownsRow W0.heap.size 46 2 v ys.length (lys ys) ∧ rs.take pre.length = (ys.map Ly.core).map some ∧ ys.length = pre.length ∧ (∀ y ∈ ys, LyT W0.heap.size W y) ∧ dGo [] rs = dGo met (rs.drop pre.length) ∧ KB [O, Mp] W0 W
theorem DI.own {W0 : World} {O Mp : Nat} {rs : List (Option LyC)} (hM : Mp < W0.heap.size) : OwnFrom W0.heap.size (DI W0 O Mp rs) := by
 intro pre X Y row hs hg hr; obtain ⟨v, ys, met, h1, h2, h3, h4, h5, h6, h7, h8⟩ := hs; exact ⟨v, ys, met, blk_ownF (β := Unit) W0.heap.size O (fun _ => [v]) () X Y row h1 hg hr, h2.kept hg (fun e => by have := (hr Mp e.symm).1; omega), owns_own (β := Unit) (v := fun _ => v) (n := fun _ => ys.length) (xs := fun _ => lys ys) () X Y row h3 hg hr, h4, h5, fun y hy => (h6 y hy).gr hg (Off.walk (fun k e => (hr k e).2)), h7, KB.own (β := Unit) _ W0 () X Y row h8 hg hr⟩
def DX (W0 : World) (O Mp R E : Nat) (rs : List (Option LyC)) (cc : Code) (pre : List FC) (W : World) : Prop :=
 cc = Code.ret ∧ ∃ z : Int, z ≠ 0 ∧ z = dGo [] rs ∧ Blk W R [.slice none 0 0] ∧ Boxed W E 32 (.int .i64 z) ∧ KB [O, Mp, R, E] W0 W
theorem DX.own {W0 : World} {O Mp R E : Nat} {rs : List (Option LyC)} (cc : Code) : OwnFrom W0.heap.size (DX W0 O Mp R E rs cc) := by
 intro pre X Y row hs hg hr; obtain ⟨h1, z, h2, h3, h4, h5, h6⟩ := hs; exact ⟨h1, z, h2, h3, blk_ownF (β := Unit) W0.heap.size R (fun _ => [.slice none 0 0]) () X Y row h4 hg hr, boxed_own _ _ (fun (_ : Unit) => _) () X Y row h5 hg (fun r e => (hr r e).2), KB.own (β := Unit) _ W0 () X Y row h6 hg hr⟩
theorem kbMore {S S' : List Nat} {A B : World} (h : KB S A B) (hs : ∀ k ∈ S, k ∈ S') : KB S' A B := ⟨h.1, h.2.1, fun k hk hn => h.2.2 k hk (fun hm => hn (hs k hm))⟩
end Go.Proofs.YtjggoajfilnfjaaGreat
set_option maxRecDepth 100000
namespace Go
open Go.RowKit
theorem Off.typ2 {W : World} {base R : Nat} {Ts : List TypeId} {T : TypeId} {vs : List Value} (hb : BkT W R T vs) (hT : T ∉ Ts) : Off W base Ts (some R) := fun b cs T' fr hc hm _ e => by
 have h1 := Option.some.inj e; subst h1; have h2 : W.heap[b]? = some (.cells vs.toArray T (0, 0)) := hb; rw [h2] at hc
 cases hc
 exact hT hm
def AtW (a : At) : Prop := AtOk a ∧ (Lit.int .i64 a.kind).wf = true ∧ (Lit.int .i64 a.n).wf = true
def Ft.W (f : Ft) : Prop := (Lit.int .i64 f.id).wf = true ∧ (Lit.int .i64 f.kind).wf = true ∧ (∀ x ∈ f.ls, AtW x) ∧ ∀ r ∈ f.rs, ∀ p ∈ r.l, (Lit.int .i64 p.x).wf = true ∧ (Lit.int .i64 p.y).wf = true
def LyIn (W : World) (y : Ly) : Prop := y.Ok W ∧ y.name.size ≤ maxLen ∧ ∀ f ∈ y.fs, f.W
def LyFw (y : Ly) : Prop := y.name.size ≤ 100 ∧ y.core.Few ∧ ∀ f ∈ y.fs, f.W
theorem LyFw.sz {y : Ly} (h : LyFw y) : y.Sz := by
 have hf : ∀ f ∈ y.fs, FtC.Few f.core := fun f hf => h.2.1.2 _ (List.mem_map_of_mem hf); have hl : y.fs.length ≤ 6 := by have := h.2.1.1; simpa [Ly.core] using this
 refine ⟨by have := h.1; unfold maxLen; omega, by omega, fun f hm => ?_⟩; obtain ⟨h1, h2, h3, h4⟩ := hf f hm; refine ⟨by have : f.ls.length ≤ 10 := h3; omega, fun x hx => (h.2.2 f hm).2.2.1 x hx |>.1, ?_, fun r hr => ?_⟩
 ·have : f.rs.length ≤ 10 := by simpa [Ft.core, Ft.rings] using h1
  omega
 ·have : r.l.length ≤ 40 := h2 r.l (List.mem_map_of_mem hr); omega
theorem cut_few {id kd : Int} {ls : List At} {rs : List PC} {aa ra b1 b2 : Option Addr} {ac rc d1 d2 : Nat} (h : Ft.W ⟨id, kd, ls, aa, ac, rs, ra, rc⟩) :
  FtC.Few (Ft.core ⟨id, kd, (ls.take 10).map cutA, b1, d1, (rs.take 10).map PC.cut, b2, d2⟩) ∧ Ft.W ⟨id, kd, (ls.take 10).map cutA, b1, d1, (rs.take 10).map PC.cut, b2, d2⟩ := by
 obtain ⟨h1, h2, h3, h4⟩ := h; refine ⟨⟨?_, ?_, ?_, ?_⟩, h1, h2, ?_, ?_⟩
 ·simp [Ft.core, Ft.rings]; omega
 ·intro g hg; simp only [Ft.core, Ft.rings, List.map_map] at hg; obtain ⟨r, -, rfl⟩ := List.mem_map.1 hg; simp [PC.cut]; omega
 ·simp [Ft.core]; omega
 ·intro x hx; obtain ⟨y, -, rfl⟩ := List.mem_map.1 hx; simp [cutA, cutS]; omega
 ·intro x hx; obtain ⟨y, hy, rfl⟩ := List.mem_map.1 hx; exact ⟨cutA_ok y, (h3 y (List.mem_of_mem_take hy)).2⟩
 ·intro r hr q hq; obtain ⟨y, hy, rfl⟩ := List.mem_map.1 hr; exact h4 y (List.mem_of_mem_take hy) q (List.mem_of_mem_take hq)
end Go
namespace Go.Proofs.YtjggoajfilnfjaaGreat
open Go.RowKit
def atTs : List TypeId := [103, 80]
def FtX (w0 : World) (base : Nat) (W : World) (f : Ft) : Prop :=
 (Rd W f.aa (ats f.ls) ∧ f.ls.length ≤ f.ac ∧ f.ac ≤ maxLen ∧ (f.aa = none → f.ac = 0)) ∧ (Rd W f.ra (rcs f.rs) ∧ f.rs.length ≤ f.rc ∧ f.rc ≤ maxLen ∧ (f.ra = none → f.rc = 0)) ∧ ByT W base f.aa 103 ∧ ByT W base f.ra 80 ∧ ∀ r ∈ f.rs, r.Ok w0
theorem FtX.gr {w0 : World} {base : Nat} {W W' : World} {f : Ft} {r : Option Nat} (h : FtX w0 base W f) (hg : W.grownBy W' r) (ho : Off W base atTs r) : FtX w0 base W' f := by
 obtain ⟨⟨h1, h1'⟩, ⟨h2, h2'⟩, h4, h5, h6⟩ := h; exact ⟨⟨h1.grown hg (h4.ne ho (by simp [atTs])), h1'⟩, ⟨h2.grown hg (h5.ne ho (by simp [atTs])), h2'⟩, h4.gr hg ho (by simp [atTs]), h5.gr hg ho (by simp [atTs]), h6⟩
theorem FtX.below {w0 : World} {base : Nat} {W W' : World} {f : Ft} (h : FtX w0 base W f) (hb : Below W.heap.size W W') : FtX w0 base W' f := h.gr (grownBy_of_below hb none) Off.none
theorem FtX.mono {w0 : World} {base base' : Nat} {W : World} {f : Ft} (h : FtX w0 base W f) (hb : base' ≤ base) : FtX w0 base' W f := ⟨h.1, h.2.1, h.2.2.1.mono hb, h.2.2.2.1.mono hb, h.2.2.2.2⟩
theorem FtX.ok {w0 : World} {base : Nat} {W : World} {f : Ft} (h : FtX w0 base W f) (hb : Below w0.heap.size w0 W) : f.Ok W := ⟨h.1, h.2.1, fun r hr => (h.2.2.2.2 r hr).keep hb⟩
def LyX (w0 : World) (base : Nat) (W : World) (y : Ly) : Prop :=
 (Rd W y.fa (fts y.fs) ∧ y.fs.length ≤ y.fc ∧ y.fc ≤ maxLen ∧ (y.fa = none → y.fc = 0)) ∧ ByT W base y.fa 53 ∧ ∀ f ∈ y.fs, FtX w0 base W f
def ftAs : List TypeId := 53 :: atTs
theorem LyX.gr {w0 : World} {base : Nat} {W W' : World} {y : Ly} {r : Option Nat} (h : LyX w0 base W y) (hg : W.grownBy W' r) (ho : Off W base ftAs r) : LyX w0 base W' y := by
 obtain ⟨⟨h1, h1'⟩, h3, h4⟩ := h; exact ⟨⟨h1.grown hg (h3.ne ho (by simp [ftAs])), h1'⟩, h3.gr hg ho (by simp [ftAs]), fun f hf => (h4 f hf).gr hg (fun b cs T fr hc hT hb => ho b cs T fr hc (List.mem_cons_of_mem _ hT) hb)⟩
theorem LyX.below {w0 : World} {base : Nat} {W W' : World} {y : Ly} (h : LyX w0 base W y) (hb : Below W.heap.size W W') : LyX w0 base W' y := h.gr (grownBy_of_below hb none) Off.none
theorem LyX.mono {w0 : World} {base base' : Nat} {W : World} {y : Ly} (h : LyX w0 base W y) (hb : base' ≤ base) : LyX w0 base' W y := ⟨h.1, h.2.1.mono hb, fun f hf => (h.2.2 f hf).mono hb⟩
theorem LyX.ok {w0 : World} {base : Nat} {W : World} {y : Ly} (h : LyX w0 base W y) (hb : Below w0.heap.size w0 W) : y.Ok W := ⟨h.1, fun f hf => (h.2.2 f hf).ok hb⟩
set_option maxHeartbeats 12800000 in
theorem mcut_any (a : Option Addr) (c : Nat) (Y : List Ly) (hyc : Y.length ≤ c) (hcm : c ≤ maxLen) (w0 w : World) (h0 : Below w0.heap.size w0 w) (hr : Rd w0 a (lys Y)) (hin : ∀ y ∈ Y, LyIn w0 y) :
  Calls Tryz.prog 5 #[.agg #[.slice a Y.length c]] w fun e w' => ∃ (p : Option Addr) (q : Nat) (Z : List Ly), e = .returned (.agg #[.slice p Z.length q]) ∧ (Rd w' p (lys Z) ∧ Z.length ≤ q ∧ q ≤ maxLen ∧ (p = none → q = 0)) ∧ ByT w' w.heap.size p 46 ∧ Z.length ≤ 18 ∧ (∀ z ∈ Z, LyX w0 w.heap.size w' z ∧ LyFw z) ∧ Below w.heap.size w w' := by
 have HR := Lib.hid hr; have HIN := Lib.hid hin; have H0 := Lib.hid h0; obtain ⟨N, hN⟩ : ∃ N, Y.length = N := ⟨_, rfl⟩; have HN := Lib.hid hN; have hcm2 : c ≤ 9223372036854775807 := by unfold maxLen at hcm; omega
 rw [hN] at hyc ⊢; have hz : (Tryz.prog.info? 24).map (fun i => i.zero) = some (some (.agg #[.slice none 0 0])) := by kernel_rfl
 have hzl : (Tryz.prog.info? 46).map (fun i => i.zero) = some (some (.agg #[.string ⟨#[]⟩, .slice none 0 0])) := by kernel_rfl
 have hzf : (Tryz.prog.info? 53).map (fun i => i.zero) = some (some (.agg #[.int .i64 0, .int .i64 0, .slice none 0 0, .slice none 0 0])) := by kernel_rfl
 have HC1 := Lib.hid (fun a c l h1 h2 h3 w hr => cut11_any a c l h1 h2 h3 w hr); have HC2 := Lib.hid (fun a c xs w hr hok hl => cut23_any a c xs w hr hok hl); clear hr hin h0 hN hcm
 go_enter Tryz.func5, Tryz.ntmps5
 go_wp2; have k0 := ((BkT.lit w w.heap.size [.slice a N c] 24 rfl).alloc (.cells #[.slice none 0 0] 24)).alloc (.cells #[.slice none 0 0] 24); have k1 := (BkT.lit (w.alloc (.cells #[.slice a N c] 24)) (w.heap.size + 1) [.slice none 0 0] 24 (by simp)).alloc (.cells #[.slice none 0 0] 24); have k2 := BkT.lit ((w.alloc (.cells #[.slice a N c] 24)).alloc (.cells #[.slice none 0 0] 24)) (w.heap.size + 1 + 1) [.slice none 0 0] 24 (by simp); have hb1 : Below w.heap.size w (((w.alloc (.cells #[.slice a N c] 24)).alloc (.cells #[.slice none 0 0] 24)).alloc (.cells #[.slice none 0 0] 24)) := ((Below.new w _).alloc (by simp) _).alloc (by simp; omega) _; have hs1 : (((w.alloc (.cells #[.slice a N c] 24)).alloc (.cells #[.slice none 0 0] 24)).alloc (.cells #[.slice none 0 0] 24)).heap.size = w.heap.size + 1 + 1 + 1 := by simp
 generalize ((w.alloc (.cells #[.slice a N c] 24)).alloc (.cells #[.slice none 0 0] 24)).alloc (.cells #[.slice none 0 0] 24) = w1 at *; obtain ⟨B, hB⟩ : ∃ B, w.heap.size = B := ⟨_, rfl⟩; rw [hB] at k0 k1 k2 hb1 hs1; simp only [hB]; have hBl : w.heap.size ≤ B := by omega
 have hw1 : B + 1 + 1 < w1.heap.size := by omega
 have HBW := Lib.hid hB; clear hB hs1; have H1 := Lib.hid (⟨k0, k1, k2, hb1⟩ : BkT w1 B 24 [.slice a N c] ∧ BkT w1 (B + 1) 24 [.slice none 0 0] ∧ BkT w1 (B + 1 + 1) 24 [.slice none 0 0] ∧ Below B w w1); clear k0 k1 k2 hb1
 go_loopw [4] (fun i wr => ∃ (k : Nat) (v : Value) (Z : List Ly), k ≤ N ∧ k ≤ 18 ∧ i = .int .i64 k ∧ Hid (BkT wr B 24 [.slice a N c]) ∧ Hid (BkT wr (B + 1) 24 [.slice none 0 0]) ∧ Hid (BkT wr (B + 1 + 1) 24 [v]) ∧ Hid (wr.ownsRow w1.heap.size 46 2 v Z.length (lys Z)) ∧ Hid (Z.length = k) ∧ Hid (∀ z ∈ Z, LyX w0 B wr z ∧ LyFw z) ∧ Hid (w1.heap.size ≤ wr.heap.size) ∧ Hid (Below B w wr)) (fun i _ => 18 - (intOf i).toNat)
 case atStart => exact ⟨0, .slice none 0 0, [], by omega, by omega, rfl, Lib.hid H1.out.1, Lib.hid H1.out.2.1, Lib.hid H1.out.2.2.1, Lib.hid (World.ownsRow_nil _ _ _ _), Lib.hid rfl, Lib.hid (by simp), Lib.hid (Nat.le_refl _), Lib.hid H1.out.2.2.2⟩
 case round =>
  clear H1; obtain ⟨k, v, Z, hk, hk18, rfl, K0, K1, K2, HO, HL, HZ, HSZ, HB⟩ := hrel; obtain ⟨Wn, hWn⟩ : ∃ W, W = wr := ⟨_, rfl⟩; subst hWn; have t0 := K0.out.blk.cell 0 rfl
  by_cases hlt : k < N ∧ k < 18
  ·obtain ⟨hl1, hl2⟩ := hlt; have hl1' : (k : Int) < (N : Int) := by omega
   have hl2' : (k : Int) < 18 := by omega
   have hkY : k < Y.length := by rw [HN.out]; exact hl1
   have h0w : Below w0.heap.size w0 Wn := H0.out.trans ((HBW.out ▸ HB.out : Below w.heap.size w Wn).mono H0.out.size); have hin := HIN.out Y[k] (List.getElem_mem hkY); obtain ⟨b1, o1, rfl, hbb, c0, c1⟩ := (HR.out.keep h0w).ly k hkY; generalize Y[k] = y at *; obtain ⟨nm, fs, fa, fc⟩ := y; obtain ⟨⟨⟨r1, r2, r3, r4⟩, r5⟩, r6, r7⟩ := hin; dsimp only [Ly.fval] at c0 c1 r1 r2 r3 r4 r5 r6 r7; have HF1 := Lib.hid r1; have HF5 := Lib.hid r5; have HF7 := Lib.hid r7; obtain ⟨M, hM⟩ : ∃ M, fs.length = M := ⟨_, rfl⟩; have HM := Lib.hid hM; rw [hM] at c1 r2; have r3' : fc ≤ 9223372036854775807 := by unfold maxLen at r3; omega
   have r6' : nm.size ≤ 9223372036854775807 := by unfold maxLen at r6; omega
   obtain ⟨z0, hz0⟩ : ∃ z : Int, (if (100 : Int) < (nm.size : Int) then (100 : Int) else (nm.size : Int)) = z := ⟨_, rfl⟩; have e0 : z0.toNat = min nm.size 100 := by rw [← hz0]; split <;> omega
   have hz1 : 0 ≤ z0 ∧ z0 ≤ (nm.size : Int) := by rw [← hz0]; split <;> omega
   have hzm : min (nm.size : Int) 100 = z0 := by rw [← hz0]; split <;> omega
   obtain ⟨S1, hS1⟩ : ∃ s, cutS nm = s := ⟨_, rfl⟩; have hS2 : nm.extract 0 (min nm.size 100) = S1 := hS1; have HS1 : Hid (S1.size ≤ 100) := Lib.hid (by rw [← hS1]; unfold cutS; simp; omega); clear r1 r5 r7 hM hS1 r3 r6; go_wp2; have HS := Lib.hid (⟨t0, c0⟩ : Wn.drew.cell? ⟨B, 0, none⟩ = some (.slice (some ⟨b1, o1, none⟩) N c) ∧ Wn.drew.cell? ⟨b1, o1 + k * 2, none⟩ = some (.string nm)); refine wp_region_stage 18 [0, 1, 2, 3, 4, 5, 6, 7, 8, 9, 10, 11, 12, 13, 14, 15] [17] [0, 2, 3, 4, 6, 8, 9, 10, 12, 13, 14, 15] (fun W => W.cell? ⟨B, 0, none⟩ = some (.slice (some ⟨b1, o1, none⟩) N c) ∧ W.cell? ⟨b1, o1 + k * 2, none⟩ = some (.string nm)) (fun _ => True) rfl (by kernel_rfl) (by kernel_rfl) ?_
   (refine stg_free 0 _ ?_ (by kernel_rfl) (by kernel_rfl) (by kernel_rfl) rfl rfl ?_ trivial ?_; rotate_left; · (intro w' _; go_simp; with_reducible rfl)); try simp only [Act.put, List.getElem_toArray, List.getElem_cons_succ, List.getElem_cons_zero, List.setIfInBounds_toArray, List.set_cons_zero, List.set_cons_succ]
   refine stg_light 1 _ (.slice (some ⟨b1, o1, none⟩) N c) (by kernel_rfl) (by kernel_rfl) (by kernel_rfl) rfl rfl ?_ HS.out trivial ?_
   ·intro w' hS _; have e0 := hS.1; clear hS; go_simp
   try simp only [Act.put, List.getElem_toArray, List.getElem_cons_succ, List.getElem_cons_zero, List.setIfInBounds_toArray, List.set_cons_zero, List.set_cons_succ]
   (refine stg_free 2 _ ?_ (by kernel_rfl) (by kernel_rfl) (by kernel_rfl) rfl rfl ?_ trivial ?_; rotate_left; · (intro w' _; go_simp; with_reducible rfl)); try simp only [Act.put, List.getElem_toArray, List.getElem_cons_succ, List.getElem_cons_zero, List.setIfInBounds_toArray, List.set_cons_zero, List.set_cons_succ]
   (refine stg_free 3 _ ?_ (by kernel_rfl) (by kernel_rfl) (by kernel_rfl) rfl rfl ?_ trivial ?_; rotate_left; · (intro w' _; go_simp; with_reducible rfl)); try simp only [Act.put, List.getElem_toArray, List.getElem_cons_succ, List.getElem_cons_zero, List.setIfInBounds_toArray, List.set_cons_zero, List.set_cons_succ]
   (refine stg_free 4 _ ?_ (by kernel_rfl) (by kernel_rfl) (by kernel_rfl) rfl rfl ?_ trivial ?_; rotate_left; · (intro w' _; go_simp; with_reducible rfl)); try simp only [Act.put, List.getElem_toArray, List.getElem_cons_succ, List.getElem_cons_zero, List.setIfInBounds_toArray, List.set_cons_zero, List.set_cons_succ]
   refine stg_light 5 _ (.string nm) (by kernel_rfl) (by kernel_rfl) (by kernel_rfl) rfl rfl ?_ HS.out trivial ?_
   ·intro w' hS _; have e0 := hS.2; clear hS; go_simp
   try simp only [Act.put, List.getElem_toArray, List.getElem_cons_succ, List.getElem_cons_zero, List.setIfInBounds_toArray, List.set_cons_zero, List.set_cons_succ]
   (refine stg_free 6 _ ?_ (by kernel_rfl) (by kernel_rfl) (by kernel_rfl) rfl rfl ?_ trivial ?_; rotate_left; · (intro w' _; go_simp; with_reducible rfl)); try simp only [Act.put, List.getElem_toArray, List.getElem_cons_succ, List.getElem_cons_zero, List.setIfInBounds_toArray, List.set_cons_zero, List.set_cons_succ]
   refine stg_light 7 _ (.slice (some ⟨b1, o1, none⟩) N c) (by kernel_rfl) (by kernel_rfl) (by kernel_rfl) rfl rfl ?_ HS.out trivial ?_
   ·intro w' hS _; have e0 := hS.1; clear hS; go_simp
   try simp only [Act.put, List.getElem_toArray, List.getElem_cons_succ, List.getElem_cons_zero, List.setIfInBounds_toArray, List.set_cons_zero, List.set_cons_succ]
   (refine stg_free 8 _ ?_ (by kernel_rfl) (by kernel_rfl) (by kernel_rfl) rfl rfl ?_ trivial ?_; rotate_left; · (intro w' _; go_simp; with_reducible rfl)); try simp only [Act.put, List.getElem_toArray, List.getElem_cons_succ, List.getElem_cons_zero, List.setIfInBounds_toArray, List.set_cons_zero, List.set_cons_succ]
   (refine stg_free 9 _ ?_ (by kernel_rfl) (by kernel_rfl) (by kernel_rfl) rfl rfl ?_ trivial ?_; rotate_left; · (intro w' _; go_simp; with_reducible rfl)); try simp only [Act.put, List.getElem_toArray, List.getElem_cons_succ, List.getElem_cons_zero, List.setIfInBounds_toArray, List.set_cons_zero, List.set_cons_succ]
   (refine stg_free 10 _ ?_ (by kernel_rfl) (by kernel_rfl) (by kernel_rfl) rfl rfl ?_ trivial ?_; rotate_left; · (intro w' _; go_simp; with_reducible rfl)); try simp only [Act.put, List.getElem_toArray, List.getElem_cons_succ, List.getElem_cons_zero, List.setIfInBounds_toArray, List.set_cons_zero, List.set_cons_succ]
   refine stg_light 11 _ (.string nm) (by kernel_rfl) (by kernel_rfl) (by kernel_rfl) rfl rfl ?_ HS.out trivial ?_
   ·intro w' hS _; have e0 := hS.2; clear hS; go_simp
   try simp only [Act.put, List.getElem_toArray, List.getElem_cons_succ, List.getElem_cons_zero, List.setIfInBounds_toArray, List.set_cons_zero, List.set_cons_succ]
   (refine stg_free 12 _ ?_ (by kernel_rfl) (by kernel_rfl) (by kernel_rfl) rfl rfl ?_ trivial ?_; rotate_left; · (intro w' _; go_simp; with_reducible rfl)); try simp only [Act.put, List.getElem_toArray, List.getElem_cons_succ, List.getElem_cons_zero, List.setIfInBounds_toArray, List.set_cons_zero, List.set_cons_succ]
   refine stg_free 13 _ (.int .i64 z0) (by kernel_rfl) (by kernel_rfl) (by kernel_rfl) rfl rfl ?_ trivial ?_
   ·intro w' _; go_simp
   try simp only [Act.put, List.getElem_toArray, List.getElem_cons_succ, List.getElem_cons_zero, List.setIfInBounds_toArray, List.set_cons_zero, List.set_cons_succ]
   refine stg_free 14 _ (.string S1) (by kernel_rfl) (by kernel_rfl) (by kernel_rfl) rfl rfl ?_ trivial ?_
   ·intro w' _; go_simp
   try simp only [Act.put, List.getElem_toArray, List.getElem_cons_succ, List.getElem_cons_zero, List.setIfInBounds_toArray, List.set_cons_zero, List.set_cons_succ]
   (refine stg_free 15 _ ?_ (by kernel_rfl) (by kernel_rfl) (by kernel_rfl) rfl rfl ?_ trivial ?_; rotate_left; · (intro w' _; go_simp; with_reducible rfl)); try simp only [Act.put, List.getElem_toArray, List.getElem_cons_succ, List.getElem_cons_zero, List.setIfInBounds_toArray, List.set_cons_zero, List.set_cons_succ]
   obtain ⟨E, hE⟩ : ∃ E, Wn.heap.size = E := ⟨_, rfl⟩; have hBE : B + 1 + 1 < E := by have := HSZ.out; omega
   have hd : Below E Wn Wn.drew := (Below.refl _ _).drew; have hdE : Wn.drew.heap.size = E := hE; have hbb2 : b1 < Wn.drew.heap.size := by rw [hdE, ← hE]; exact hbb
   generalize Wn.drew = Wd at *; refine stg_oneS 16 _ (by kernel_rfl) (by kernel_rfl) (by kernel_rfl) rfl rfl (fun K hK => ?_); go_step; have hxa := Below.new Wd (.cells #[.string ⟨#[]⟩, .slice none 0 0] 46); have kL := BkT.lit Wd E [.string ⟨#[]⟩, .slice none 0 0] 46 hdE; refine hK.out _ _ ⟨(hxa.cell (p := ⟨B, 0, none⟩) (by show B < Wd.heap.size; omega)).trans HS.out.1, (hxa.cell (p := ⟨b1, o1 + k * 2, none⟩) hbb2).trans HS.out.2⟩ trivial ?_; clear hK K HS
   try simp only [Act.put, List.getElem_toArray, List.getElem_cons_succ, List.getElem_cons_zero, List.setIfInBounds_toArray, List.set_cons_zero, List.set_cons_succ]
   have kL0 := kL.blk.cell 0 rfl; have kL1 := kL.blk.cell 1 rfl; have kLf := kL.blk.free; refine stg_one 17 _ (by kernel_rfl) (by kernel_rfl) (by kernel_rfl) rfl rfl (fun K hK => ?_); go_step; refine hK.out _ _ trivial ?_; clear hK K hxa kL kL0 kL1 kLf
   try simp only [Act.put, List.getElem_toArray, List.getElem_cons_succ, List.getElem_cons_zero, List.setIfInBounds_toArray, List.set_cons_zero, List.set_cons_succ]
   refine stg_end (by kernel_rfl) ?_
   try simp only [Act.put, List.getElem_toArray, List.getElem_cons_succ, List.getElem_cons_zero, List.setIfInBounds_toArray, List.set_cons_zero, List.set_cons_succ]
   have kL := BkT.lit Wd E [.string S1, .slice none 0 0] 46 hdE; have hb5 := hd.trans ((Below.new Wd (.cells #[.string S1, .slice none 0 0] 46)).mono (by omega)); have hs5 : (Wd.alloc (.cells #[.string S1, .slice none 0 0] 46)).heap.size = E + 1 := by simp [hdE]
   clear hd hdE hbb2; generalize Wd.alloc (.cells #[.string S1, .slice none 0 0] 46) = W5 at *; have HSTART := Lib.hid (⟨kL, hb5⟩ : BkT W5 E 46 [.string S1, .slice none 0 0] ∧ Below E Wn W5); have HT0 := Lib.hid t0; have HC0 := Lib.hid c0; have HC1' := Lib.hid c1; have hw5 : E < W5.heap.size := by omega
   have HE := Lib.hid hE; clear kL hb5 hs5 t0 c0 c1 hE e0 hz0 hz1 hzm hS2; go_wp2
   go_loopw [6] (fun i wr => ∃ (j : Nat) (v2 : Value) (fz : List Ft), j ≤ M ∧ j ≤ 6 ∧ i = .int .i64 j ∧ Hid (BkT wr E 46 [.string S1, v2]) ∧ Hid (wr.ownsRow W5.heap.size 53 4 v2 fz.length (fts fz)) ∧ Hid (fz.length = j) ∧ Hid (∀ f ∈ fz, FtX w0 E wr f ∧ FtC.Few f.core ∧ f.W) ∧ Hid (W5.heap.size ≤ wr.heap.size) ∧ Hid (Below E Wn wr)) (fun i _ => 6 - (intOf i).toNat)
   case atStart => exact ⟨0, .slice none 0 0, [], by omega, by omega, rfl, Lib.hid HSTART.out.1, Lib.hid (World.ownsRow_nil _ _ _ _), Lib.hid rfl, Lib.hid (by simp), Lib.hid (Nat.le_refl _), Lib.hid HSTART.out.2⟩
   case round =>
    clear HSTART; obtain ⟨j, v2, fz, hj, hj6, rfl, KL, HO2, HL2, HZ2, HSZ2, HB2⟩ := hrel; obtain ⟨Wm, hWm⟩ : ∃ W, W = wr := ⟨_, rfl⟩; subst hWm; have hbE : Below Wn.heap.size Wn Wm := by rw [HE.out]; exact HB2.out
    have t0 := (K0.out.keep hbE).blk.cell 0 rfl; have hb1n : b1 < Wn.heap.size := hbb; have c1 := (hbE.cell (p := ⟨b1, o1 + k * 2 + 1, none⟩) hb1n).trans HC1'.out
    by_cases hlt2 : j < M ∧ j < 6
    ·obtain ⟨hm1, hm2⟩ := hlt2; have hm1' : (j : Int) < (M : Int) := by omega
     have hm2' : (j : Int) < 6 := by omega
     have hjf : j < fs.length := by rw [HM.out]; exact hm1
     have h0m := h0w.trans (hbE.mono h0w.size); obtain ⟨b2, o2, rfl, hbb3, d0, d1, d2, d3⟩ := (HF1.out.keep h0m).ft j hjf; have hfo := HF5.out fs[j] (List.getElem_mem hjf); have hfw := HF7.out fs[j] (List.getElem_mem hjf); generalize fs[j] = ff at *; obtain ⟨id, kd, ls, aa, ac, rs, ra, rc⟩ := ff; obtain ⟨⟨g1, g2, g3, g4⟩, ⟨g5, g6, g7, g8⟩, g9⟩ := hfo; dsimp only [Ft.aval, Ft.rval] at d0 d1 d2 d3 g1 g2 g3 g4 g5 g6 g7 g8 g9; have HG1 := Lib.hid (g1.keep h0w); have HG5 := Lib.hid (g5.keep h0w); have HG9 := Lib.hid g9; have g6' : rs.length ≤ maxLen := by omega
     go_wp2; have hxF := Below.new Wm (.cells #[.int .i64 id, .int .i64 kd, .slice aa ls.length ac, .slice ra rs.length rc] 53); obtain ⟨F, hF⟩ : ∃ F, Wm.heap.size = F := ⟨_, rfl⟩; have kF := BkT.lit Wm F [.int .i64 id, .int .i64 kd, .slice aa ls.length ac, .slice ra rs.length rc] 53 hF; have hEF : E < F := by have := HSZ2.out; omega
     have HNF : Hid (v2.ownBlock ≠ some F) := Lib.hid (fun e => by have := (HO2.out.lt F e).2; omega); have HSF : Hid (W5.heap.size ≤ F) := Lib.hid (by have := HSZ2.out; omega); have KL6 := Lib.hid (KL.out.keep hxF); have HO6 := Lib.hid (HO2.out.below hxF); have HZ6 := Lib.hid (fun f hf => (HZ2.out f hf).1.below hxF); have HB6 := Lib.hid (HB2.out.trans (hxF.mono (by have := HB2.out.size; rw [HE.out] at this; omega))); simp only [hF]; generalize Wm.alloc (.cells #[.int .i64 id, .int .i64 kd, .slice aa ls.length ac, .slice ra rs.length rc] 53) = W6 at *; clear hxF hF d0 d1 d2 d3 t0 c1 g1 g5; have hF6 := kF.lt; refine wp_region_stage 10 [0, 1, 3, 4, 6, 8] [7, 9] [0, 3, 6, 8] (fun W => Blk W F [.int .i64 id, .int .i64 kd, .slice aa ls.length ac, .slice ra rs.length rc]) (fun _ => True) rfl (by kernel_rfl) (by kernel_rfl) ?_; have hd : Below W6.heap.size W6 W6.drew := (Below.refl _ _).drew; have kFd := kF.keep hd; have HS := Lib.hid kFd.blk; generalize W6.drew = Wd at *
     (refine stg_free 0 _ ?_ (by kernel_rfl) (by kernel_rfl) (by kernel_rfl) rfl rfl ?_ trivial ?_; rotate_left; · (intro w' _; go_simp; with_reducible rfl)); try simp only [Act.put, List.getElem_toArray, List.getElem_cons_succ, List.getElem_cons_zero, List.setIfInBounds_toArray, List.set_cons_zero, List.set_cons_succ]
     refine stg_light 1 _ (.slice aa ls.length ac) (by kernel_rfl) (by kernel_rfl) (by kernel_rfl) rfl rfl ?_ HS.out trivial ?_
     ·intro w' hS _; have e0 := hS.cell 2 rfl; clear hS; go_simp
     try simp only [Act.put, List.getElem_toArray, List.getElem_cons_succ, List.getElem_cons_zero, List.setIfInBounds_toArray, List.set_cons_zero, List.set_cons_succ]
     (refine stg_free 3 _ ?_ (by kernel_rfl) (by kernel_rfl) (by kernel_rfl) rfl rfl ?_ trivial ?_; rotate_left; · (intro w' _; go_simp; with_reducible rfl)); try simp only [Act.put, List.getElem_toArray, List.getElem_cons_succ, List.getElem_cons_zero, List.setIfInBounds_toArray, List.set_cons_zero, List.set_cons_succ]
     refine stg_light 4 _ (.slice ra rs.length rc) (by kernel_rfl) (by kernel_rfl) (by kernel_rfl) rfl rfl ?_ HS.out trivial ?_
     ·intro w' hS _; have e0 := hS.cell 3 rfl; clear hS; go_simp
     try simp only [Act.put, List.getElem_toArray, List.getElem_cons_succ, List.getElem_cons_zero, List.setIfInBounds_toArray, List.set_cons_zero, List.set_cons_succ]
     clear HS; have HLS : Hid (∀ x ∈ ls, AtOk x) := Lib.hid (fun x hx => (hfw.2.2.1 x hx).1); have hn6 : Below Wn.heap.size Wn W6 := by rw [HE.out]; exact HB6.out
     have hGd : Below Wn.heap.size Wn Wd := hn6.trans (hd.mono hn6.size); refine stg_oneS 2 _ (by kernel_rfl) (by kernel_rfl) (by kernel_rfl) rfl rfl (fun K hK => ?_); go_step; refine (HC1.out aa ac ls g2 g3 HLS.out Wd (HG1.out.keep hGd)).mono ?_; rintro e W7 ⟨v7, rfl, ho7, hb7⟩; obtain ⟨LS, hLS⟩ : ∃ L, (ls.take 10).map cutA = L := ⟨_, rfl⟩; obtain ⟨n1, hn1⟩ : ∃ n, LS.length = n := ⟨_, rfl⟩; rw [hLS, hn1] at ho7; have HLS2 := Lib.hid hLS; have HN1 := Lib.hid hn1; clear hLS hn1; obtain ⟨a1, q1, rfl, x1, x2, x3, x4, x5⟩ := ho7.form; have y7 := ByT.of_owns ho7; have hW7 := hd.trans (hb7.mono hd.size); refine hK.out _ _ (kF.blk.keep hW7) trivial ?_; clear hK K
     try simp only [Act.put, List.getElem_toArray, List.getElem_cons_succ, List.getElem_cons_zero, List.setIfInBounds_toArray, List.set_cons_zero, List.set_cons_succ]
     (refine stg_free 6 _ ?_ (by kernel_rfl) (by kernel_rfl) (by kernel_rfl) rfl rfl ?_ trivial ?_; rotate_left; · (intro w' _; go_simp; with_reducible rfl)); try simp only [Act.put, List.getElem_toArray, List.getElem_cons_succ, List.getElem_cons_zero, List.setIfInBounds_toArray, List.set_cons_zero, List.set_cons_succ]
     have hG7 := hGd.trans (hb7.mono hGd.size); have hh7 := h0w.trans (hG7.mono h0w.size); refine stg_oneS 5 _ (by kernel_rfl) (by kernel_rfl) (by kernel_rfl) rfl rfl (fun K hK => ?_); go_step; refine (HC2.out ra rc rs W7 (by rw [← rcs_map]; exact HG5.out.keep hG7) (fun x hx => (HG9.out x hx).keep hh7) g6').mono ?_; rintro e W8 ⟨v8, rfl, ho8, hb8⟩; obtain ⟨RS, hRS⟩ : ∃ L, (rs.take 10).map PC.cut = L := ⟨_, rfl⟩; obtain ⟨n2, hn2⟩ : ∃ n, RS.length = n := ⟨_, rfl⟩; rw [hRS, hn2, ← rcs_map] at ho8; have HRS2 := Lib.hid hRS; have HN2 := Lib.hid hn2; clear hRS hn2; obtain ⟨a2, q2, rfl, z1, z2, z3, z4, z5⟩ := ho8.form; have y8 := ByT.of_owns ho8; have hW8 := hW7.trans (hb8.mono hW7.size); refine hK.out _ _ (kF.blk.keep hW8) trivial ?_; clear hK K
     try simp only [Act.put, List.getElem_toArray, List.getElem_cons_succ, List.getElem_cons_zero, List.setIfInBounds_toArray, List.set_cons_zero, List.set_cons_succ]
     have kF8 := kF.keep hW8; have f82 := kF8.blk.cell 2 rfl; have f8f := kF8.blk.free; refine stg_one 7 _ (by kernel_rfl) (by kernel_rfl) (by kernel_rfl) rfl rfl (fun K hK => ?_); go_step; refine hK.out _ _ trivial ?_; clear hK K
     try simp only [Act.put, List.getElem_toArray, List.getElem_cons_succ, List.getElem_cons_zero, List.setIfInBounds_toArray, List.set_cons_zero, List.set_cons_succ]
     (refine stg_free 8 _ ?_ (by kernel_rfl) (by kernel_rfl) (by kernel_rfl) rfl rfl ?_ trivial ?_; rotate_left; · (intro w' _; go_simp; with_reducible rfl)); try simp only [Act.put, List.getElem_toArray, List.getElem_cons_succ, List.getElem_cons_zero, List.setIfInBounds_toArray, List.set_cons_zero, List.set_cons_succ]
     have kF9 := kF8.set 2 (.slice a1 n1 q1); have f83 := kF8.blk.cell 3 rfl; refine stg_one 9 _ (by kernel_rfl) (by kernel_rfl) (by kernel_rfl) rfl rfl (fun K hK => ?_); go_step; refine hK.out _ _ trivial ?_; clear hK K
     try simp only [Act.put, List.getElem_toArray, List.getElem_cons_succ, List.getElem_cons_zero, List.setIfInBounds_toArray, List.set_cons_zero, List.set_cons_succ]
     refine stg_end (by kernel_rfl) ?_
     try simp only [Act.put, List.getElem_toArray, List.getElem_cons_succ, List.getElem_cons_zero, List.setIfInBounds_toArray, List.set_cons_zero, List.set_cons_succ]
     have kA := kF9.set 3 (.slice a2 n2 q2); simp only [List.set_cons_zero, List.set_cons_succ] at kA; have hn8 : Below W6.heap.size W6 W8 := hW8; have KL9 := Lib.hid (((KL6.out.keep hn8).other (b' := F) (o := 2) (by omega) (.slice a1 n1 q1)).other (b' := F) (o := 3) (by omega) (.slice a2 n2 q2)); have HO9 := Lib.hid (((HO6.out.below hn8).set_ne (p := ⟨F, 2, none⟩) HNF.out (.slice a1 n1 q1)).set_ne (p := ⟨F, 3, none⟩) HNF.out (.slice a2 n2 q2)); have HB9 := Lib.hid (((HB6.out.trans (hn8.mono (by omega : E ≤ W6.heap.size))).set_at (b := F) (o := 2) (by omega) (.slice a1 n1 q1)).set_at (b := F) (o := 3) (by omega) (.slice a2 n2 q2)); have hup := fun (f : Ft) (h : FtX w0 E W8 f) => (h.gr (grown_set W8 F 2 (.slice a1 n1 q1)) (Off.typ2 kF8 (by decide))).gr (grown_set _ F 3 (.slice a2 n2 q2)) (Off.typ2 kF9 (by decide)); have HZ9 := Lib.hid (fun f hf => hup f ((HZ6.out f hf).below hn8)); have HN9 := Lib.hid (hup ⟨id, kd, LS, a1, q1, RS, a2, q2⟩ ⟨⟨x4.keep hb8, by rw [HN1.out]; exact x1, x2, x3⟩, ⟨z4, by rw [HN2.out]; exact z1, z2, z3⟩, (y7.below hb8).mono (by have := hd.size; omega), y8.mono (by have := hW7.size; omega), fun r hr => by
      rw [← HRS2.out] at hr; obtain ⟨y, hy, rfl⟩ := List.mem_map.1 hr; exact (HG9.out y (List.mem_of_mem_take hy)).cut⟩)
     have HCF : Hid (Ft.cells ⟨id, kd, LS, a1, q1, RS, a2, q2⟩ = [.int .i64 id, .int .i64 kd, .slice a1 n1 q1, .slice a2 n2 q2]) := Lib.hid (by simp only [Ft.cells, Ft.aval, Ft.rval, HN1.out, HN2.out]); have HFW : Hid (FtC.Few (Ft.core ⟨id, kd, LS, a1, q1, RS, a2, q2⟩) ∧ Ft.W ⟨id, kd, LS, a1, q1, RS, a2, q2⟩) := Lib.hid (by rw [← HLS2.out, ← HRS2.out]; exact cut_few hfw); have hs9 : W5.heap.size ≤ ((W8.setCell ⟨F, 2, none⟩ (.slice a1 n1 q1)).setCell ⟨F, 3, none⟩ (.slice a2 n2 q2)).heap.size := by rw [size_setCell, size_setCell]; have := HSF.out; have := hn8.size; omega
     have hE9 : E < ((W8.setCell ⟨F, 2, none⟩ (.slice a1 n1 q1)).setCell ⟨F, 3, none⟩ (.slice a2 n2 q2)).heap.size := by omega
     generalize (W8.setCell ⟨F, 2, none⟩ (.slice a1 n1 q1)).setCell ⟨F, 3, none⟩ (.slice a2 n2 q2) = W9 at *; clear hup kF kF8 kF9 f82 f8f f83 x1 x2 x3 x4 x5 z1 z2 z3 z4 z5 y7 y8 hb7 hb8 hW7 hW8 hn8 hG7 hGd hh7 hn6 hd hF6 hfw g2 g3 g4 g6 g6' g7 g8 g9 kFd HG1 HG5 HG9 ho7 ho8 HLS HLS2 HRS2 HN1 HN2 KL6 HO6 HZ6 HB6 HNF HSF; have l0 := KL9.out.blk.cell 0 rfl; have l1 := KL9.out.blk.cell 1 rfl; have a0c := kA.blk.cell 0 rfl; have a1c := kA.blk.cell 1 rfl; have a2c := kA.blk.cell 2 rfl; have a3c := kA.blk.cell 3 rfl; have hLn := Lib.hid (fun (W : World) => Below.new W (.cells #[.int .i64 id, .int .i64 kd, .slice a1 n1 q1, .slice a2 n2 q2] 53)); have hfj : fz.length ≤ 6 := by have := HL2.out; omega
     go_wp2_with (at_builtin; go_must (refine wpList_app rfl (.tmp 68) (.tmp 70) 44 rfl W5.heap.size 53 (.agg #[.int .i64 0, .int .i64 0, .slice none 0 0, .slice none 0 0]) 4 64 Tryz.underlying44 Tryz.infoFeat rfl (by decide) v2 fz.length (fts fz) rfl (HO9.out.below (hLn.out _)) (some ⟨W9.heap.size, 0, none⟩) 1 1 [.int .i64 id, .int .i64 kd, .slice a1 n1 q1, .slice a2 n2 q2] rfl (fun h => by cases h) (Rd.lit _ _ [.int .i64 id, .int .i64 kd, .slice a1 n1 q1, .slice a2 n2 q2] _ (by simp)) rfl (by simp [Value.oneCell']) (by omega) (by decide) (by simp; omega) ?_); intro v' W10 hown hgr; obtain ⟨g', cap', rfl⟩ := ownsRow_succ hown; have hta := HO9.out.below (hLn.out _); have kE := (KL9.out.alloc (.cells #[.int .i64 id, .int .i64 kd, .slice a1 n1 q1, .slice a2 n2 q2] 53)).grown hgr (hta.ne (by omega)); have e1 := kE.blk.cell 1 rfl; have ef := kE.blk.free 1)
     have hoff : Off _ E atTs _ := Off.row (base := E) hta (by decide); have hup := fun (f : Ft) (h : FtX w0 E W9 f) => ((h.below (hLn.out _)).gr hgr hoff).gr (grown_set W10 E 1 (.slice (some ⟨g', 0, none⟩) (fz.length + 1) cap')) (Off.typ2 kE (by decide)); have hb10 := (((HB9.out.trans ((hLn.out W9).mono (by omega))).grown hgr (by simp; omega) (fun j hj => Nat.le_trans (by omega) (hta.lt j hj).1))).set_at (b := E) (o := 1) (Nat.le_refl _) (.slice (some ⟨g', 0, none⟩) (fz.length + 1) cap'); have ho10 := hown.set_lt (b := E) (o := 1) (by omega) (.slice (some ⟨g', 0, none⟩) (fz.length + 1) cap'); have hs10 := Nat.le_trans (Nat.le_trans hs9 (hLn.out W9).size) hgr.size; go_roundw
     case rel =>
      refine ⟨j + 1, (.slice (some ⟨g', 0, none⟩) (fz.length + 1) cap'), fz ++ [⟨id, kd, LS, a1, q1, RS, a2, q2⟩], by omega, by omega, by go_num, Lib.hid (kE.set 1 (.slice (some ⟨g', 0, none⟩) (fz.length + 1) cap')), Lib.hid ?_, Lib.hid ?_, Lib.hid ?_, Lib.hid (by rw [size_setCell]; exact hs10), Lib.hid hb10⟩
      ·rw [fts_snoc, List.length_append, HCF.out]; exact ho10
      ·rw [List.length_append, HL2.out]; rfl
      ·intro f hf
       rcases List.mem_append.1 hf with hf | hf
       ·exact ⟨hup f (HZ9.out f hf), (HZ2.out f hf).2⟩
       ·rw [List.mem_singleton.1 hf]; exact ⟨hup _ HN9.out, HFW.out⟩
     case measure => simp [intOf]; omega
    ·obtain ⟨p2, q2, rfl, x1, x2, x3, x4, x5⟩ := HO2.out.form; have hfj : fz.length ≤ 6 := by have := HL2.out; omega
     have HNL : Hid (LyX w0 B Wm ⟨S1, fz, p2, q2⟩ ∧ LyFw ⟨S1, fz, p2, q2⟩) := Lib.hid ⟨⟨⟨x4, x1, x2, x3⟩, (ByT.of_owns HO2.out).mono (by omega), fun f hf => (HZ2.out f hf).1.mono (by omega)⟩, HS1.out, ⟨by simp [Ly.core]; omega, fun c hc => by obtain ⟨f, hf, rfl⟩ := List.mem_map.1 hc; exact (HZ2.out f hf).2.1⟩, fun f hf => (HZ2.out f hf).2.2⟩; have HK0 := Lib.hid (K0.out.keep hbE); have HK1 := Lib.hid (K1.out.keep hbE); have HK2 := Lib.hid (K2.out.keep hbE); have HO7 := Lib.hid (HO.out.below hbE); have HZ7 := Lib.hid (fun z hz => (HZ.out z hz).1.below hbE); have hB7 : B ≤ Wn.heap.size := by rw [HE.out]; omega
     have HB7 := Lib.hid (HB.out.trans (hbE.mono hB7)); have hs7 : w1.heap.size ≤ Wm.heap.size := Nat.le_trans HSZ.out hbE.size; have l0 := KL.out.blk.cell 0 rfl; have l1 := KL.out.blk.cell 1 rfl; have o0 := HK2.out.blk.cell 0 rfl; have HLZ : Hid (Z.length ≤ 18) := Lib.hid (by have := HL.out; omega); have hLZ := HLZ.out; have hLn := Lib.hid (fun (W : World) => Below.new W (.cells #[.string S1, .slice p2 fz.length q2] 46)); have HCL : Hid (Ly.cells ⟨S1, fz, p2, q2⟩ = [.string S1, .slice p2 fz.length q2]) := Lib.hid rfl; generalize fz.length = fn at *; have hg : ((j : Int) < (M : Int) ∧ ¬ ((j : Int) < 6)) ∨ ¬ ((j : Int) < (M : Int)) := by omega
     rcases hg with ⟨hg1, hg2⟩ | hg1
     all_goals (
      go_wp2_with (at_builtin; go_must (refine wpList_app rfl (.tmp 74) (.tmp 76) 22 rfl w1.heap.size 46 (.agg #[.string ⟨#[]⟩, .slice none 0 0]) 2 40 Tryz.underlying22 Tryz.infoLay rfl (by decide) v Z.length (lys Z) rfl (HO7.out.below (hLn.out _)) (some ⟨Wm.heap.size, 0, none⟩) 1 1 [.string S1, .slice p2 fn q2] rfl (fun h => by cases h) (Rd.lit _ _ [.string S1, .slice p2 fn q2] _ (by simp)) rfl (by simp [Value.oneCell']) (by omega) (by decide) (by simp; omega) ?_); intro v' W12 hown hgr; obtain ⟨g', cap', rfl⟩ := ownsRow_succ hown; have hta := HO7.out.below (hLn.out _); have kO := (HK2.out.alloc (.cells #[.string S1, .slice p2 fn q2] 46)).grown hgr (hta.ne (by omega)); have e1 := kO.blk.cell 0 rfl; have ef := kO.blk.free 0)
      have hoff : Off _ B ftAs _ := Off.row (base := B) hta (by decide); have hup := fun (y : Ly) (h : LyX w0 B Wm y) => ((h.below (hLn.out _)).gr hgr hoff).gr (grown_set W12 (B + 1 + 1) 0 (.slice (some ⟨g', 0, none⟩) (Z.length + 1) cap')) (Off.typ2 kO (by decide)); have hb12 := (((HB7.out.trans ((hLn.out Wm).mono (by omega))).grown hgr (by simp; omega) (fun j hj => Nat.le_trans (by omega) (hta.lt j hj).1))).set_at (b := B + 1 + 1) (o := 0) (by omega) (.slice (some ⟨g', 0, none⟩) (Z.length + 1) cap'); have ho12 := hown.set_lt (b := B + 1 + 1) (o := 0) (by omega) (.slice (some ⟨g', 0, none⟩) (Z.length + 1) cap'); have hs12 := Nat.le_trans (Nat.le_trans hs7 (hLn.out Wm).size) hgr.size; have k012 := ((HK0.out.alloc (.cells #[.string S1, .slice p2 fn q2] 46)).grown hgr (hta.ne (by omega))).other (b' := B + 1 + 1) (o := 0) (by omega) (.slice (some ⟨g', 0, none⟩) (Z.length + 1) cap'); have k112 := ((HK1.out.alloc (.cells #[.string S1, .slice p2 fn q2] 46)).grown hgr (hta.ne (by omega))).other (b' := B + 1 + 1) (o := 0) (by omega) (.slice (some ⟨g', 0, none⟩) (Z.length + 1) cap'); go_roundw
      case rel =>
       refine ⟨k + 1, (.slice (some ⟨g', 0, none⟩) (Z.length + 1) cap'), Z ++ [⟨S1, fz, p2, q2⟩], by omega, by omega, by go_num, Lib.hid k012, Lib.hid k112, Lib.hid (kO.set 0 (.slice (some ⟨g', 0, none⟩) (Z.length + 1) cap')), Lib.hid ?_, Lib.hid ?_, Lib.hid ?_, Lib.hid (by rw [size_setCell]; exact hs12), Lib.hid hb12⟩
       ·rw [lys_snoc, List.length_append, HCL.out]; exact ho12
       ·rw [List.length_append, HL.out]; rfl
       ·intro y hy
        rcases List.mem_append.1 hy with hy | hy
        ·exact ⟨hup y (HZ7.out y hy), (HZ.out y hy).2⟩
        ·rw [List.mem_singleton.1 hy]; exact ⟨hup _ HNL.out.1, HNL.out.2⟩
      case measure => simp [intOf]; omega)
  ·obtain ⟨p1, c1, rfl, x1, x2, x3, x4, x5⟩ := HO.out.form; have o0 := K2.out.blk.cell 0 rfl; have r0 := K1.out.blk.cell 0 rfl; have rf := K1.out.blk.free; have hg : ((k : Int) < (N : Int) ∧ ¬ ((k : Int) < 18)) ∨ ¬ ((k : Int) < (N : Int)) := by omega
   rcases hg with ⟨hg1, hg2⟩ | hg1
   all_goals (
    go_wp2; have kR := K1.out.set 0 (.slice p1 Z.length c1); have r1 := kR.blk.cell 0 rfl; have ho := HO.out.set_lt (b := B + 1) (o := 0) (by omega) (.slice p1 Z.length c1); refine bodyPost_ret (v := .agg #[.slice p1 Z.length c1]) (by simp [results, Tryz.results5, go_sem, r1]) rfl ⟨p1, c1, Z, rfl, ⟨Rd.of_owns ho, x1, x2, x3⟩, (ByT.of_owns ho).mono (by omega), by have := HL.out; omega, fun z hz => ⟨(((HZ.out z hz).1.gr (grown_set Wn (B + 1) 0 _) (Off.typ2 K1.out (by decide)))).mono hBl, (HZ.out z hz).2⟩, (HB.out.set_at (b := B + 1) (o := 0) (by omega) (.slice p1 Z.length c1)).mono hBl⟩)
end Go.Proofs.YtjggoajfilnfjaaGreat
