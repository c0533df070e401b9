/-
  geom's reader: take, by, point, command, where nothing is wrong. Faces in memory: attributes, rings, faces; what keeps them. text.letter, text.Name. Plain: what is wrong with attributes. Plain: a layer's table, and what tags tell. Plain: where a thing stands first. append to a slice that has no room, from whatever source: a row of our own. A region that draws its order, walked over each order in which its heavy operations may come up; the light ones are taken first.
-/
import Derived.Test.YtjggoajfilnfjaaGreatPk11
import Derived.Test.YtjggoajfilnfjaaGreatPk5
import Derived.Test.YtjggoajfilnfjaaGreatPk9
import Derived.Test.YtjggoajfilnfjaaGreatPk6
import Derived.RangeFuncBox
import Derived.Test.YtjggoajfilnfjaaGreatPk1
import Derived.ArgAppend
import Derived.Test.YtjggoajfilnfjaaGreatPk3
set_option linter.unusedVariables false
set_option linter.unusedSimpArgs false
set_option maxRecDepth 100000
namespace Go
open Go.RowKit Go.Vint

def RdS (w0 w : World) (B b off c : Nat) (L : List Int) (k : Nat) (p : Pt) : Prop :=
 Rd w0 (some ⟨b, off, none⟩) (L.map (Value.int .u64)) ∧ w0.heap.size ≤ B ∧ Blk w B [.slice (some ⟨b, off, none⟩) L.length c, .int .i64 k, .int .i64 p.x, .int .i64 p.y] ∧ Below w0.heap.size w0 w

theorem grown_drewN (w : World) (n : Nat) (r : Option Nat) : w.grownBy (w.drewN n) r := ⟨rfl, rfl, rfl, Nat.le_refl _, fun _ _ _ => rfl⟩
theorem grown_set (w : World) (B i : Nat) (v : Value) : w.grownBy (w.setCell ⟨B, i, none⟩ v) (some B) :=
 ⟨rfl, rfl, rfl, by rw [size_setCell]; exact Nat.le_refl _, fun k _ h => Below.heap_setCell _ _ _ _ (by intro e; exact h (by rw [e]))⟩
theorem grown_alloc (w : World) (o : Obj) (r : Option Nat) : w.grownBy (w.alloc o) r :=
 ⟨rfl, rfl, rfl, by simp, fun k h _ => heap_alloc_old w o h⟩
theorem RdS.grown {w0 w w' : World} {B b off c : Nat} {L : List Int} {k : Nat} {p : Pt} (h : RdS w0 w B b off c L k p) (hg : w.grownBy w' none) : RdS w0 w' B b off c L k p :=
 ⟨h.1, h.2.1, h.2.2.1.grown hg (by simp), h.2.2.2.grown hg h.2.2.2.size (by simp)⟩
theorem RdS.kept {w0 w w' : World} {B b off c : Nat} {L : List Int} {k : Nat} {p : Pt} (h : RdS w0 w B b off c L k p) {r : Nat} (hg : w.grownBy w' (some r)) (hr : w0.heap.size ≤ r) (hne : r ≠ B) : RdS w0 w' B b off c L k p :=
 ⟨h.1, h.2.1, h.2.2.1.grown hg (by simp; exact fun e => hne e.symm), h.2.2.2.grown hg h.2.2.2.size (by simp; exact hr)⟩
end Go
namespace Go.Proofs.YtjggoajfilnfjaaGreat
open Go.RowKit Go.Vint

set_option maxHeartbeats 800000 in
theorem take_ok (w0 w : World) (B b off c : Nat) (L : List Int) (k : Nat) (p : Pt) (v : Int) (hv : L[k]? = some v) (hv1 : v ≤ 4294967295) (hL : L.length ≤ 1000000) (hc : L.length ≤ c) (h : RdS w0 w B b off c L k p) :
  Calls Tryz.prog 133 #[.pointer (some ⟨B, 0, none⟩)] w fun e w' => e = .returned (.tuple #[.int .u64 v, .int .i64 0]) ∧ RdS w0 w' B b off c L (k + 1) p ∧ w.grownBy w' (some B) := by
 obtain ⟨hr, hB, hb, hbl⟩ := h; have hk : k < L.length := (List.getElem?_eq_some_iff.1 hv).1; have hcell : ∀ W, Below w0.heap.size w0 W → W.cell? ⟨b, off + k, none⟩ = some (.int .u64 v) := fun W h => by
  obtain ⟨_, _, he, h0, _⟩ := (hr.keep h).at (i := k) (v := .int .u64 v) (by simp [hv])
  cases he; exact h0
 have HC := Lib.hid hcell; have HR := Lib.hid hr; obtain ⟨N, hN⟩ : ∃ N, L.length = N := ⟨_, rfl⟩; have HN := Lib.hid hN; rw [hN] at hk hL hc hb; clear hcell hr hN hv; have c0 := hb.cell 0 rfl; have c1 := hb.cell 1 rfl; have d0 := HC.out _ hbl
 go_enter Tryz.func133, Tryz.ntmps133
 have hkN : ((k : Int) == (N : Int)) = false := by simp; omega
 have hv2 : decide (4294967295 < v) = false := by simp; omega
 have hfr := hb.free 1; go_wp2
 go_quiet (fail)
 rename Nat => n1
 go_wp2
 go_quiet (fail)
 go_wp2; have g1 := (grown_drewN w (n1 + nq) (some B)).trans (grown_set (w.drewN (n1 + nq)) B 1 (.int .i64 ((k : Int) + 1))); have b1 := (hb.drewN (n1 + nq)).set 1 (.int .i64 ((k : Int) + 1)); have l1 := hbl.grown g1 hbl.size (by simp; exact hB); generalize (w.drewN (n1 + nq)).setCell ⟨B, 1, none⟩ (.int .i64 ((k : Int) + 1)) = w2 at *; clear c0 c1 d0 hfr; have c0 := b1.cell 0 rfl; have c1 := b1.cell 1 rfl; have d0 := HC.out _ l1
 go_quiet (fail)
 go_wp2; refine bodyPost_ret (v := .tuple #[.int .u64 v, .int .i64 0]) (by simp [results, Tryz.results133, go_sem]) rfl ⟨rfl, ⟨HR.out, hB, ?_, below_drewN l1 _⟩, g1.trans (grown_drewN _ _ _)⟩; rw [HN.out]; exact b1

set_option maxHeartbeats 800000 in
theorem by_ok (w0 w : World) (B b off c : Nat) (L : List Int) (k : Nat) (p : Pt) (last n : Int) (hv : L[k]? = some (zig (n - last))) (hn : -1048576 ≤ n ∧ n ≤ 1048576) (hl : -1048576 ≤ last ∧ last ≤ 1048576) (hL : L.length ≤ 1000000) (hc : L.length ≤ c) (h : RdS w0 w B b off c L k p) :
  Calls Tryz.prog 135 #[.pointer (some ⟨B, 0, none⟩), .int .i64 last] w fun e w' => e = .returned (.tuple #[.int .i64 n, .int .i64 0]) ∧ RdS w0 w' B b off c L (k + 1) p ∧ w.grownBy w' (some B) := by
 have hz := zag_zig (n - last); have hz1 : 0 ≤ zig (n - last) ∧ zig (n - last) ≤ 4294967295 := by unfold zig; split <;> omega
 have ht := take_ok w0 w B b off c L k p _ hv hz1.2 hL hc h; have hzg := vzag_any (zig (n - last)) hz1.1 (by omega); rw [hz] at hzg; generalize zig (n - last) = v at *; have HT := Lib.hid ht; have HZ := Lib.hid hzg; have hs : last + (n - last) = n := by omega
 clear ht hzg hz hz1 hv h hL hc
 go_enter Tryz.func135, Tryz.ntmps135
 go_wp2_with fail
 refine HT.out.mono ?_; rintro e w1 ⟨rfl, h1, hg1⟩
 go_wp2_with fail
 refine (HZ.out _).mono ?_; rintro e w2 ⟨rfl, rfl⟩
 go_wp2_with fail
 refine (gwithin_any n _).mono ?_; rintro e w2 ⟨rfl, rfl⟩; rw [decide_eq_true hn]; go_wp2; refine bodyPost_ret (v := .tuple #[.int .i64 n, .int .i64 0]) (by simp [results, Tryz.results135, go_sem]) rfl ⟨rfl, h1, hg1⟩

set_option maxHeartbeats 1600000 in
theorem point_ok (w0 w : World) (B b off c : Nat) (L : List Int) (k : Nat) (p q : Pt) (hx : L[k]? = some (zig (q.x - p.x))) (hy : L[k + 1]? = some (zig (q.y - p.y))) (hp : Close p) (hq : Close q) (hL : L.length ≤ 1000000) (hc : L.length ≤ c) (h : RdS w0 w B b off c L k p) :
  Calls Tryz.prog 131 #[.pointer (some ⟨B, 0, none⟩)] w fun e w' => e = .returned (.tuple #[q.val, .int .i64 0]) ∧ RdS w0 w' B b off c L (k + 2) q ∧ w.grownBy w' (some B) := by
 have g0 := grown_alloc w (.cells #[.int .i64 0, .int .i64 0] 79) none; have g0' := grown_alloc w (.cells #[.int .i64 0, .int .i64 0] 79) (some B); have hBl := h.2.2.1.lt; have r0 := Blk.new w [.int .i64 0, .int .i64 0] 79; have h0 := h.grown g0; have hB := h.2.1; obtain ⟨x, y⟩ := q; obtain ⟨px, py⟩ := p; dsimp only [Pt.val] at *; have hbx := fun W k p h => by_ok w0 W B b off c L k p px x h hq.1 hp.1 hL hc; have hby := fun W k p h => by_ok w0 W B b off c L k p py y h hq.2 hp.2 hL hc; have HX := Lib.hid hbx; have HY := Lib.hid hby; have HVX := Lib.hid hx; have HVY := Lib.hid hy; clear hbx hby hx hy hp hq g0 hL hc h
 go_enter Tryz.func131, Tryz.ntmps131
 have c2 := h0.2.2.1.cell 2 rfl; have c3 := h0.2.2.1.cell 3 rfl; dsimp only at c2 c3
 go_wp2_with fail
 refine (HX.out _ _ _ HVX.out h0).mono ?_; rintro e w1 ⟨rfl, h1, hg1⟩; have r1 := r0.grown hg1 (by simp; omega); have g1 := g0'.trans hg1; clear c2 c3 h0 hg1 r0 g0'; have c2 := h1.2.2.1.cell 2 rfl; have c3 := h1.2.2.1.cell 3 rfl; dsimp only at c2 c3
 go_wp2_with fail
 refine (HY.out _ _ _ HVY.out h1).mono ?_; rintro e w2 ⟨rfl, h2, hg2⟩; have r2 := r1.grown hg2 (by simp; omega); have g2 := g1.trans hg2; clear c2 c3 h1 hg2 r1 g1; have c2 := h2.2.2.1.cell 2 rfl; have c3 := h2.2.2.1.cell 3 rfl; have f2 := h2.2.2.1.free 2; have f3 := h2.2.2.1.free 3; have e0 := r2.cell 0 rfl; have e1 := r2.cell 1 rfl; have j0 := r2.free 0; have j1 := r2.free 1; dsimp only at c2 c3; have hne : w.heap.size ≠ B := by omega
 have hne2 : B ≠ w.heap.size := by omega
 go_wp2; have b4 := (((h2.2.2.1.set 2 (.int .i64 x)).set 3 (.int .i64 y)).set_at (o := 0) hne2 (.int .i64 x)).set_at (o := 1) hne2 (.int .i64 y); have r4 := (((r2.set_at (o := 2) hne (.int .i64 x)).set_at (o := 3) hne (.int .i64 y)).set 0 (.int .i64 x)).set 1 (.int .i64 y); have g4 := (g2.trans (grown_set w2 B 2 (.int .i64 x))).trans (grown_set _ B 3 (.int .i64 y)); have l4 := ((h2.2.2.2.grown (grown_set w2 B 2 (.int .i64 x)) h2.2.2.2.size (by simp; exact hB)).set_at (o := 3) hB (.int .i64 y)); have hwR : w0.heap.size ≤ w.heap.size := by omega
 have l5 := (l4.set_at (o := 0) hwR (.int .i64 x)).set_at (o := 1) hwR (.int .i64 y); have g5 : w.grownBy ((((w2.setCell ⟨B, 2, none⟩ (.int .i64 x)).setCell ⟨B, 3, none⟩ (.int .i64 y)).setCell ⟨w.heap.size, 0, none⟩ (.int .i64 x)).setCell ⟨w.heap.size, 1, none⟩ (.int .i64 y)) (some B) := by
  refine ⟨g4.os, g4.tape, g4.output, by rw [size_setCell, size_setCell]; exact g4.size, fun i hi hn => ?_⟩; rw [Below.heap_setCell _ _ _ _ (by show i ≠ w.heap.size; omega), Below.heap_setCell _ _ _ _ (by show i ≠ w.heap.size; omega)]; exact g4.block i hi hn
 obtain ⟨w3, hw3⟩ : ∃ w3, ((((w2.setCell ⟨B, 2, none⟩ (.int .i64 x)).setCell ⟨B, 3, none⟩ (.int .i64 y)).setCell ⟨w.heap.size, 0, none⟩ (.int .i64 x)).setCell ⟨w.heap.size, 1, none⟩ (.int .i64 y)) = w3 := ⟨_, rfl⟩; rw [hw3] at b4 r4 l5 g5; rw [hw3]; have q0 := r4.cell 0 rfl; have q1 := r4.cell 1 rfl; refine bodyPost_ret (v := .tuple #[.agg #[.int .i64 x, .int .i64 y], .int .i64 0]) (by simp [results, Tryz.results131, go_sem, q0, q1]) rfl ⟨rfl, ⟨h2.1, hB, b4, l5⟩, g5⟩
end Go.Proofs.YtjggoajfilnfjaaGreat
namespace Go
open Go.RowKit
structure At where
 key : ByteArray
 kind : Int
 text : ByteArray
 n : Int
instance : Inhabited At := ⟨⟨ByteArray.empty, 0, ByteArray.empty, 0⟩⟩
def At.cells (a : At) : List Value := [.string a.key, .int .i64 a.kind, .string a.text, .int .i64 a.n]
def At.val (a : At) : Value := .agg #[.string a.key, .int .i64 a.kind, .string a.text, .int .i64 a.n]
def ats (l : List At) : List Value := l.flatMap At.cells
theorem At.cells_len (a : At) : a.cells.length = 4 := rfl
theorem ats_len (l : List At) : (ats l).length = l.length * 4 := by
 unfold ats
 induction l with
 | nil => rfl
 | cons a l ih => simp only [List.flatMap_cons, List.length_append, ih, List.length_cons, At.cells_len]; omega
theorem ats_snoc (l : List At) (a : At) : ats (l ++ [a]) = ats l ++ a.cells := by simp [ats]
structure Fc where
 rs : List PC
 ra : Option Addr
 rc : Nat
 ls : List At
 aa : Option Addr
 ac : Nat
instance : Inhabited Fc := ⟨⟨[], none, 0, [], none, 0⟩⟩
def Fc.rval (f : Fc) : Value := .slice f.ra f.rs.length f.rc
def Fc.aval (f : Fc) : Value := .slice f.aa f.ls.length f.ac
def Fc.cells (f : Fc) : List Value := [f.rval, f.aval]
def Fc.val (f : Fc) : Value := .agg #[f.rval, f.aval]
def rcs (l : List PC) : List Value := l.flatMap PC.cells
def fcs (l : List Fc) : List Value := l.flatMap Fc.cells
def Fc.rings (f : Fc) : List (List Pt) := f.rs.map PC.l
def Fc.Ok (W : World) (f : Fc) : Prop :=
 (Rd W f.ra (rcs f.rs) ∧ f.rs.length ≤ f.rc ∧ f.rc ≤ maxLen ∧ (f.ra = none → f.rc = 0)) ∧ (∀ r ∈ f.rs, r.Ok W) ∧ (Rd W f.aa (ats f.ls) ∧ f.ls.length ≤ f.ac ∧ f.ac ≤ maxLen ∧ (f.aa = none → f.ac = 0))
theorem Fc.Ok.keep {w w' : World} {f : Fc} (h : f.Ok w) (hb : Below w.heap.size w w') : f.Ok w' :=
 ⟨⟨h.1.1.keep hb, h.1.2⟩, fun r hr => (h.2.1 r hr).keep hb, ⟨h.2.2.1.keep hb, h.2.2.2⟩⟩

theorem Rd.fc {w : World} {a : Option Addr} {l : List Fc} (h : Rd w a (fcs l)) (i : Nat) (hi : i < l.length) :
  ∃ b off, a = some ⟨b, off, none⟩ ∧ b < w.heap.size ∧ w.cell? ⟨b, off + i * 2, none⟩ = some l[i].rval ∧ w.cell? ⟨b, off + i * 2 + 1, none⟩ = some l[i].aval := by
 have g : ∀ j, j < 2 → (fcs l)[i * 2 + j]? = (l[i]).cells[j]? := fun j hj => flatMap_get Fc.cells 2 (fun _ => rfl) l i j hi hj; obtain ⟨b, off, rfl, h0, hb⟩ := h.at (i := i * 2 + 0) (v := l[i].rval) (by rw [g 0 (by omega)]; rfl); obtain ⟨b', off', e, h1, -⟩ := h.at (i := i * 2 + 1) (v := l[i].aval) (by rw [g 1 (by omega)]; rfl)
 cases e
 exact ⟨b, off, rfl, hb, h0, by rw [Nat.add_assoc]; exact h1⟩
theorem Rd.rc {w : World} {a : Option Addr} {l : List PC} (h : Rd w a (rcs l)) (i : Nat) (hi : i < l.length) :
  ∃ b off, a = some ⟨b, off, none⟩ ∧ b < w.heap.size ∧ w.cell? ⟨b, off + i, none⟩ = some l[i].val := by
 have g : (rcs l)[i * 1 + 0]? = (l[i]).cells[0]? := flatMap_get PC.cells 1 (fun _ => rfl) l i 0 hi (by omega); obtain ⟨b, off, rfl, h0, hb⟩ := h.at (i := i * 1 + 0) (v := l[i].val) (by rw [g]; rfl); exact ⟨b, off, rfl, hb, by rw [Nat.mul_one, Nat.add_zero] at h0; exact h0⟩
theorem Rd.atr {w : World} {a : Option Addr} {l : List At} (h : Rd w a (ats l)) (i : Nat) (hi : i < l.length) :
  ∃ b off, a = some ⟨b, off, none⟩ ∧ b < w.heap.size ∧ w.cell? ⟨b, off + i * 4, none⟩ = some (.string l[i].key) ∧ w.cell? ⟨b, off + i * 4 + 1, none⟩ = some (.int .i64 l[i].kind) ∧ w.cell? ⟨b, off + i * 4 + 2, none⟩ = some (.string l[i].text) ∧ w.cell? ⟨b, off + i * 4 + 3, none⟩ = some (.int .i64 l[i].n) := by
 have g : ∀ j, j < 4 → (ats l)[i * 4 + j]? = (l[i]).cells[j]? := fun j hj => flatMap_get At.cells 4 (fun _ => rfl) l i j hi hj; obtain ⟨b, off, rfl, h0, hb⟩ := h.at (i := i * 4 + 0) (v := .string l[i].key) (by rw [g 0 (by omega)]; rfl); obtain ⟨b', off', e, h1, -⟩ := h.at (i := i * 4 + 1) (v := .int .i64 l[i].kind) (by rw [g 1 (by omega)]; rfl)
 cases e
 obtain ⟨b', off', e, h2, -⟩ := h.at (i := i * 4 + 2) (v := .string l[i].text) (by rw [g 2 (by omega)]; rfl)
 cases e
 obtain ⟨b', off', e, h3, -⟩ := h.at (i := i * 4 + 3) (v := .int .i64 l[i].n) (by rw [g 3 (by omega)]; rfl)
 cases e
 refine ⟨b, off, rfl, hb, h0, ?_, ?_, ?_⟩
 ·rw [Nat.add_assoc]; exact h1
 ·rw [Nat.add_assoc]; exact h2
 ·rw [Nat.add_assoc]; exact h3
def TypB (W : World) (a : Option Addr) (T : TypeId) : Prop := ∀ b, a.map (·.block) = some b → ∃ cs fr, W.heap[b]? = some (.cells cs T fr)
theorem TypB.none (W : World) (T : TypeId) : TypB W none T := fun b h => by simp at h
theorem TypB.of_owns {W : World} {base : Nat} {e : TypeId} {size n c m : Nat} {a : Option Addr} {xs : List Value} (h : W.ownsRow base e size (.slice a n c) m xs) : TypB W a e := by
 intro b hb
 rcases h.2 with ⟨h1, -⟩ | ⟨g, cap, cur, h1, -, hg, -⟩
 ·cases h1; simp at hb
 ·cases h1
  simp at hb; subst hb; exact ⟨cur, _, hg⟩
def KeepS (S : TypeId → Prop) (A B : World) : Prop := A.heap.size ≤ B.heap.size ∧ ∀ (k : Nat) (cs : Array Value) (V : TypeId) (fr : Nat × Nat), A.heap[k]? = some (Obj.cells cs V fr) → S V → B.heap[k]? = A.heap[k]?
theorem KeepS.refl {S : TypeId → Prop} (A : World) : KeepS S A A := ⟨Nat.le_refl _, fun _ _ _ _ _ _ => rfl⟩
theorem KeepS.trans {S : TypeId → Prop} {A B C : World} (h : KeepS S A B) (k : KeepS S B C) : KeepS S A C :=
 ⟨Nat.le_trans h.1 k.1, fun i cs V fr hi hv => by
  have h1 := h.2 i cs V fr hi hv; rw [k.2 i cs V fr (h1.trans hi) hv, h1]⟩
theorem KeepS.of_below {S : TypeId → Prop} {A B : World} (h : Below A.heap.size A B) : KeepS S A B :=
 ⟨h.size, fun k _ _ _ hk _ => h.block k (Array.getElem?_eq_some_iff.1 hk).1⟩
theorem KeepS.of_grownBy {S : TypeId → Prop} {A B : World} {row : Option Nat} (hg : A.grownBy B row) (hr : ∀ r, row = some r → ∀ cs V fr, A.heap[r]? = some (Obj.cells cs V fr) → ¬ S V) : KeepS S A B :=
 ⟨hg.size, fun k cs V fr hk hv => hg.block k (Array.getElem?_eq_some_iff.1 hk).1 fun e => hr k e.symm cs V fr hk hv⟩
theorem KeepS.of_row {S : TypeId → Prop} {A B : World} {n₀ : Nat} {e : TypeId} {size : Nat} {v : Value} {k : Nat} {xs : List Value} (hrow : A.ownsRow n₀ e size v k xs) (hS : ¬ S e) (hg : A.grownBy B v.ownBlock) : KeepS S A B :=
 KeepS.of_grownBy hg fun r he cs V fr hk => by
  rcases hrow.2 with ⟨rfl, _⟩ | ⟨g, cap, cur, rfl, _, hgb, _⟩
  ·cases he
  ·obtain rfl : g = r := by simpa [Value.ownBlock] using he
   rw [hgb] at hk
   cases hk
   exact hS
theorem KeepS.store {S : TypeId → Prop} {A : World} {p : Addr} {t : TypeId} {cs : Array Value} {fr : Nat × Nat} (h : A.heap[p.block]? = some (.cells cs t fr)) (hS : ¬ S t) (u : Value) : KeepS S A (A.setCell p u) := by
 refine ⟨by simp [World.setCell], fun k cs' V fr' hk hv => ?_⟩; refine Below.heap_setCell A p u k (fun e => ?_); subst e; rw [h] at hk
 cases hk
 exact hS hv
theorem Rd.keepS {S : TypeId → Prop} {A B : World} {a : Option Addr} {vs : List Value} {T : TypeId} (h : Rd A a vs) (ht : TypB A a T) (hS : S T) (k : KeepS S A B) : Rd B a vs := by
 rcases h with h | ⟨b, off, rfl, hc⟩
 ·exact .inl h
 ·refine .inr ⟨b, off, rfl, fun i v hv => ?_⟩; obtain ⟨cs, fr, hb⟩ := ht b rfl; have := hc i v hv; simp only [World.cell?, k.2 b cs T fr hb hS]; exact this
theorem TypB.keepS {S : TypeId → Prop} {A B : World} {a : Option Addr} {T : TypeId} (ht : TypB A a T) (hS : S T) (k : KeepS S A B) : TypB B a T := by
 intro b hb; obtain ⟨cs, fr, h⟩ := ht b hb; exact ⟨cs, fr, (k.2 b cs T fr h hS).trans h⟩
end Go
namespace Go.Proofs.YtjggoajfilnfjaaGreat
open Go.RowKit
def PcT (W : World) (x : PC) : Prop := x.Ok W ∧ TypB W x.p 79
def FcT (W : World) (f : Fc) : Prop := f.Ok W ∧ TypB W f.ra 80 ∧ (∀ r ∈ f.rs, PcT W r) ∧ TypB W f.aa 103
def faceS (T : TypeId) : Prop := T = 79 ∨ T = 80 ∨ T = 103
theorem PcT.keepS {S : TypeId → Prop} {A B : World} {x : PC} (h : PcT A x) (hS : S 79) (k : KeepS S A B) : PcT B x :=
 ⟨⟨h.1.1.keepS h.2 hS k, h.1.2⟩, h.2.keepS hS k⟩
theorem FcT.keepS {A B : World} {f : Fc} (h : FcT A f) (k : KeepS faceS A B) : FcT B f := by
 obtain ⟨⟨h1, h2, h3⟩, t1, t2, t3⟩ := h; exact ⟨⟨⟨h1.1.keepS t1 (.inr (.inl rfl)) k, h1.2⟩, fun r hr => ((t2 r hr).keepS (.inl rfl) k).1, ⟨h3.1.keepS t3 (.inr (.inr rfl)) k, h3.2⟩⟩, t1.keepS (.inr (.inl rfl)) k, fun r hr => (t2 r hr).keepS (.inl rfl) k, t3.keepS (.inr (.inr rfl)) k⟩
theorem FcT.keep {A B : World} {f : Fc} (h : FcT A f) (hb : Below A.heap.size A B) : FcT B f := h.keepS (KeepS.of_below hb)
theorem PcT.keep {A B : World} {f : PC} (h : PcT A f) (hb : Below A.heap.size A B) : PcT B f := h.keepS (S := faceS) (.inl rfl) (KeepS.of_below hb)
theorem Tryz.infoAt : (Tryz.prog.info? 103).map (fun i => (i.zero, i.size, i.bytes)) = some (some (.agg #[.string ⟨#[]⟩, .int .i64 0, .string ⟨#[]⟩, .int .i64 0]), 4, 48) := by kernel_rfl
end Go.Proofs.YtjggoajfilnfjaaGreat
namespace Go
open Go.RowKit
def letterF (r : Nat) : Bool := decide (97 ≤ r ∧ r ≤ 122 ∨ 65 ≤ r ∧ r ≤ 90 ∨ r = 95 ∨ 128 ≤ r)
def otherF (r : Nat) : Bool := decide (r = 45 ∨ r = 46 ∨ 48 ≤ r ∧ r ≤ 57)
def nameAt (x : Nat × Nat) : Bool := letterF x.1 || (decide (x.2 ≠ 0) && otherF x.1)
def nameF (s : ByteArray) : Bool := rightF s && decide (1 ≤ (runesF s).length ∧ (runesF s).length ≤ 32) && (runesF s).all nameAt
end Go
namespace Go.Proofs.YtjggoajfilnfjaaGreat
open Go.RowKit

set_option maxHeartbeats 800000 in
theorem letter_any (r : Nat) (hr : r ≤ 1114111) (w : World) :
  Calls Tryz.prog 103 #[.int .i32 (r : Int)] w fun e w' => e = .returned (.bool (letterF r)) ∧ w' = w := by
 have hL : Hid (letterF r = decide (97 ≤ r ∧ r ≤ 122 ∨ 65 ≤ r ∧ r ≤ 90 ∨ r = 95 ∨ 128 ≤ r)) := Lib.hid rfl; generalize letterF r = L at *
 go_enter Tryz.func103, Tryz.ntmps103
 go_wp2
 all_goals (go_ret; refine ⟨ret_bool ?_, rfl⟩; rw [hL.out]; clear hL; first | (simp_all; done) | (rw [Bool.eq_iff_iff]; simp only [Bool.or_eq_true, decide_eq_true_eq, beq_iff_eq]; omega) | (simp_all; omega))

set_option maxHeartbeats 1600000 in
theorem name_any (s : ByteArray) (hs : s.size ≤ maxLen) (w : World) :
    Calls Tryz.prog 84 #[.string s] w fun e w' => e = .returned (.bool (nameF s)) ∧ Below w.heap.size w w' := by
  have hs2 : s.size ≤ 9223372036854775807 := by unfold maxLen at hs; omega
  have hc := Lib.hid (count_any s hs); have hN : Hid (nameF s = (rightF s && decide (1 ≤ (runesF s).length ∧ (runesF s).length ≤ 32) && (runesF s).all nameAt)) := Lib.hid rfl; generalize nameF s = N at *; obtain ⟨C, hC⟩ : ∃ C : Int, (if rightF s then ((runesF s).length : Int) else 0) = C := ⟨_, rfl⟩; rw [hC] at hc; obtain ⟨T, hT⟩ : ∃ T : Bool, rightF s = T := ⟨_, rfl⟩; rw [hT] at hC hc hN; clear hT
  go_enter Tryz.func84, Tryz.ntmps84
  go_wp2_with fail
  refine (hc.out _).mono ?_; rintro e w1 ⟨rfl, hb1⟩; have hs1 := hb1.size
  cases T with
  | false =>
    have hn : N = false := by rw [hN.out]; rfl
    subst hn; clear hC hN hc; go_wp2; go_ret; exact ⟨rfl, hb1⟩
  | true =>
    rw [if_pos rfl] at hC
    by_cases h1 : C < 1
    · have hn : N = false := by rw [hN.out]; have : ¬ 1 ≤ (runesF s).length := by omega
                                simp [this]
      subst hn; clear hC hN hc; go_wp2; go_ret; exact ⟨rfl, hb1⟩
    · by_cases h2 : 32 < C
      · have hn : N = false := by rw [hN.out]; have : ¬ (runesF s).length ≤ 32 := by omega
                                  simp [this]
        subst hn; clear hC hN hc; go_wp2; go_ret; exact ⟨rfl, hb1⟩
      · have HN : Hid (N = (runesF s).all nameAt) := Lib.hid (by
          rw [hN.out]; have : 1 ≤ (runesF s).length ∧ (runesF s).length ≤ 32 := by omega
          simp [this])
        clear hC hN hc; go_wp2
        go_loopw [] (fun wr => ∃ (p f : Nat) (pre : List (Nat × Nat)), wr = w1.iter s p ∧ Hid (runesF s = pre ++ rl s f p) ∧ Hid (pre.all nameAt = true) ∧ s.size ≤ p + f ∧ p ≤ s.size) (fun wr => s.size - wr.iterPos w1.heap.size)
        case atStart => exact ⟨0, s.size, [], rfl, Lib.hid rfl, Lib.hid rfl, by omega, by omega⟩
        case round =>
          obtain ⟨p, f, pre, rfl, HR, HA, hpf, hps⟩ := hrel
          by_cases hp : p < s.size
          · obtain ⟨f, rfl⟩ : ∃ g, f = g + 1 := ⟨f - 1, by omega⟩; have hnx : ∀ ty, (Instr.next (.pointer (some ⟨w1.heap.size, 0, none⟩)) true ty).run Tryz.prog (w1.iter s p) = _ := fun ty => run_next_any w1 s p ty hp; have hwd := decode_wid hp; rw [rl_step s f p hp] at HR; obtain ⟨W, hW⟩ : ∃ W, p + (Utf8.decode s p).2 = W := ⟨_, rfl⟩; rw [hW] at hnx HR; obtain ⟨R, hR⟩ : ∃ R, (Utf8.decode s p).1 = R := ⟨_, rfl⟩; rw [hR] at hnx HR hwd; have hlet := letter_any R hwd.2.2.2; have hbW : Below w.heap.size w (w1.iter s W) := hb1.trans ((below_iter w1 s W).mono hs1); have hWb : p < W ∧ W ≤ s.size := by omega
            have HX : Hid (nameAt (R, p) = (letterF R || (decide (p ≠ 0) && otherF R))) := Lib.hid rfl; have HXF : Hid (nameAt (R, p) = false → N = false) := Lib.hid (fun h => by
              rw [HN.out, HR.out, List.all_append, List.all_cons, h]; simp)
            have HXT : Hid (nameAt (R, p) = true → (pre ++ [(R, p)]).all nameAt = true) := Lib.hid (fun h => by
              rw [List.all_append, HA.out]; simp [h])
            have HOT : Hid (otherF R = decide (R = 45 ∨ R = 46 ∨ 48 ≤ R ∧ R ≤ 57)) := Lib.hid rfl; generalize nameAt (R, p) = X at *; generalize letterF R = L at *; have HLT := Lib.hid hlet; have hRb : R ≤ 1114111 := hwd.2.2.2; clear hlet hwd hR hW
            go_wp2_with fail
            refine (HLT.out _).mono ?_; rintro e w2 ⟨rfl, rfl⟩
            cases L with
            | true =>
              have hX : X = true := by rw [HX.out]; rfl
              have HP := Lib.hid (HXT.out hX); clear HX HXF HXT HOT HLT hX; go_wp2; go_roundw
              case rel => exact ⟨W, f, pre ++ [(R, p)], rfl, Lib.hid (by rw [HR.out, List.append_assoc]; rfl), HP, by omega, by omega⟩
              case measure => simp; omega
            | false =>
              by_cases hp0 : p = 0
              · subst hp0; have hN0 : N = false := HXF.out (by rw [HX.out]; rfl); subst hN0; clear HX HXF HXT HOT HLT HN HR HA; go_wp2; go_ret; exact ⟨rfl, hbW⟩
              · have hpb : ((p : Int) == 0) = false := by rw [beq_eq_false_iff_ne]; omega
                by_cases r1 : (R : Int) = 45
                · have hR1 : R = 45 := by omega
                  have hX : X = true := by rw [HX.out, HOT.out]; simp; omega
                  have HP := Lib.hid (HXT.out hX); clear HX HXF HXT HOT HLT hX; go_wp2
                  all_goals (refine ⟨⟨W, f, pre ++ [(R, p)], rfl, Lib.hid (by rw [HR.out, List.append_assoc]; rfl), HP, by omega, by omega⟩, ?_⟩; simp; omega)
                · by_cases r2 : (R : Int) = 46
                  · have hR1 : R = 46 := by omega
                    have hX : X = true := by rw [HX.out, HOT.out]; simp; omega
                    have HP := Lib.hid (HXT.out hX); clear HX HXF HXT HOT HLT hX; go_wp2
                    all_goals (refine ⟨⟨W, f, pre ++ [(R, p)], rfl, Lib.hid (by rw [HR.out, List.append_assoc]; rfl), HP, by omega, by omega⟩, ?_⟩; simp; omega)
                  · have n1 : ((R : Int) != 45) = true := bne_iff_ne.2 r1; have n2 : ((R : Int) != 46) = true := bne_iff_ne.2 r2
                    by_cases r3 : (R : Int) < 48
                    · have hN0 : N = false := HXF.out (by rw [HX.out, HOT.out]; simp; omega); subst hN0; clear HX HXF HXT HOT HLT HN HR HA; go_wp2; go_ret; exact ⟨rfl, hbW⟩
                    · by_cases r4 : 57 < (R : Int)
                      · have hN0 : N = false := HXF.out (by rw [HX.out, HOT.out]; simp; omega); subst hN0; clear HX HXF HXT HOT HLT HN HR HA; go_wp2; go_ret; exact ⟨rfl, hbW⟩
                      · have hX : X = true := by rw [HX.out, HOT.out]; simp; omega
                        have HP := Lib.hid (HXT.out hX); clear HX HXF HXT HOT HLT hX; go_wp2; go_roundw
                        case rel => exact ⟨W, f, pre ++ [(R, p)], rfl, Lib.hid (by rw [HR.out, List.append_assoc]; rfl), HP, by omega, by omega⟩
                        case measure => simp; omega
          · have hnx : ∀ ty, (Instr.next (.pointer (some ⟨w1.heap.size, 0, none⟩)) true ty).run Tryz.prog (w1.iter s p) = _ := fun ty => Lib.run_next_end_at (w1.iter s p) w1.heap.size s p ty (World.iter_heap w1 s p) hp; have hbW : Below w.heap.size w (w1.iter s p) := hb1.trans ((below_iter w1 s p).mono hs1); rw [rl_end s f p hp, List.append_nil] at HR; have hF : N = true := by rw [HN.out, HR.out]; exact HA.out
            subst hF; clear HR HA HN; go_wp2; go_ret; exact ⟨rfl, hbW⟩
end Go.Proofs.YtjggoajfilnfjaaGreat
namespace Go
open Go.RowKit
def tcGo (met : List (List UInt8)) : List At → Int
 | [] => 0
 | a :: l => if nameF a.key = false then 13 else if vcF a.kind a.text a.n ≠ 0 then vcF a.kind a.text a.n else if a.key.data.toList ∈ met then 8 else tcGo (a.key.data.toList :: met) l
def tcF (l : List At) : Int := if 8 < l.length then 6 else tcGo [] l
end Go
namespace Go
open Go.RowKit
def plc {α : Type} [DecidableEq α] (l : List α) (x : α) : List α × Nat := if x ∈ l then (l, l.idxOf x) else (l ++ [x], l.length)
section
variable {α : Type} [DecidableEq α]
theorem plc_at (l : List α) (x : α) : (plc l x).1[(plc l x).2]? = some x ∧ (plc l x).2 < (plc l x).1.length := by
 unfold plc
 split
 ·rename_i h; have h2 := List.idxOf_lt_length_of_mem h; exact ⟨by rw [List.getElem?_eq_getElem h2]; simp, h2⟩
 ·simp
theorem plc_ext (l : List α) (x : α) : ∃ t, (plc l x).1 = l ++ t := by
 unfold plc
 split
 ·exact ⟨[], by simp⟩
 ·exact ⟨[x], rfl⟩
theorem plc_len (l : List α) (x : α) : (plc l x).1.length ≤ l.length + 1 := by
 unfold plc
 split <;> simp
theorem plc_nodup (l : List α) (x : α) (h : l.Nodup) : (plc l x).1.Nodup := by
 unfold plc
 split
 ·exact h
 ·rename_i hx; rw [List.nodup_append]; exact ⟨h, by simp, by intro a ha b hb; simp at hb; subst hb; rintro rfl; exact hx ha⟩
theorem plc_mem (l : List α) (x : α) {P : α → Prop} (h : ∀ y ∈ l, P y) (hx : P x) : ∀ y ∈ (plc l x).1, P y := by
 unfold plc
 split
 ·exact h
 ·intro y hy
  rcases List.mem_append.1 hy with hy | hy
  ·exact h y hy
  ·rw [List.mem_singleton.1 hy]; exact hx
end
def At.vv (a : At) : VV := (a.kind, a.text, a.n)
abbrev TB := List ByteArray × List VV
def addA (t : TB) (a : At) : TB := ((plc t.1 a.key).1, (plc t.2 a.vv).1)
def tagA (t : TB) (a : At) : List Int := [((plc t.1 a.key).2 : Int), ((plc t.2 a.vv).2 : Int)]
def addL (t : TB) : List At → TB
 | [] => t
 | a :: l => addL (addA t a) l
def tagL (t : TB) : List At → List Int
 | [] => []
 | a :: l => tagA t a ++ tagL (addA t a) l
theorem addL_snoc (l : List At) : ∀ (t : TB) (a : At), addL t (l ++ [a]) = addA (addL t l) a := by
 induction l with
 | nil => intro t a; rfl
 | cons b l ih => intro t a; exact ih _ a
theorem tagL_snoc (l : List At) : ∀ (t : TB) (a : At), tagL t (l ++ [a]) = tagL t l ++ tagA (addL t l) a := by
 induction l with
 | nil => intro t a; simp [tagL, addL]
 | cons b l ih => intro t a; simp only [List.cons_append, tagL, addL]; rw [ih]; simp
theorem tagL_len (l : List At) : ∀ t : TB, (tagL t l).length = 2 * l.length := by
 induction l with
 | nil => intro t; rfl
 | cons b l ih => intro t; simp only [tagL, List.length_append, ih, tagA, List.length_cons, List.length_nil]; omega
def TExt (t u : TB) : Prop := (∃ r, u.1 = t.1 ++ r) ∧ ∃ r, u.2 = t.2 ++ r
theorem TExt.refl (t : TB) : TExt t t := ⟨⟨[], by simp⟩, ⟨[], by simp⟩⟩
theorem TExt.trans {t u v : TB} (h : TExt t u) (k : TExt u v) : TExt t v := by
 obtain ⟨⟨a, ha⟩, ⟨b, hb⟩⟩ := h; obtain ⟨⟨c, hc⟩, ⟨d, hd⟩⟩ := k; exact ⟨⟨a ++ c, by rw [hc, ha, List.append_assoc]⟩, ⟨b ++ d, by rw [hd, hb, List.append_assoc]⟩⟩
theorem TExt.addA (t : TB) (a : At) : TExt t (addA t a) := ⟨plc_ext _ _, plc_ext _ _⟩
theorem TExt.addL (l : List At) : ∀ t : TB, TExt t (addL t l) := by
 induction l with
 | nil => intro t; exact TExt.refl t
 | cons a l ih => intro t; exact (TExt.addA t a).trans (ih _)
theorem TExt.get1 {t u : TB} (h : TExt t u) {i : Nat} {x : ByteArray} (hi : t.1[i]? = some x) : u.1[i]? = some x := by
 obtain ⟨⟨r, hr⟩, -⟩ := h; rw [hr, List.getElem?_append_left (List.getElem?_eq_some_iff.1 hi).1, hi]
theorem TExt.get2 {t u : TB} (h : TExt t u) {i : Nat} {x : VV} (hi : t.2[i]? = some x) : u.2[i]? = some x := by
 obtain ⟨-, ⟨r, hr⟩⟩ := h; rw [hr, List.getElem?_append_left (List.getElem?_eq_some_iff.1 hi).1, hi]
def TagsOf (u : TB) (tags : List Int) (l : List At) : Prop :=
 tags.length = 2 * l.length ∧ ∀ i, ∀ h : i < l.length, ∃ k v : Nat, tags[2 * i]? = some (k : Int) ∧ tags[2 * i + 1]? = some (v : Int) ∧ u.1[k]? = some l[i].key ∧ u.2[v]? = some l[i].vv
theorem tagsOf_addL (l : List At) : ∀ (t u : TB), TExt (addL t l) u → TagsOf u (tagL t l) l := by
 induction l with
 | nil => intro t u h; exact ⟨rfl, fun i hi => by simp at hi⟩
 | cons a l ih =>
  intro t u h; have h2 := ih (addA t a) u h; refine ⟨tagL_len _ _, fun i hi => ?_⟩
  cases i with
  | zero =>
   have hx := (TExt.addL l (addA t a)).trans h; refine ⟨(plc t.1 a.key).2, (plc t.2 a.vv).2, rfl, rfl, hx.get1 (plc_at _ _).1, hx.get2 (plc_at _ _).1⟩
  | succ i =>
   obtain ⟨k, v, h3, h4, h5, h6⟩ := h2.2 i (by simpa using hi); refine ⟨k, v, ?_, ?_, h5, h6⟩
   ·have : 2 * (i + 1) = 2 * i + 2 := by omega
    rw [this]; simp only [tagL, tagA, List.cons_append, List.nil_append, List.getElem?_cons_succ]; exact h3
   ·have : 2 * (i + 1) + 1 = (2 * i + 1) + 2 := by omega
    rw [this]; simp only [tagL, tagA, List.cons_append, List.nil_append, List.getElem?_cons_succ]; exact h4
def TbOk (t : TB) : Prop := t.1.Nodup ∧ (∀ k ∈ t.1, nameF k = true) ∧ t.2.Nodup ∧ ∀ v ∈ t.2, vE v = 0
theorem TbOk.nil : TbOk ([], []) := ⟨by simp, by simp, by simp, by simp⟩
theorem TbOk.addA {t : TB} (h : TbOk t) {a : At} (h1 : nameF a.key = true) (h2 : vE a.vv = 0) : TbOk (addA t a) :=
 ⟨plc_nodup _ _ h.1, plc_mem _ _ h.2.1 h1, plc_nodup _ _ h.2.2.1, plc_mem _ _ h.2.2.2 h2⟩
theorem TbOk.addL (l : List At) : ∀ {t : TB}, TbOk t → (∀ a ∈ l, nameF a.key = true ∧ vE a.vv = 0) → TbOk (addL t l) := by
 induction l with
 | nil => intro t h _; exact h
 | cons a l ih => intro t h hl; exact ih (h.addA (hl a (by simp)).1 (hl a (by simp)).2) (fun b hb => hl b (by simp [hb]))
theorem addL_len (l : List At) : ∀ t : TB, (addL t l).1.length ≤ t.1.length + l.length ∧ (addL t l).2.length ≤ t.2.length + l.length := by
 induction l with
 | nil => intro t; exact ⟨by simp [addL], by simp [addL]⟩
 | cons a l ih =>
  intro t; have h := ih (addA t a); have h1 := plc_len t.1 a.key; have h2 := plc_len t.2 a.vv; simp only [addL, List.length_cons, addA] at h ⊢; omega
theorem tcGo_zero : ∀ (l : List At) (met : List (List UInt8)), tcGo met l = 0 → (∀ a ∈ l, nameF a.key = true ∧ vE a.vv = 0 ∧ a.key.data.toList ∉ met) ∧ (l.map (·.key.data.toList)).Nodup
 | [], _, _ => ⟨by simp, by simp⟩
 | a :: l, met, h => by
  unfold tcGo at h
  split at h
  ·cases h
  ·rename_i h1
   split at h
   ·rename_i h2; exact absurd h h2
   ·rename_i h2
    split at h
    ·cases h
    ·rename_i h3; obtain ⟨h4, h5⟩ := tcGo_zero l _ h; refine ⟨fun b hb => ?_, ?_⟩
     ·rcases List.mem_cons.1 hb with rfl | hb
      ·exact ⟨by simpa using h1, by simpa [vE, At.vv] using h2, h3⟩
      ·obtain ⟨g1, g2, g3⟩ := h4 b hb; exact ⟨g1, g2, fun hm => g3 (List.mem_cons_of_mem _ hm)⟩
     ·rw [List.map_cons, List.nodup_cons]; refine ⟨fun hm => ?_, h5⟩; obtain ⟨b, hb, he⟩ := List.mem_map.1 hm; exact (h4 b hb).2.2 (by rw [he]; simp)
theorem tcF_zero (l : List At) (h : tcF l = 0) : l.length ≤ 8 ∧ (∀ a ∈ l, nameF a.key = true ∧ vE a.vv = 0) ∧ (l.map (·.key.data.toList)).Nodup := by
 unfold tcF at h
 split at h
 ·cases h
 ·obtain ⟨h1, h2⟩ := tcGo_zero l [] h; exact ⟨by omega, fun a ha => ⟨(h1 a ha).1, (h1 a ha).2.1⟩, h2⟩
end Go
namespace Go
section
variable {α : Type} [DecidableEq α]
theorem idx_found : ∀ {l : List α} {x : α} {k : Nat} (hk : k < l.length), x ∉ l.take k → l[k] = x → x ∈ l ∧ l.idxOf x = k
 | [], x, k, hk, _, _ => by simp at hk
 | y :: l, x, 0, hk, _, he => by simp at he; subst he; simp
 | y :: l, x, k + 1, hk, h, he => by
  simp only [List.take_succ_cons, List.mem_cons, not_or] at h; obtain ⟨h1, h2⟩ := idx_found (l := l) (x := x) (k := k) (by simpa using hk) h.2 (by simpa using he); refine ⟨List.mem_cons_of_mem _ h1, ?_⟩; rw [List.idxOf_cons]; have : (y == x) = false := by simpa using fun e => h.1 e.symm
  rw [this]; simp [h2]
omit [DecidableEq α] in
theorem idx_more {l : List α} {x : α} {k : Nat} (hk : k < l.length) (h : x ∉ l.take k) (he : l[k] ≠ x) : x ∉ l.take (k + 1) := by
 rw [List.take_succ_eq_append_getElem hk]; simp only [List.mem_append, List.mem_singleton, not_or]; exact ⟨h, fun e => he e.symm⟩
end
end Go
namespace Go
open Go.RowKit
theorem wp_app_full {P : Program} (w : World) {o : Oper} {a : Act} {K : Act → World → Prop} {Q : Exit → Act → World → Prop} (s x : Operand) (t : TypeId)
  (hop : o.op = .call { callee := .builtin .append, args := #[s, x], argTypes := #[t, t] })
  (e : TypeId) (z : Value) (size bytes : Nat) (ht : P.underlying t = some (.slice e)) (hinfo : (P.info? e).map (fun i => (i.zero, i.size, i.bytes)) = some (some z, size, bytes)) (hzs : z.cells.size = size) (hsz : 0 < size)
  (ao : Option Addr) (n cap : Nat) (olds : List Value) (hs : a.eval s = .slice ao n cap) (hnone : ao = none → n = 0 ∧ cap = 0) (hlo : olds.length = n * size) (holds : Rd w ao olds)
  (ad : Addr) (m c : Nat) (news : List Value) (hx : a.eval x = .slice (some ad) m c) (hn : news.length = m * size) (hc : Rd w (some ad) news) (h1c : ∀ u ∈ news, u.oneCell' = true)
  (hfull : cap < n + m) (b1 : n + m ≤ maxLen) (b2 : (n + m) * bytes ≤ 140737488355328)
  (hK : ∀ v' w', w'.ownsRow w.heap.size e size v' (n + m) (olds ++ news) → Below w.heap.size w w' → K (a.put o.dst v') w') : o.wp P a w K Q := by
 obtain ⟨i, hi, hz, hsize, hby⟩ := info_parts hinfo; have hbw : ∀ {w' : World}, w.grownBy w' none → Below w.heap.size w w' := fun h => ⟨h.os, h.tape, h.output, h.size, fun k hk => h.block k hk (by simp)⟩
 cases ao with
 | some b =>
  obtain ⟨v', w', hrun, r1, r2⟩ := run_append_arg_grows (P := P) w t o.type e i z size bytes ht hi hz hsize hby hzs hsz b n cap olds hlo holds.add ad m c news hn hc.add hfull b1 b2; unfold Oper.wp; simp [execOp, hop, resolve, invoke, builtin, hs, hx, hrun, Result.andThen]; exact hK _ _ r1 (hbw r2)
 | none =>
  obtain ⟨rfl, rfl⟩ := hnone rfl; obtain rfl : olds = [] := List.eq_nil_of_length_eq_zero (by simpa using hlo); obtain ⟨v', w', hrun, r1, r2, _⟩ := run_append_own (P := P) w w.heap.size t o.type e i z size bytes ht hi hz hsize hby hzs hsz (.slice none 0 0) 0 [] (World.ownsRow_nil w _ e size) ad m c news hn hc.add h1c b1 b2 (Nat.le_refl _); unfold Oper.wp; simp [execOp, hop, resolve, invoke, builtin, hs, hx, hrun, Result.andThen]; exact hK _ _ r1 (hbw r2)
theorem wpList_app_full {P : Program} (w : World) {ops : Array Oper} {rest : List Oper} {o : Oper} {a : Act} {Q : Exit → Act → World → Prop} (hgd : o.guard = none) (s x : Operand) (t : TypeId)
  (hop : o.op = .call { callee := .builtin .append, args := #[s, x], argTypes := #[t, t] })
  (e : TypeId) (z : Value) (size bytes : Nat) (ht : P.underlying t = some (.slice e)) (hinfo : (P.info? e).map (fun i => (i.zero, i.size, i.bytes)) = some (some z, size, bytes)) (hzs : z.cells.size = size) (hsz : 0 < size)
  (ao : Option Addr) (n cap : Nat) (olds : List Value) (hs : a.eval s = .slice ao n cap) (hnone : ao = none → n = 0 ∧ cap = 0) (hlo : olds.length = n * size) (holds : Rd w ao olds)
  (ad : Addr) (m c : Nat) (news : List Value) (hx : a.eval x = .slice (some ad) m c) (hn : news.length = m * size) (hc : Rd w (some ad) news) (h1c : ∀ u ∈ news, u.oneCell' = true)
  (hfull : cap < n + m) (b1 : n + m ≤ maxLen) (b2 : (n + m) * bytes ≤ 140737488355328)
  (hK : ∀ v' w', w'.ownsRow w.heap.size e size v' (n + m) (olds ++ news) → Below w.heap.size w w' → wpList P ops Q rest (a.put o.dst v') w') : wpList P ops Q (o :: rest) a w :=
 wpList_plain hgd fun K hK' => wp_app_full w s x t hop e z size bytes ht hinfo hzs hsz ao n cap olds hs hnone hlo holds ad m c news hx hn hc h1c hfull b1 b2 (fun v' w' h1 h2 => hK' _ _ (hK v' w' h1 h2))
end Go
namespace Go
open Go.RowKit
section
variable {P : Program} {ops : Array Oper} {lt : Nat → Bool} {Q : Exit → Act → World → Prop} {S : World → Prop}

def wpSched (P : Program) (ops : Array Oper) (lt : Nat → Bool) (Q : Exit → Act → World → Prop) (S : World → Prop) : Nat → Array Bool → Act → World → Prop
 | 0, listed, a, w => Region.ready .any ops listed = [] ∧ Q .normal a w
 | f + 1, listed, a, w =>
  match (Region.ready .any ops listed).find? lt with
  | some j => Region.free .any ops listed j = true ∧ ∃ o v, ops[j]? = some o ∧ YieldsIf P ops S o v a ∧ S w ∧ wpSched P ops lt Q S f (listed.setIfInBounds j true) (a.put o.dst v) w
  | none => (Region.ready .any ops listed = [] → Q .normal a w) ∧
   ∀ i ∈ Region.ready .any ops listed, wpOp P ops Q i (fun a' w' => S w' ∧ wpSched P ops lt Q S f (listed.setIfInBounds i true) a' w') a w

theorem wpSched_sound (hs : Region.noSelect ops = true) (hQ : ∀ c a w, ¬ Q (.panic c) a w) : ∀ (f : Nat) (listed : Array Bool) (a : Act) (w : World),
  wpSched P ops lt Q S f listed a w → wpAnyZ P .any ops Q S none f listed a w := by
 intro f
 induction f with
 | zero => intro listed a w h; exact wpAnyZ_done h.1 h.2 0
 | succ f ih =>
  intro listed a w h; unfold wpSched at h
  cases hf : (Region.ready .any ops listed).find? lt with
  | some j =>
   rw [hf] at h; simp only at h; obtain ⟨h1, o, v, ho, hy, hS, h2⟩ := h; have hr : (Region.ready .any ops listed).contains j = true := by
    have := List.mem_of_find?_eq_some hf
    simpa using this
   exact wpAnyZ_take rfl ho hs (fun c a w h => absurd h (hQ c _ w)) f listed a w h1 hr hy hS (ih _ _ _ h2)
  | none =>
   rw [hf] at h; simp only at h; exact ⟨h.1, fun i hi => wpOp_mono (fun a' w' h' => ⟨fun _ => h'.1, ih _ _ _ h'.2⟩) (h.2 i hi)⟩

theorem sched_light {f : Nat} {listed : Array Bool} {a : Act} {w : World} (j : Nat) (o : Oper) (v : Value) (hr : (Region.ready .any ops listed).find? lt = some j) (hf : Region.free .any ops listed j = true) (ho : ops[j]? = some o)
  (hw : Region.wanted o (yielded ops a.tmps) = true) (hv : ∀ w', S w' → (execOp a.eval o).run P w' = .ok (.value v) w') (hS : S w) (h : wpSched P ops lt Q S f (listed.setIfInBounds j true) (a.put o.dst v) w) : wpSched P ops lt Q S (f + 1) listed a w := by
 unfold wpSched; rw [hr]; exact ⟨hf, o, v, ho, .inl ⟨hw, hv⟩, hS, h⟩
theorem sched_fork {f : Nat} {listed : Array Bool} {a : Act} {w : World} (rs : List Nat) (hr : Region.ready .any ops listed = rs) (hl : rs.find? lt = none) (hne : rs ≠ [])
  (h : ∀ i ∈ rs, wpOp P ops Q i (fun a' w' => S w' ∧ wpSched P ops lt Q S f (listed.setIfInBounds i true) a' w') a w) : wpSched P ops lt Q S (f + 1) listed a w := by
 unfold wpSched; rw [hr, hl]; exact ⟨fun h0 => absurd h0 hne, h⟩
theorem sched_heavy {f : Nat} {listed : Array Bool} {a : Act} {w : World} (i : Nat) (o : Oper) (ho : ops[i]? = some o) (hw : Region.wanted o (yielded ops a.tmps) = true)
  (h : ∀ K : Act → World → Prop, Hid (∀ a w, S w → wpSched P ops lt Q S f (listed.setIfInBounds i true) a w → K a w) → o.wp P a w K Q) :
  wpOp P ops Q i (fun a' w' => S w' ∧ wpSched P ops lt Q S f (listed.setIfInBounds i true) a' w') a w := by
 unfold wpOp; simp only [ho]; rw [if_pos hw]; exact .inl (h _ (fun a w h1 h2 => ⟨h1, h2⟩))
theorem sched_done {listed : Array Bool} {a : Act} {w : World} (hr : Region.ready .any ops listed = []) (h : Q .normal a w) : wpSched P ops lt Q S 0 listed a w := ⟨hr, h⟩

theorem sched_end {listed : Array Bool} {a : Act} {w : World} (hr : Region.ready .any ops listed = []) (h : Q .normal a w) : wpSched P ops lt (OnlyQ Q) S 0 listed a w := sched_done hr h

theorem wp_region_sched {id : Nat} {a : Act} {w : World} (n : Nat) (lts : List Nat) (S : World → Prop) (hn : ops.size = n) (hm : P.follows .mixedOrders = true) (hs : Region.noSelect ops = true)
  (h : wpSched P ops (lts.contains ·) (OnlyQ Q) S n (Array.replicate n false) a w.drew) : (Code.region id ops true).wp P Q a w := by
 subst hn; refine Code.wp_mono OnlyQ.imp ?_; refine wp_region_any hm (wpAny_of_Z (S := S) (z := none) _ _ _ _ ?_); exact wpSched_sound hs (fun c a w h => h) _ _ _ _ h
end
attribute [irreducible] wpSched
end Go
