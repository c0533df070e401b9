/-
  Features of our own: what keeps them readable; rows of points behind values as rings. All blocks of a first world but some lie as they lay. mvt.readTags: of right tags. mvt.plain, mvt.single: of fields that are right. mvt.named, mvt.check.
-/
import Derived.Test.YtjggoajfilnfjaaGreatPk18
import Derived.Test.YtjggoajfilnfjaaGreatPk19
import Derived.Test.YtjggoajfilnfjaaGreatPk16
import Derived.Test.YtjggoajfilnfjaaGreatPk15
import Derived.Test.YtjggoajfilnfjaaGreatPk7
import Derived.Test.YtjggoajfilnfjaaGreatPk17
import Derived.Test.YtjggoajfilnfjaaGreatPk14
set_option linter.unusedVariables false
set_option linter.unusedSimpArgs false
namespace Go
open Go.RowKit
def ByT (W : World) (base : Nat) (a : Option Addr) (T : TypeId) : Prop := TypB W a T ∧ ∀ b, a.map (·.block) = some b → base ≤ b
theorem ByT.of_owns {W : World} {base : Nat} {e : TypeId} {size n c m : Nat} {a : Option Addr} {xs : List Value} (h : W.ownsRow base e size (.slice a n c) m xs) : ByT W base a e := by
 refine ⟨typB_owns h, ?_⟩; obtain ⟨a2, c2, e2, -, -, -, -, h2⟩ := h.form
 cases e2
 exact fun b hb => (h2 b hb).1
theorem ByT.mono {W : World} {base base' : Nat} {a : Option Addr} {T : TypeId} (h : ByT W base a T) (hb : base' ≤ base) : ByT W base' a T := ⟨h.1, fun b hx => Nat.le_trans hb (h.2 b hx)⟩
theorem ByT.below {W W' : World} {base : Nat} {a : Option Addr} {T : TypeId} (h : ByT W base a T) (hb : Below W.heap.size W W') : ByT W' base a T := ⟨typB_below h.1 hb, h.2⟩
def Off (W : World) (base : Nat) (Ts : List TypeId) (r : Option Nat) : Prop := ∀ (b : Nat) (cs : Array Value) (T : TypeId) (fr : Nat × Nat), W.heap[b]? = some (.cells cs T fr) → T ∈ Ts → base ≤ b → some b ≠ r
theorem Off.low {W : World} {base R : Nat} {Ts : List TypeId} (h : R < base) : Off W base Ts (some R) := fun b _ _ _ _ _ hb e => by
 have := Option.some.inj e; omega
theorem Off.row {W : World} {base base2 : Nat} {Ts : List TypeId} {e : TypeId} {size n : Nat} {v : Value} {xs : List Value} (ho : W.ownsRow base2 e size v n xs) (he : e ∉ Ts) : Off W base Ts v.ownBlock := fun b cs T fr hc hT _ hx => by
 rcases ho.2 with ⟨rfl, _⟩ | ⟨g, cap, cur, rfl, _, hgb, _⟩
 ·cases hx
 ·obtain rfl : b = g := by simpa [Value.ownBlock] using hx
  rw [hgb] at hc
  cases hc
  exact he hT
theorem Off.walk {W : World} {base : Nat} {Ts : List TypeId} {r : Option Nat} (h : ∀ k, r = some k → ∃ o : Obj, W.heap[k]? = some o ∧ o.isCells = false) : Off W base Ts r := fun b cs T fr hc _ _ hx => by
 obtain ⟨o, ho, hi⟩ := h b hx.symm; rw [hc] at ho
 cases ho
 cases hi
theorem Off.none {W : World} {base : Nat} {Ts : List TypeId} : Off W base Ts none := fun _ _ _ _ _ _ _ h => by cases h
theorem ByT.ne {W : World} {base : Nat} {a : Option Addr} {T : TypeId} {Ts : List TypeId} {r : Option Nat} (h : ByT W base a T) (ho : Off W base Ts r) (hT : T ∈ Ts) : ∀ b, a.map (·.block) = some b → some b ≠ r := fun b hb => by
 obtain ⟨cs, fr, hc⟩ := h.1 b hb; exact ho b cs T fr hc hT (h.2 b hb)
theorem ByT.gr {W W' : World} {base : Nat} {a : Option Addr} {T : TypeId} {Ts : List TypeId} {r : Option Nat} (h : ByT W base a T) (hg : W.grownBy W' r) (ho : Off W base Ts r) (hT : T ∈ Ts) : ByT W' base a T := ⟨typB_grown h.1 hg (h.ne ho hT), h.2⟩
end Go
namespace Go.Proofs.YtjggoajfilnfjaaGreat
open Go.RowKit
def FtT (base : Nat) (W : World) (f : Ft) : Prop := f.Ok W ∧ ByT W base f.aa 103 ∧ ByT W base f.ra 80 ∧ ∀ r ∈ f.rs, ByT W base r.p 79
def ftTs : List TypeId := [103, 80, 79]
theorem FtT.mono {base base' : Nat} {W : World} {f : Ft} (h : FtT base W f) (hb : base' ≤ base) : FtT base' W f := ⟨h.1, h.2.1.mono hb, h.2.2.1.mono hb, fun r hr => (h.2.2.2 r hr).mono hb⟩
theorem FtT.below {base : Nat} {W W' : World} {f : Ft} (h : FtT base W f) (hb : Below W.heap.size W W') : FtT base W' f := ⟨h.1.keep hb, h.2.1.below hb, h.2.2.1.below hb, fun r hr => (h.2.2.2 r hr).below hb⟩
theorem FtT.gr {base : Nat} {W W' : World} {f : Ft} {r : Option Nat} (h : FtT base W f) (hg : W.grownBy W' r) (ho : Off W base ftTs r) : FtT base W' f := by
 obtain ⟨⟨⟨h1, h1'⟩, ⟨h2, h2'⟩, h3⟩, h4, h5, h6⟩ := h; refine ⟨⟨⟨h1.grown hg (h4.ne ho (by simp [ftTs])), h1'⟩, ⟨h2.grown hg (h5.ne ho (by simp [ftTs])), h2'⟩, fun x hx => ?_⟩, h4.gr hg ho (by simp [ftTs]), h5.gr hg ho (by simp [ftTs]), fun x hx => (h6 x hx).gr hg ho (by simp [ftTs])⟩; exact ⟨(h3 x hx).1.grown hg ((h6 x hx).ne ho (by simp [ftTs])), (h3 x hx).2⟩
theorem inP_pcs {H : Nat} {W : World} : ∀ {vals : List Value} {G : List (List Pt)}, InP 79 H W vals G → ∃ rs : List PC, vals = rcs rs ∧ rs.map (·.l) = G ∧ ∀ r ∈ rs, r.Ok W ∧ ByT W H r.p 79
 | [], [], _ => ⟨[], rfl, rfl, by simp⟩
 | [], _ :: _, h => by have := h.1; simp at this
 | _ :: _, [], h => by have := h.1; simp at this
 | v :: vals, g :: G, h => by
  obtain ⟨rs, h1, h2, h3⟩ := inP_pcs (vals := vals) (G := G) (W := W) (H := H) ⟨by simpa using h.1, fun j u k hu hk => h.2 (j + 1) u k (by simpa using hu) (by simpa using hk)⟩; have ho := h.2 0 v g rfl rfl; obtain ⟨a, c, rfl, p1, p2, p3, p4, -⟩ := ho.form; refine ⟨⟨g, a, c⟩ :: rs, by rw [h1]; rfl, by simp [h2], fun r hr => ?_⟩
  rcases List.mem_cons.1 hr with rfl | hr
  ·exact ⟨⟨p4, p1, p2, p3⟩, ByT.of_owns ho⟩
  ·exact h3 r hr
end Go.Proofs.YtjggoajfilnfjaaGreat
namespace Go
open Go.RowKit
def KB (S : List Nat) (A B : World) : Prop := A.heap.size ≤ B.heap.size ∧ (B.os = A.os ∧ B.tape = A.tape ∧ B.output = A.output) ∧ ∀ k, k < A.heap.size → k ∉ S → B.heap[k]? = A.heap[k]?
theorem KB.refl (S : List Nat) (A : World) : KB S A A := ⟨Nat.le_refl _, ⟨rfl, rfl, rfl⟩, fun _ _ _ => rfl⟩
theorem KB.step {S : List Nat} {W0 A B : World} {r : Option Nat} (h : KB S W0 A) (hg : A.grownBy B r) (hr : ∀ k, r = some k → W0.heap.size ≤ k ∨ k ∈ S) : KB S W0 B :=
 ⟨Nat.le_trans h.1 hg.size, ⟨hg.os.trans h.2.1.1, hg.tape.trans h.2.1.2.1, hg.output.trans h.2.1.2.2⟩, fun k hk hn => (hg.block k (Nat.lt_of_lt_of_le hk h.1) (fun e => by
  rcases hr k e.symm with h1 | h1
  ·omega
  ·exact hn h1)).trans (h.2.2 k hk hn)⟩
theorem KB.below {S : List Nat} {w W0 B : World} (h : KB S W0 B) (h0 : Below w.heap.size w W0) (hS : ∀ k ∈ S, w.heap.size ≤ k) : Below w.heap.size w B :=
 ⟨h.2.1.1.trans h0.os, h.2.1.2.1.trans h0.tape, h.2.1.2.2.trans h0.output, Nat.le_trans h0.size h.1, fun k hk => (h.2.2 k (Nat.lt_of_lt_of_le hk h0.size) (fun hm => by have := hS k hm; omega)).trans (h0.block k hk)⟩
theorem KB.blk {S : List Nat} {W0 B : World} {b : Nat} {vs : List Value} (h : KB S W0 B) (hb : Blk W0 b vs) (hn : b ∉ S) : Blk B b vs := hb.of_block (h.2.2 b hb.lt hn)
theorem KB.boxed {S : List Nat} {W0 B : World} {b : Nat} {t : TypeId} {v : Value} (h : KB S W0 B) (hb : Boxed W0 b t v) (hn : b ∉ S) : Boxed B b t v := (h.2.2 b hb.lt hn).trans hb
theorem KB.rd {S : List Nat} {W0 B : World} {a : Option Addr} {vs : List Value} (h : KB S W0 B) (hr : Rd W0 a vs) (hne : ∀ b, a.map (·.block) = some b → b ∉ S) : Rd B a vs := by
 rcases hr with he | ⟨b, off, rfl, hc⟩
 ·exact .inl he
 ·refine .inr ⟨b, off, rfl, fun i v hv => ?_⟩; have hl := hc i v hv; have hb : b < W0.heap.size := by
   unfold World.cell? at hl; dsimp only at hl
   rcases hx : W0.heap[b]? with _ | o
   ·rw [hx] at hl; cases hl
   ·exact (Array.getElem?_eq_some_iff.1 hx).1
  have hbk := h.2.2 b hb (hne b rfl); unfold World.cell? at hl ⊢; dsimp only at hl ⊢; rw [hbk]; exact hl
theorem KB.own {β : Type} (S : List Nat) (W0 : World) : OwnFrom W0.heap.size (fun (_ : β) W => KB S W0 W) :=
 fun _ _ _ _ hs hg hr => hs.step hg (fun k e => .inl (hr k e).1)
theorem KB.kpf {a : Option Addr} {L : List FC} {Bn Bm : Nat} {S : List Nat} {W0 A B : World} (hA : KB S W0 A) (hB : KB S W0 B) (hr : Rd B a (flat L)) (hn : Bn < W0.heap.size) (hm : Bm < W0.heap.size) (h1 : Bn ∉ S) (h2 : Bm ∉ S) : KpF a L Bn Bm A B :=
 ⟨fun _ => hr, (hB.2.2 Bn hn h1).trans (hA.2.2 Bn hn h1).symm, (hB.2.2 Bm hm h2).trans (hA.2.2 Bm hm h2).symm⟩
theorem owns_own {β : Type} {B base : Nat} {e : TypeId} {size : Nat} {v : β → Value} {n : β → Nat} {xs : β → List Value} : OwnFrom B (fun s W => W.ownsRow base e size (v s) (n s) (xs s)) := by
 intro s X Y row h2 hg hr; refine h2.kept hg ?_
 rcases h2.2 with ⟨h, _⟩ | ⟨g, cap, cur, h, _, hgb, _⟩
 ·rw [h]; exact .inl rfl
 ·refine .inr fun e' => ?_; rw [h] at e'; obtain ⟨o, ho, hc⟩ := (hr g (by simpa [Value.ownBlock] using e'.symm)).2; rw [hgb] at ho
  cases ho
  cases hc
end Go
namespace Go
open Go.RowKit
def BkT (W : World) (b : Nat) (T : TypeId) (vs : List Value) : Prop := W.heap[b]? = some (.cells vs.toArray T (0, 0))
section
variable {W W' : World} {b : Nat} {T : TypeId} {vs : List Value}
theorem BkT.blk (h : BkT W b T vs) : Blk W b vs := ⟨T, h⟩
theorem BkT.lt (h : BkT W b T vs) : b < W.heap.size := h.blk.lt
theorem BkT.lit (w : World) (b : Nat) (vs : List Value) (T : TypeId) (hb : w.heap.size = b) : BkT (w.alloc (.cells vs.toArray T)) b T vs := by subst hb; exact heap_alloc_new w _
theorem BkT.of_block (h : BkT W b T vs) (hb : W'.heap[b]? = W.heap[b]?) : BkT W' b T vs := hb.trans h
theorem BkT.keep (h : BkT W b T vs) (hb : Below W.heap.size W W') : BkT W' b T vs := h.of_block (hb.block b h.lt)
theorem BkT.alloc (h : BkT W b T vs) (o : Obj) : BkT (W.alloc o) b T vs := h.of_block (heap_alloc_old W o h.lt)
theorem BkT.grown {r : Option Nat} (h : BkT W b T vs) (hg : W.grownBy W' r) (hne : some b ≠ r) : BkT W' b T vs := h.of_block (hg.block b h.lt hne)
theorem BkT.other (h : BkT W b T vs) {b' o : Nat} (hp : b ≠ b') (u : Value) : BkT (W.setCell ⟨b', o, none⟩ u) b T vs := h.of_block (Below.heap_setCell _ ⟨b', o, none⟩ _ _ hp)
theorem BkT.set (h : BkT W b T vs) (i : Nat) (u : Value) : BkT (W.setCell ⟨b, i, none⟩ u) b T (vs.set i u) := by
 have h2 : W.heap[b]? = some (.cells vs.toArray T (0, 0)) := h; have hl := h.lt; unfold BkT; simp [World.setCell, Array.getElem?_modify, h2]
end
end Go
namespace Go.Proofs.YtjggoajfilnfjaaGreat
open Go.RowKit
theorem Lies.below {W W' : World} {x : FC} (h : Lies W x) (hb : Below W.heap.size W W') : Lies W' x := ⟨h.1.keep hb, fun b hx => by
 obtain ⟨cs, fr, hc⟩ := h.2 b hx; exact ⟨cs, fr, (hb.block b (Array.getElem?_eq_some_iff.1 hc).1).trans hc⟩⟩
theorem Lies.set {W : World} {x : FC} (h : Lies W x) {R o : Nat} {T : TypeId} {vs : List Value} {u : Value} (hb : BkT W R T vs) (hT : T ≠ 5) : Lies (W.setCell ⟨R, o, none⟩ u) x := by
 have hne : ∀ b, x.p.map (·.block) = some b → b ≠ R := fun b hx e => by
  obtain ⟨cs, fr, hc⟩ := h.2 b hx; have h2 : W.heap[R]? = some (.cells vs.toArray T (0, 0)) := hb; rw [e, h2] at hc
  cases hc
  exact hT rfl
 exact ⟨⟨h.1.1.set_off hne, h.1.2⟩, fun b hx => (h.2 b hx).set_at (hne b hx) u⟩
def LF (base : Nat) (la : Option Addr) (lc : Nat) (L : List FC) (W : World) : Prop := W.ownsRow base 72 4 (.slice la L.length lc) L.length (flat L) ∧ ∀ x ∈ L, Lies W x
theorem LF.below {base : Nat} {la : Option Addr} {lc : Nat} {L : List FC} {W W' : World} (h : LF base la lc L W) (hb : Below W.heap.size W W') : LF base la lc L W' := ⟨h.1.below hb, fun x hx => (h.2 x hx).below hb⟩
theorem LF.set {base : Nat} {la : Option Addr} {lc : Nat} {L : List FC} {W : World} (h : LF base la lc L W) {R : Nat} (o : Nat) {T : TypeId} {vs : List Value} (u : Value) (hb : BkT W R T vs) (hT : T ≠ 5) (hT2 : T ≠ 72) : LF base la lc L (W.setCell ⟨R, o, none⟩ u) := by
 refine ⟨h.1.set_ne (p := ⟨R, o, none⟩) (fun e => ?_) u, fun x hx => (h.2 x hx).set hb hT⟩; have h2 : W.heap[R]? = some (.cells vs.toArray T (0, 0)) := hb
 rcases h.1.2 with ⟨hv, _⟩ | ⟨g, cap, cur, hv, _, hgb, _⟩
 ·rw [hv] at e; cases e
 ·rw [hv] at e; obtain rfl : g = R := by simpa [Value.ownBlock] using e
  rw [h2] at hgb
  cases hgb
  exact hT2 rfl
theorem LF.rd {base : Nat} {la : Option Addr} {lc : Nat} {L : List FC} {W : World} (h : LF base la lc L W) : Rd W la (flat L) := Rd.of_owns h.1
theorem LF.ok {base : Nat} {la : Option Addr} {lc : Nat} {L : List FC} {W : World} (h : LF base la lc L W) : ∀ x ∈ L, x.Ok W := fun x hx => (h.2 x hx).1
end Go.Proofs.YtjggoajfilnfjaaGreat
set_option maxRecDepth 100000
namespace Go.Proofs.YtjggoajfilnfjaaGreat
open Go.RowKit Go.Vint
set_option maxHeartbeats 12800000 in
theorem rtags_ok (B : Nat) (kp : Option Addr) (kc : Nat) (vp : Option Addr) (vc : Nat) (t : TB) (a : Option Addr) (c : Nat) (L : List Int) (ls : List At) (hT : TagsOf t L ls) (hn : ls.length ≤ 8) (hnd : (ls.map (·.key.data.toList)).Nodup) (hks : ∀ k ∈ t.1, k.size ≤ maxLen) (hl : t.1.length ≤ 1000 ∧ t.2.length ≤ 1000)
  (hL : ∀ x ∈ L, 0 ≤ x ∧ x ≤ 2147483648) (hc : (vbs L).length ≤ c) (hcm : c ≤ maxLen) (w : World) (kB : Blk w B [.slice kp t.1.length kc, .slice vp t.2.length vc]) (hkr : Rd w kp (t.1.map Value.string)) (hvr : Rd w vp (vvs t.2)) (hr : Rd w a ((vbs L).map (Value.int .u8))) :
  Calls Tryz.prog 91 #[.slice a (vbs L).length c, .pointer (some ⟨B, 0, none⟩)] w fun e w' => ∃ v, e = .returned (.tuple #[v, .int .i64 0]) ∧ w'.ownsRow w.heap.size 103 4 v ls.length (ats ls) ∧ Below w.heap.size w w' := by
 have hLb : ∀ x ∈ L, 0 ≤ x ∧ x ≤ 18446744073709551615 := fun x hx => by have := hL x hx; omega
 have hvl := vbs_len L (fun x hx => (hLb x hx).2); have hll : L.length ≤ 16 := by have := hT.1; omega
 have hrow := vrow_any a c (vbs L) (vbs_bd L hLb) (by omega) hc hcm w hr; rw [row_vbs L hLb] at hrow; have HROW := Lib.hid hrow; have HA := Lib.hid (fun (W : World) (h : Below w.heap.size w W) (a : Option Addr) (c : Nat) (h2 : Rd W a (L.map (Value.int .i64))) => attrs_ok B kp kc vp vc t a c L ls hT hn hnd hks hl W (kB.keep h) (hkr.keep h) (hvr.keep h) h2); have HL := Lib.hid hL; generalize vbs L = BS at *; clear hrow hT hn hnd hks hl hL hc hcm kB hkr hvr hr hLb hvl
 go_enter Tryz.func91, Tryz.ntmps91
 go_wp2_with fail
 refine HROW.out.mono ?_; rintro e w1 ⟨⟨v, rfl, hown⟩, hb1⟩; dsimp only at *; obtain ⟨va, vc2, rfl, p1, p2, p3, hrv, -⟩ := hown.form; have HRV := Lib.hid hrv; obtain ⟨N, hN⟩ : ∃ N, L.length = N := ⟨_, rfl⟩; have HN := Lib.hid hN; have hs1 := hb1.size; rw [hN] at hll ⊢; clear hown hrv p1 p2 p3 hN HROW; go_wp2
 go_loopw [9, 23] (fun u9 i wr => ∃ k : Nat, k ≤ N ∧ i = .int .i64 k ∧ wr.ownsRow w1.heap.size 3 1 u9 k ((L.take k).map (Value.int .i64)) ∧ Below w1.heap.size w1 wr) (fun _ i _ => N - (intOf i).toNat)
 case atStart => exact ⟨0, by omega, rfl, by simpa using World.ownsRow_nil _ _ _ _, Below.refl _ _⟩
 case round =>
  obtain ⟨k, hk, rfl, ho, hbr⟩ := hrel; have hNl := HN.out
  by_cases hlt : k < N
  ·have hlt' : (k : Int) < (N : Int) := by omega
   have hkl : k < L.length := by omega
   obtain ⟨b1, o1, rfl, c0, -⟩ := (HRV.out.keep hbr).at (i := k) (v := .int .u64 L[k]) (by simp [hkl]); have hx := HL.out L[k] (List.getElem_mem hkl); have HTK : Hid ((L.take (k + 1)).map (Value.int .i64) = (L.take k).map (Value.int .i64) ++ [.int .i64 L[k]]) := Lib.hid (by rw [List.take_succ_eq_append_getElem hkl, List.map_append]; rfl); generalize L[k] = x at *; have hx0 : 0 ≤ x := hx.1; have hx1 : ¬ 2147483648 < x := by omega
   have hx2 : x ≤ 2147483648 := hx.2; clear hx
   go_wp2_with (at_builtin; go_must (refine wpList_appLit' w1 hbr rfl (.tmp 29) (.tmp 32) 106 rfl 3 (.int .i64 0) 1 8 Tryz.underlying106 Tryz.infoInt rfl (by decide) (by decide) u9 k ((L.take k).map (Value.int .i64)) rfl ho 1 1 [.int .i64 x] _ rfl rfl (by simp [Value.oneCell']) (by omega) ?_); intro v8 W8 ho8 hg8 hb8; clear ho hbr hg8)
   go_roundw
   case rel => exact ⟨k + 1, by omega, by go_num, by rw [HTK.out]; exact ho8, hb8⟩
   case measure => simp [intOf]; omega
  ·obtain rfl : k = N := by omega
   have hlt' : ¬ (k : Int) < (k : Int) := by omega
   rw [List.take_of_length_le (by omega)] at ho; obtain ⟨ta, tc, rfl, -, -, -, htr, -⟩ := ho.form; have hb2 := hb1.trans (hbr.mono hs1); have HA2 := Lib.hid (HA.out _ hb2 ta tc htr); rw [hNl] at HA2; clear ho htr hlt HA hNl
   go_wp2_with fail
   refine HA2.out.mono ?_; rintro e w3 ⟨v3, rfl, ho3, hx⟩; have hb3 := hb2.trans (hx.mono hb2.size); have ho4 := ho3.mono hb2.size; clear ho3 hx; go_wp2; exact bodyPost_ret (v := .tuple #[v3, .int .i64 0]) (by simp [results, Tryz.results91, go_sem]) rfl ⟨_, rfl, ho4, hb3⟩
end Go.Proofs.YtjggoajfilnfjaaGreat
namespace Go
open Go.RowKit Go.Proto
def MetA (n : Nat) (W : World) (M : Nat) (met : List Int) : Prop := ∃ bs : List Bool, bs.length = n ∧ Blk W M (bs.map Value.bool) ∧ ∀ i : Nat, i < n → bs[i]? = some (decide ((i : Int) ∈ met))
theorem MetA.lt {n : Nat} {W : World} {M : Nat} {met : List Int} (h : MetA n W M met) : M < W.heap.size := by obtain ⟨bs, h1, h2, h3⟩ := h; exact h2.lt
theorem MetA.keep {n : Nat} {W W' : World} {M : Nat} {met : List Int} (h : MetA n W M met) (hb : Below W.heap.size W W') : MetA n W' M met := by
 obtain ⟨bs, h1, h2, h3⟩ := h; exact ⟨bs, h1, h2.keep hb, h3⟩
theorem MetA.cell {n : Nat} {W : World} {M : Nat} {met : List Int} (h : MetA n W M met) (i : Nat) (hi : i < n) (b : Bool) (hb : decide ((i : Int) ∈ met) = b) : W.cell? ⟨M, i, none⟩ = some (.bool b) := by
 obtain ⟨bs, h1, h2, h3⟩ := h; refine h2.cell i ?_; rw [List.getElem?_map, h3 i hi, hb]
 rfl
theorem MetA.free {n : Nat} {W : World} {M : Nat} {met : List Int} (h : MetA n W M met) (i : Nat) : W.frozen? ⟨M, i, none⟩ = false := by
 obtain ⟨bs, h1, h2, h3⟩ := h; exact h2.free i
theorem MetA.set {n : Nat} {W : World} {M : Nat} {met : List Int} (h : MetA n W M met) (i : Nat) (z : Int) (hz : z = (i : Int)) : MetA n (W.setCell ⟨M, i, none⟩ (.bool true)) M (z :: met) := by
 obtain ⟨bs, h1, h2, h3⟩ := h; subst hz; refine ⟨bs.set i true, by rw [List.length_set]; exact h1, by rw [List.map_set]; exact h2.set i _, fun j hj => ?_⟩; rw [List.getElem?_set]
 by_cases e : i = j
 ·subst e; rw [if_pos rfl, if_pos (by omega)]; simp
 ·rw [if_neg e, h3 j hj]; have : ((j : Int) ∈ (i : Int) :: met) ↔ (j : Int) ∈ met := by
   rw [List.mem_cons]; exact ⟨fun h => h.resolve_left (by omega), .inr⟩
  rw [decide_eq_decide.2 this]
theorem plGo_cons {met : List Int} {f : Fld} {l : List Fld} (h : plGo met (f :: l) = 0) :
  ((f.num = 5 ∨ f.num = 15 ∨ f.num = 1) ∧ f.kind = (if f.num = 1 then 2 else 0) ∧ f.num ∉ met ∧ plGo (f.num :: met) l = 0) ∨
  ((f.num = 2 ∨ f.num = 3 ∨ f.num = 4) ∧ f.kind = 2 ∧ plGo (f.num :: met) l = 0) ∨
  ((f.num ≠ 5 ∧ f.num ≠ 15 ∧ f.num ≠ 1 ∧ f.num ≠ 2 ∧ f.num ≠ 3 ∧ f.num ≠ 4) ∧ plGo met l = 0) := by
 rw [plGo] at h
 by_cases h1 : f.num = 5 ∨ f.num = 15 ∨ f.num = 1
 ·rw [if_pos h1] at h
  by_cases h2 : f.kind ≠ (if f.num = 1 then 2 else 0)
  ·rw [if_pos h2] at h; exact absurd h (by decide)
  ·rw [if_neg h2] at h
   by_cases h3 : f.num ∈ met
   ·rw [if_pos h3] at h; exact absurd h (by decide)
   ·rw [if_neg h3] at h; exact .inl ⟨h1, Classical.not_not.1 h2, h3, h⟩
 ·rw [if_neg h1] at h
  by_cases h2 : f.num = 2 ∨ f.num = 3 ∨ f.num = 4
  ·rw [if_pos h2] at h
   by_cases h3 : f.kind ≠ 2
   ·rw [if_pos h3] at h; exact absurd h (by decide)
   ·rw [if_neg h3] at h; exact .inr (.inl ⟨h2, Classical.not_not.1 h3, h⟩)
  ·rw [if_neg h2] at h; exact .inr (.inr ⟨by omega, h⟩)
theorem sgGo_cons {met : List Int} {f : Fld} {l : List Fld} (h : sgGo met (f :: l) = 0) :
  ((f.num = 1 ∨ f.num = 3 ∨ f.num = 2 ∨ f.num = 4) ∧ f.kind = (if f.num = 1 ∨ f.num = 3 then 0 else 2) ∧ f.num ∉ met ∧ sgGo (f.num :: met) l = 0) ∨
  ((f.num ≠ 1 ∧ f.num ≠ 2 ∧ f.num ≠ 3 ∧ f.num ≠ 4) ∧ sgGo met l = 0) := by
 rw [sgGo] at h
 by_cases h1 : f.num = 1 ∨ f.num = 3 ∨ f.num = 2 ∨ f.num = 4
 ·rw [if_pos h1] at h
  by_cases h2 : f.kind ≠ (if f.num = 1 ∨ f.num = 3 then 0 else 2)
  ·rw [if_pos h2] at h; exact absurd h (by decide)
  ·rw [if_neg h2] at h
   by_cases h3 : f.num ∈ met
   ·rw [if_pos h3] at h; exact absurd h (by decide)
   ·rw [if_neg h3] at h; exact .inl ⟨h1, Classical.not_not.1 h2, h3, h⟩
 ·rw [if_neg h1] at h; exact .inr ⟨by omega, h⟩
end Go
namespace Go.Proofs.YtjggoajfilnfjaaGreat
open Go.RowKit Go.Proto
set_option maxHeartbeats 6400000 in
theorem plain_ok (a : Option Addr) (c : Nat) (L : List FC) (hlen : L.length ≤ 1000000) (hE : plGo [] (L.map (·.f)) = 0) (w : World) (hr : Rd w a (flat L)) :
  Calls Tryz.prog 63 #[.slice a L.length c] w fun e w' => e = .returned (.int .i64 0) ∧ Below w.heap.size w w' := by
 have hza : (Tryz.prog.info? 173).map (fun i => i.zero) = some (some (.agg #[.bool false, .bool false, .bool false, .bool false, .bool false, .bool false, .bool false, .bool false, .bool false, .bool false, .bool false, .bool false, .bool false, .bool false, .bool false, .bool false])) := by kernel_rfl
 obtain ⟨N, hN⟩ : ∃ N, L.length = N := ⟨_, rfl⟩; have HN := Lib.hid hN; rw [hN] at hlen ⊢; clear hN; have HR := Lib.hid hr; have HE0 : Hid (plGo [] ((L.map (·.f)).drop 0) = 0) := Lib.hid hE; clear hr hE; have hM0 : MetA 16 (w.alloc (.cells #[.bool false, .bool false, .bool false, .bool false, .bool false, .bool false, .bool false, .bool false, .bool false, .bool false, .bool false, .bool false, .bool false, .bool false, .bool false, .bool false] 173)) w.heap.size [] := ⟨List.replicate 16 false, rfl, Blk.new w _ _, fun i hi => by rw [List.getElem?_replicate, if_pos hi]; simp⟩; have hb0 := Below.new w (.cells #[.bool false, .bool false, .bool false, .bool false, .bool false, .bool false, .bool false, .bool false, .bool false, .bool false, .bool false, .bool false, .bool false, .bool false, .bool false, .bool false] 173); obtain ⟨M, hMM⟩ : ∃ M, w.heap.size = M := ⟨_, rfl⟩; have hwM : w.heap.size ≤ M := by omega
 go_enter Tryz.func63, Tryz.ntmps63
 rw [hMM] at hM0; go_wp2
 try rw [hMM]
 generalize w.alloc (.cells #[.bool false, .bool false, .bool false, .bool false, .bool false, .bool false, .bool false, .bool false, .bool false, .bool false, .bool false, .bool false, .bool false, .bool false, .bool false, .bool false] 173) = w1 at *; replace hM0 := Lib.hid hM0; clear hMM
 go_loopw [10] (fun i wr => ∃ (k : Nat) (met : List Int), k ≤ N ∧ i = .int .i64 k ∧ Hid (plGo met ((L.map (·.f)).drop k) = 0) ∧ Hid (MetA 16 wr M met) ∧ Below w.heap.size w wr) (fun i _ => N - (intOf i).toNat)
 case atStart => exact ⟨0, [], by omega, rfl, HE0, hM0, hb0⟩
 case round =>
  clear HE0 hM0 hb0; obtain ⟨k, met, hk, rfl, HE, HM, hbr⟩ := hrel; have hNl := HN.out
  by_cases hlt : k < N
  ·have hlt' : (k : Int) < (N : Int) := by omega
   have hkl : k < L.length := by omega
   obtain ⟨b, off, rfl, hb, c0, c1, c2, c3⟩ := (HR.out.keep hbr).fld k hkl; have hE := HE.out; rw [List.drop_eq_getElem_cons (by rw [List.length_map]; exact hkl), List.getElem_map] at hE; have hcs := plGo_cons hE; clear hE HE; generalize L[k] = x at *; obtain ⟨⟨fn, fk, fv, fb⟩, fp, fc⟩ := x; dsimp only at c0 c1 c2 c3 hcs; generalize fb.length = m at *; have hx := Below.new wr (.cells #[.int .i64 fn, .int .i64 fk, .int .u64 fv, .slice fp m fc] 72); have kF := Blk.new wr [.int .i64 fn, .int .i64 fk, .int .u64 fv, .slice fp m fc] 72; have hM := HM.out; have HM1 := Lib.hid (hM.keep hx); have hb2 := hbr.trans (hx.mono hbr.size); have g0 := kF.cell 0 rfl; have g1 := kF.cell 1 rfl; have hMl := HM.out.lt; clear HM hx
   rcases hcs with ⟨hk1, hk2, hk3, hE2⟩ | ⟨hk1, hk2, hE2⟩ | ⟨⟨q5, q15, q1, q2, q3, q4⟩, hE2⟩
   ·rcases hk1 with rfl | rfl | rfl
    ·obtain rfl : fk = 0 := by simpa using hk2
     have m0 := hM.cell 5 (by decide) false (by simpa using hk3); have fM := hM.free 5; have hM2 := Lib.hid ((hM.set 5 5 rfl).keep (Below.new _ (.cells #[.int .i64 5, .int .i64 0, .int .u64 fv, .slice fp m fc] 72))); have hb3 := (hbr.set_at (b := M) (o := 5) hwM (.bool true)).alloc (hbr.set_at (b := M) (o := 5) hwM (.bool true)).size (.cells #[.int .i64 5, .int .i64 0, .int .u64 fv, .slice fp m fc] 72); have hMn : M ≠ wr.heap.size := by omega
     have HE2 := Lib.hid hE2; clear hM hE2 hb2 HM1 hbr hk2 hk3; go_wp2; go_roundw
     case rel => exact ⟨k + 1, _, by omega, by go_num, HE2, hM2, hb3⟩
     case measure => simp [intOf]; omega
    ·obtain rfl : fk = 0 := by simpa using hk2
     have m0 := hM.cell 15 (by decide) false (by simpa using hk3); have fM := hM.free 15; have hM2 := Lib.hid ((hM.set 15 15 rfl).keep (Below.new _ (.cells #[.int .i64 15, .int .i64 0, .int .u64 fv, .slice fp m fc] 72))); have hb3 := (hbr.set_at (b := M) (o := 15) hwM (.bool true)).alloc (hbr.set_at (b := M) (o := 15) hwM (.bool true)).size (.cells #[.int .i64 15, .int .i64 0, .int .u64 fv, .slice fp m fc] 72); have hMn : M ≠ wr.heap.size := by omega
     have HE2 := Lib.hid hE2; clear hM hE2 hb2 HM1 hbr hk2 hk3; go_wp2; go_roundw
     case rel => exact ⟨k + 1, _, by omega, by go_num, HE2, hM2, hb3⟩
     case measure => simp [intOf]; omega
    ·obtain rfl : fk = 2 := by simpa using hk2
     have m0 := hM.cell 1 (by decide) false (by simpa using hk3); have fM := hM.free 1; have hM2 := Lib.hid ((hM.set 1 1 rfl).keep (Below.new _ (.cells #[.int .i64 1, .int .i64 2, .int .u64 fv, .slice fp m fc] 72))); have hb3 := (hbr.set_at (b := M) (o := 1) hwM (.bool true)).alloc (hbr.set_at (b := M) (o := 1) hwM (.bool true)).size (.cells #[.int .i64 1, .int .i64 2, .int .u64 fv, .slice fp m fc] 72); have hMn : M ≠ wr.heap.size := by omega
     have HE2 := Lib.hid hE2; clear hM hE2 hb2 HM1 hbr hk2 hk3; go_wp2; go_roundw
     case rel => exact ⟨k + 1, _, by omega, by go_num, HE2, hM2, hb3⟩
     case measure => simp [intOf]; omega
   ·rcases hk1 with rfl | rfl | rfl
    ·obtain rfl : fk = 2 := by simpa using hk2
     have m0 := hM.cell 2 (by decide) _ rfl; have fM := hM.free 2; have hM2 := Lib.hid ((hM.set 2 2 rfl).keep (Below.new _ (.cells #[.int .i64 2, .int .i64 2, .int .u64 fv, .slice fp m fc] 72))); have hb3 := (hbr.set_at (b := M) (o := 2) hwM (.bool true)).alloc (hbr.set_at (b := M) (o := 2) hwM (.bool true)).size (.cells #[.int .i64 2, .int .i64 2, .int .u64 fv, .slice fp m fc] 72); have hMn : M ≠ wr.heap.size := by omega
     have HE2 := Lib.hid hE2; clear hM hE2 hb2 HM1 hbr hk2; go_wp2; go_roundw
     case rel => exact ⟨k + 1, _, by omega, by go_num, HE2, hM2, hb3⟩
     case measure => simp [intOf]; omega
    ·obtain rfl : fk = 2 := by simpa using hk2
     have m0 := hM.cell 3 (by decide) _ rfl; have fM := hM.free 3; have hM2 := Lib.hid ((hM.set 3 3 rfl).keep (Below.new _ (.cells #[.int .i64 3, .int .i64 2, .int .u64 fv, .slice fp m fc] 72))); have hb3 := (hbr.set_at (b := M) (o := 3) hwM (.bool true)).alloc (hbr.set_at (b := M) (o := 3) hwM (.bool true)).size (.cells #[.int .i64 3, .int .i64 2, .int .u64 fv, .slice fp m fc] 72); have hMn : M ≠ wr.heap.size := by omega
     have HE2 := Lib.hid hE2; clear hM hE2 hb2 HM1 hbr hk2; go_wp2; go_roundw
     case rel => exact ⟨k + 1, _, by omega, by go_num, HE2, hM2, hb3⟩
     case measure => simp [intOf]; omega
    ·obtain rfl : fk = 2 := by simpa using hk2
     have m0 := hM.cell 4 (by decide) _ rfl; have fM := hM.free 4; have hM2 := Lib.hid ((hM.set 4 4 rfl).keep (Below.new _ (.cells #[.int .i64 4, .int .i64 2, .int .u64 fv, .slice fp m fc] 72))); have hb3 := (hbr.set_at (b := M) (o := 4) hwM (.bool true)).alloc (hbr.set_at (b := M) (o := 4) hwM (.bool true)).size (.cells #[.int .i64 4, .int .i64 2, .int .u64 fv, .slice fp m fc] 72); have hMn : M ≠ wr.heap.size := by omega
     have HE2 := Lib.hid hE2; clear hM hE2 hb2 HM1 hbr hk2; go_wp2; go_roundw
     case rel => exact ⟨k + 1, _, by omega, by go_num, HE2, hM2, hb3⟩
     case measure => simp [intOf]; omega
   ·have e5 : (fn == 5) = false := by simpa using q5
    have e15 : (fn == 15) = false := by simpa using q15
    have e1 : (fn == 1) = false := by simpa using q1
    have e2 : (fn == 2) = false := by simpa using q2
    have e3 : (fn == 3) = false := by simpa using q3
    have e4 : (fn == 4) = false := by simpa using q4
    have HE2 := Lib.hid hE2; have HM2 := HM1; clear q1 q2 q3 q4 q5 q15 hM hE2; go_wp2; go_roundw
    case rel => exact ⟨k + 1, _, by omega, by go_num, HE2, HM2, hb2⟩
    case measure => simp [intOf]; omega
  ·have hlt' : ¬ (k : Int) < (N : Int) := by omega
   go_wp2; go_ret; exact ⟨rfl, hbr⟩
set_option maxHeartbeats 6400000 in
theorem single_ok (a : Option Addr) (c : Nat) (L : List FC) (hlen : L.length ≤ 1000000) (hE : sgGo [] (L.map (·.f)) = 0) (w : World) (hr : Rd w a (flat L)) :
  Calls Tryz.prog 90 #[.slice a L.length c] w fun e w' => e = .returned (.int .i64 0) ∧ Below w.heap.size w w' := by
 have hza : (Tryz.prog.info? 200).map (fun i => i.zero) = some (some (.agg #[.bool false, .bool false, .bool false, .bool false, .bool false])) := by kernel_rfl
 obtain ⟨N, hN⟩ : ∃ N, L.length = N := ⟨_, rfl⟩; have HN := Lib.hid hN; rw [hN] at hlen ⊢; clear hN; have HR := Lib.hid hr; have HE0 : Hid (sgGo [] ((L.map (·.f)).drop 0) = 0) := Lib.hid hE; clear hr hE; have hM0 : MetA 5 (w.alloc (.cells #[.bool false, .bool false, .bool false, .bool false, .bool false] 200)) w.heap.size [] := ⟨List.replicate 5 false, rfl, Blk.new w _ _, fun i hi => by rw [List.getElem?_replicate, if_pos hi]; simp⟩; have hb0 := Below.new w (.cells #[.bool false, .bool false, .bool false, .bool false, .bool false] 200); obtain ⟨M, hMM⟩ : ∃ M, w.heap.size = M := ⟨_, rfl⟩; have hwM : w.heap.size ≤ M := by omega
 go_enter Tryz.func90, Tryz.ntmps90
 rw [hMM] at hM0; go_wp2
 try rw [hMM]
 generalize w.alloc (.cells #[.bool false, .bool false, .bool false, .bool false, .bool false] 200) = w1 at *; replace hM0 := Lib.hid hM0; clear hMM
 go_loopw [9] (fun i wr => ∃ (k : Nat) (met : List Int), k ≤ N ∧ i = .int .i64 k ∧ Hid (sgGo met ((L.map (·.f)).drop k) = 0) ∧ Hid (MetA 5 wr M met) ∧ Below w.heap.size w wr) (fun i _ => N - (intOf i).toNat)
 case atStart => exact ⟨0, [], by omega, rfl, HE0, hM0, hb0⟩
 case round =>
  clear HE0 hM0 hb0; obtain ⟨k, met, hk, rfl, HE, HM, hbr⟩ := hrel; have hNl := HN.out
  by_cases hlt : k < N
  ·have hlt' : (k : Int) < (N : Int) := by omega
   have hkl : k < L.length := by omega
   obtain ⟨b, off, rfl, hb, c0, c1, c2, c3⟩ := (HR.out.keep hbr).fld k hkl; have hE := HE.out; rw [List.drop_eq_getElem_cons (by rw [List.length_map]; exact hkl), List.getElem_map] at hE; have hcs := sgGo_cons hE; clear hE HE; generalize L[k] = x at *; obtain ⟨⟨fn, fk, fv, fb⟩, fp, fc⟩ := x; dsimp only at c0 c1 c2 c3 hcs; generalize fb.length = m at *; have hx := Below.new wr (.cells #[.int .i64 fn, .int .i64 fk, .int .u64 fv, .slice fp m fc] 72); have kF := Blk.new wr [.int .i64 fn, .int .i64 fk, .int .u64 fv, .slice fp m fc] 72; have hM := HM.out; have HM1 := Lib.hid (hM.keep hx); have hb2 := hbr.trans (hx.mono hbr.size); have g0 := kF.cell 0 rfl; have g1 := kF.cell 1 rfl; have hMl := HM.out.lt; clear HM hx
   rcases hcs with ⟨hk1, hk2, hk3, hE2⟩ | ⟨⟨q1, q2, q3, q4⟩, hE2⟩
   ·rcases hk1 with rfl | rfl | rfl | rfl
    ·obtain rfl : fk = 0 := by simpa using hk2
     have m0 := hM.cell 1 (by decide) false (by simpa using hk3); have fM := hM.free 1; have hM2 := Lib.hid ((hM.set 1 1 rfl).keep (Below.new _ (.cells #[.int .i64 1, .int .i64 0, .int .u64 fv, .slice fp m fc] 72))); have hb3 := (hbr.set_at (b := M) (o := 1) hwM (.bool true)).alloc (hbr.set_at (b := M) (o := 1) hwM (.bool true)).size (.cells #[.int .i64 1, .int .i64 0, .int .u64 fv, .slice fp m fc] 72); have hMn : M ≠ wr.heap.size := by omega
     have HE2 := Lib.hid hE2; clear hM hE2 hb2 HM1 hbr hk2 hk3; go_wp2; go_roundw
     case rel => exact ⟨k + 1, _, by omega, by go_num, HE2, hM2, hb3⟩
     case measure => simp [intOf]; omega
    ·obtain rfl : fk = 0 := by simpa using hk2
     have m0 := hM.cell 3 (by decide) false (by simpa using hk3); have fM := hM.free 3; have hM2 := Lib.hid ((hM.set 3 3 rfl).keep (Below.new _ (.cells #[.int .i64 3, .int .i64 0, .int .u64 fv, .slice fp m fc] 72))); have hb3 := (hbr.set_at (b := M) (o := 3) hwM (.bool true)).alloc (hbr.set_at (b := M) (o := 3) hwM (.bool true)).size (.cells #[.int .i64 3, .int .i64 0, .int .u64 fv, .slice fp m fc] 72); have hMn : M ≠ wr.heap.size := by omega
     have HE2 := Lib.hid hE2; clear hM hE2 hb2 HM1 hbr hk2 hk3; go_wp2; go_roundw
     case rel => exact ⟨k + 1, _, by omega, by go_num, HE2, hM2, hb3⟩
     case measure => simp [intOf]; omega
    ·obtain rfl : fk = 2 := by simpa using hk2
     have m0 := hM.cell 2 (by decide) false (by simpa using hk3); have fM := hM.free 2; have hM2 := Lib.hid ((hM.set 2 2 rfl).keep (Below.new _ (.cells #[.int .i64 2, .int .i64 2, .int .u64 fv, .slice fp m fc] 72))); have hb3 := (hbr.set_at (b := M) (o := 2) hwM (.bool true)).alloc (hbr.set_at (b := M) (o := 2) hwM (.bool true)).size (.cells #[.int .i64 2, .int .i64 2, .int .u64 fv, .slice fp m fc] 72); have hMn : M ≠ wr.heap.size := by omega
     have HE2 := Lib.hid hE2; clear hM hE2 hb2 HM1 hbr hk2 hk3; go_wp2; go_roundw
     case rel => exact ⟨k + 1, _, by omega, by go_num, HE2, hM2, hb3⟩
     case measure => simp [intOf]; omega
    ·obtain rfl : fk = 2 := by simpa using hk2
     have m0 := hM.cell 4 (by decide) false (by simpa using hk3); have fM := hM.free 4; have hM2 := Lib.hid ((hM.set 4 4 rfl).keep (Below.new _ (.cells #[.int .i64 4, .int .i64 2, .int .u64 fv, .slice fp m fc] 72))); have hb3 := (hbr.set_at (b := M) (o := 4) hwM (.bool true)).alloc (hbr.set_at (b := M) (o := 4) hwM (.bool true)).size (.cells #[.int .i64 4, .int .i64 2, .int .u64 fv, .slice fp m fc] 72); have hMn : M ≠ wr.heap.size := by omega
     have HE2 := Lib.hid hE2; clear hM hE2 hb2 HM1 hbr hk2 hk3; go_wp2; go_roundw
     case rel => exact ⟨k + 1, _, by omega, by go_num, HE2, hM2, hb3⟩
     case measure => simp [intOf]; omega
   ·have e1 : (fn == 1) = false := by simpa using q1
    have e2 : (fn == 2) = false := by simpa using q2
    have e3 : (fn == 3) = false := by simpa using q3
    have e4 : (fn == 4) = false := by simpa using q4
    have HE2 := Lib.hid hE2; have HM2 := HM1; clear q1 q2 q3 q4 hM hE2; go_wp2; go_roundw
    case rel => exact ⟨k + 1, _, by omega, by go_num, HE2, HM2, hb2⟩
    case measure => simp [intOf]; omega
  ·have hlt' : ¬ (k : Int) < (N : Int) := by omega
   go_wp2; go_ret; exact ⟨rfl, hbr⟩
end Go.Proofs.YtjggoajfilnfjaaGreat
namespace Go
open Go.RowKit
def Ft.Sz (f : Ft) : Prop := f.ls.length ≤ 1000 ∧ (∀ x ∈ f.ls, AtOk x) ∧ f.rs.length ≤ 1000 ∧ ∀ r ∈ f.rs, r.l.length ≤ 1000
end Go
namespace Go.Proofs.YtjggoajfilnfjaaGreat
open Go.RowKit
set_option maxHeartbeats 1600000 in
theorem named_any (s : ByteArray) (hs : s.size ≤ maxLen) (w : World) :
  Calls Tryz.prog 27 #[.string s] w fun e w' => e = .returned (.int .i64 (namedF s)) ∧ Below w.heap.size w w' := by
 have HR := Lib.hid (fun W => right_any s hs W); have HN := Lib.hid (namedF.eq_1 s); generalize namedF s = NF at *
 go_enter Tryz.func27, Tryz.ntmps27
 by_cases h0 : s.size = 0
 ·have he : s = ⟨#[]⟩ := by
   apply ByteArray.ext; exact Array.eq_empty_of_size_eq_zero h0
  subst he; have hn := HN.out; rw [if_pos (.inl h0)] at hn; subst hn; clear HN; go_wp2; go_ret; exact ⟨rfl, Below.refl _ _⟩
 ·have h0t : s.toList.isEmpty = false := by rw [empty_txt]; simp [h0]
  generalize rightF s = RF at *
  cases RF with
  | false =>
   have hn := HN.out; rw [if_pos (.inr rfl)] at hn; subst hn; clear HN
   go_wp2_with fail
   refine (HR.out _).mono ?_; rintro e w1 ⟨rfl, hb⟩; go_wp2; go_ret; exact ⟨rfl, hb⟩
  | true =>
   have hn := HN.out; rw [if_neg (by simp [h0])] at hn; clear HN
   by_cases h1 : 64 < s.size
   ·rw [if_pos h1] at hn; subst hn; have h1' : (64 : Int) < (s.size : Int) := by omega
    go_wp2_with fail
    refine (HR.out _).mono ?_; rintro e w1 ⟨rfl, hb⟩; go_wp2; go_ret; exact ⟨rfl, hb⟩
   ·rw [if_neg h1] at hn; subst hn; have h1' : ¬ (64 : Int) < (s.size : Int) := by omega
    go_wp2_with fail
    refine (HR.out _).mono ?_; rintro e w1 ⟨rfl, hb⟩; go_wp2; go_ret; exact ⟨rfl, hb⟩
set_option maxHeartbeats 1600000 in
theorem fcheck1_any (f : Ft) (hs : f.Sz) (w : World) (hf : f.Ok w) :
  Calls Tryz.prog 28 #[f.val] w fun e w' => e = .returned (.int .i64 (fchkF f.core)) ∧ Below w.heap.size w w' := by
 have HT := Lib.hid (fun (W : World) (h : Below w.heap.size w W) => tcheck_any f.aa f.ac f.ls hs.1 hs.2.1 W (hf.1.1.keep h)); have HG := Lib.hid (fun (W : World) (h : Below w.heap.size w W) => gcheck_any f.kind f.ra f.rc f.rs (by have := hs.2.2.1; omega) hs.2.2.2 W (by rw [← rcs_map]; exact hf.2.1.1.keep h) (fun r hr => (hf.2.2 r hr).keep h)); have HN : Hid (fchkF f.core = if f.id < 0 ∨ 9007199254740992 < f.id then 5 else if tcF f.ls ≠ 0 then tcF f.ls else checkE f.kind (f.rs.map (·.l))) := Lib.hid rfl; generalize fchkF f.core = NF at *; generalize tcF f.ls = TF at *; generalize checkE f.kind (f.rs.map (·.l)) = GF at *; clear hs hf; obtain ⟨id, kind, ls, aa, ac, rs, ra, rc⟩ := f; dsimp only [Ft.val, Ft.aval, Ft.rval] at *; generalize ls.length = n1 at *; generalize rs.length = n2 at *; have k1 := Blk.lit w w.heap.size [.int .i64 id, .int .i64 kind, .slice aa n1 ac, .slice ra n2 rc] 53 rfl; have hb0 := Below.new w (.cells #[.int .i64 id, .int .i64 kind, .slice aa n1 ac, .slice ra n2 rc] 53)
 go_enter Tryz.func28, Tryz.ntmps28
 have a0 := k1.cell 0 rfl; have a2 := k1.cell 2 rfl
 by_cases h1 : id < 0 ∨ 9007199254740992 < id
 ·have hn := HN.out; rw [if_pos h1] at hn; subst hn
  rcases h1 with h1 | h1
  ·go_wp2; go_ret; exact ⟨rfl, hb0⟩
  ·have h2 : ¬ id < 0 := by omega
   go_wp2; go_ret; exact ⟨rfl, hb0⟩
 ·have hn := HN.out; rw [if_neg h1] at hn; have h2 : ¬ id < 0 := by omega
  have h3 : ¬ 9007199254740992 < id := by omega
  have HN2 := Lib.hid hn; clear hn HN h1
  go_wp2_with fail
  obtain ⟨B, hB⟩ : ∃ B, w.heap.size = B := ⟨_, rfl⟩; have HB := Lib.hid hB; rw [hB] at k1 a0 a2 ⊢; generalize w.alloc (.cells #[.int .i64 id, .int .i64 kind, .slice aa n1 ac, .slice ra n2 rc] 53) = w0 at *; clear hB; refine (HT.out _ hb0).mono ?_; rintro e w1 ⟨rfl, hb1⟩; have hbw := hb0.trans (hb1.mono hb0.size); have k2 := k1.keep hb1; have c1 := k2.cell 1 rfl; have c3 := k2.cell 3 rfl; clear a0 a2 k1 hb0 hb1
  by_cases h4 : TF = 0
  ·subst h4; have hn := HN2.out; rw [if_neg (by simp)] at hn; subst hn
   go_wp2_with fail
   refine (HG.out _ (by first | exact hbw | (rw [HB.out]; exact hbw))).mono ?_; rintro e w2 ⟨rfl, hb2⟩; have hbz := hbw.trans (hb2.mono hbw.size); go_wp2; go_ret; exact ⟨rfl, by first | exact hbz | (rw [← HB.out]; exact hbz)⟩
  ·have hn := HN2.out; rw [if_pos h4] at hn; subst hn; have h4' : (NF != 0) = true := by simpa using h4
   go_wp2; go_ret; exact ⟨rfl, by first | exact hbw | (rw [← HB.out]; exact hbw)⟩
end Go.Proofs.YtjggoajfilnfjaaGreat
