/-
  Faces in memory: attributes, rings, faces; what keeps them. A range over a function whose iterator promises something of the world at each call of yield, and of the world behind all rounds; the body may leave. face.sides: the sides of faces, as an iterator whose body may leave.
-/
import Derived.Test.YtediblljgakoeaaPk14
import Derived.Test.YtediblljgakoeaaPk5
import Derived.RangeFuncBox
import Derived.RangeFuncNested
import Derived.RangeFuncBound
import Derived.RangeFuncCalls
import Derived.RangeFuncLeaves
import Derived.WalkKit
import Derived.Shelf.Abstract
import Derived.Shelf.RegionOpen
import Derived.OwnWalkIn
import Derived.TacticsInMore
import Derived.LoopNIn
import Derived.LoopIn
import Derived.BigRegionIn
import Derived.Stop.RegionWithIn
/- Faces in memory: attributes, rings, faces; what keeps them. -/
set_option linter.unusedVariables false
set_option linter.unusedSimpArgs false
set_option maxRecDepth 100000
namespace Go
open Go.RowKit
/-- An attribute. -/
structure At where
  key : ByteArray
  kind : Int
  text : ByteArray
  n : Int
instance : Inhabited At := ⟨⟨ByteArray.empty, 0, ByteArray.empty, 0⟩⟩
def At.cells (a : At) : List Value := [.string a.key, .int .i64 a.kind, .string a.text, .int .i64 a.n]
def At.val (a : At) : Value := .agg #[.string a.key, .int .i64 a.kind, .string a.text, .int .i64 a.n]
def ats (l : List At) : List Value := l.flatMap At.cells
theorem At.cells_len (a : At) : a.cells.length = 4 := rfl
theorem ats_len (l : List At) : (ats l).length = l.length * 4 := by
  unfold ats
  induction l with
  | nil => rfl
  | cons a l ih => simp only [List.flatMap_cons, List.length_append, ih, List.length_cons, At.cells_len]; omega
theorem ats_snoc (l : List At) (a : At) : ats (l ++ [a]) = ats l ++ a.cells := by simp [ats]
/-- A face. -/
structure Fc where
  rs : List PC
  ra : Option Addr
  rc : Nat
  ls : List At
  aa : Option Addr
  ac : Nat
instance : Inhabited Fc := ⟨⟨[], none, 0, [], none, 0⟩⟩
def Fc.rval (f : Fc) : Value := .slice f.ra f.rs.length f.rc
def Fc.aval (f : Fc) : Value := .slice f.aa f.ls.length f.ac
def Fc.cells (f : Fc) : List Value := [f.rval, f.aval]
def Fc.val (f : Fc) : Value := .agg #[f.rval, f.aval]
def rcs (l : List PC) : List Value := l.flatMap PC.cells
def fcs (l : List Fc) : List Value := l.flatMap Fc.cells
theorem rcs_len (l : List PC) : (rcs l).length = l.length * 1 := by
  unfold rcs
  induction l with
  | nil => rfl
  | cons a l ih => simp only [List.flatMap_cons, List.length_append, ih, List.length_cons, PC.cells, List.length_nil]; omega
theorem fcs_len (l : List Fc) : (fcs l).length = l.length * 2 := by
  unfold fcs
  induction l with
  | nil => rfl
  | cons a l ih => simp only [List.flatMap_cons, List.length_append, ih, List.length_cons, Fc.cells, List.length_nil]; omega
theorem rcs_snoc (l : List PC) (x : PC) : rcs (l ++ [x]) = rcs l ++ [x.val] := by simp [rcs, PC.cells]
theorem fcs_snoc (l : List Fc) (x : Fc) : fcs (l ++ [x]) = fcs l ++ x.cells := by simp [fcs]
/-- What is told of a face: its points, its attributes. -/
def Fc.rings (f : Fc) : List (List Pt) := f.rs.map PC.l
/-- A face that can be read. -/
def Fc.Ok (W : World) (f : Fc) : Prop :=
  (Rd W f.ra (rcs f.rs) ∧ f.rs.length ≤ f.rc ∧ f.rc ≤ maxLen ∧ (f.ra = none → f.rc = 0)) ∧ (∀ r ∈ f.rs, r.Ok W) ∧ (Rd W f.aa (ats f.ls) ∧ f.ls.length ≤ f.ac ∧ f.ac ≤ maxLen ∧ (f.aa = none → f.ac = 0))
theorem Fc.Ok.keep {w w' : World} {f : Fc} (h : f.Ok w) (hb : Below w.heap.size w w') : f.Ok w' :=
  ⟨⟨h.1.1.keep hb, h.1.2⟩, fun r hr => (h.2.1 r hr).keep hb, ⟨h.2.2.1.keep hb, h.2.2.2⟩⟩

/-- The cells of one face of many. -/
theorem Rd.fc {w : World} {a : Option Addr} {l : List Fc} (h : Rd w a (fcs l)) (i : Nat) (hi : i < l.length) :
    ∃ b off, a = some ⟨b, off, none⟩ ∧ b < w.heap.size ∧ w.cell? ⟨b, off + i * 2, none⟩ = some l[i].rval ∧ w.cell? ⟨b, off + i * 2 + 1, none⟩ = some l[i].aval := by
  have g : ∀ j, j < 2 → (fcs l)[i * 2 + j]? = (l[i]).cells[j]? := fun j hj => flatMap_get Fc.cells 2 (fun _ => rfl) l i j hi hj
  obtain ⟨b, off, rfl, h0, hb⟩ := h.at (i := i * 2 + 0) (v := l[i].rval) (by rw [g 0 (by omega)]; rfl)
  obtain ⟨b', off', e, h1, -⟩ := h.at (i := i * 2 + 1) (v := l[i].aval) (by rw [g 1 (by omega)]; rfl)
  cases e
  exact ⟨b, off, rfl, hb, h0, by rw [Nat.add_assoc]; exact h1⟩
/-- One ring of many. -/
theorem Rd.rc {w : World} {a : Option Addr} {l : List PC} (h : Rd w a (rcs l)) (i : Nat) (hi : i < l.length) :
    ∃ b off, a = some ⟨b, off, none⟩ ∧ b < w.heap.size ∧ w.cell? ⟨b, off + i, none⟩ = some l[i].val := by
  have g : (rcs l)[i * 1 + 0]? = (l[i]).cells[0]? := flatMap_get PC.cells 1 (fun _ => rfl) l i 0 hi (by omega)
  obtain ⟨b, off, rfl, h0, hb⟩ := h.at (i := i * 1 + 0) (v := l[i].val) (by rw [g]; rfl)
  exact ⟨b, off, rfl, hb, by rw [Nat.mul_one, Nat.add_zero] at h0; exact h0⟩
/-- The cells of one attribute of many. -/
theorem Rd.atr {w : World} {a : Option Addr} {l : List At} (h : Rd w a (ats l)) (i : Nat) (hi : i < l.length) :
    ∃ b off, a = some ⟨b, off, none⟩ ∧ b < w.heap.size ∧ w.cell? ⟨b, off + i * 4, none⟩ = some (.string l[i].key) ∧ w.cell? ⟨b, off + i * 4 + 1, none⟩ = some (.int .i64 l[i].kind) ∧ w.cell? ⟨b, off + i * 4 + 2, none⟩ = some (.string l[i].text) ∧ w.cell? ⟨b, off + i * 4 + 3, none⟩ = some (.int .i64 l[i].n) := by
  have g : ∀ j, j < 4 → (ats l)[i * 4 + j]? = (l[i]).cells[j]? := fun j hj => flatMap_get At.cells 4 (fun _ => rfl) l i j hi hj
  obtain ⟨b, off, rfl, h0, hb⟩ := h.at (i := i * 4 + 0) (v := .string l[i].key) (by rw [g 0 (by omega)]; rfl)
  obtain ⟨b', off', e, h1, -⟩ := h.at (i := i * 4 + 1) (v := .int .i64 l[i].kind) (by rw [g 1 (by omega)]; rfl)
  cases e
  obtain ⟨b', off', e, h2, -⟩ := h.at (i := i * 4 + 2) (v := .string l[i].text) (by rw [g 2 (by omega)]; rfl)
  cases e
  obtain ⟨b', off', e, h3, -⟩ := h.at (i := i * 4 + 3) (v := .int .i64 l[i].n) (by rw [g 3 (by omega)]; rfl)
  cases e
  refine ⟨b, off, rfl, hb, h0, ?_, ?_, ?_⟩
  · rw [Nat.add_assoc]; exact h1
  · rw [Nat.add_assoc]; exact h2
  · rw [Nat.add_assoc]; exact h3
theorem ats_one (l : List At) : ∀ u ∈ ats l, u.oneCell' = true := by
  intro u hu
  obtain ⟨p, -, hu⟩ := List.mem_flatMap.1 hu
  simp [At.cells] at hu
  rcases hu with rfl | rfl | rfl | rfl <;> rfl
theorem rcs_one (l : List PC) : ∀ u ∈ rcs l, u.oneCell' = true := by
  intro u hu
  obtain ⟨p, -, hu⟩ := List.mem_flatMap.1 hu
  simp [PC.cells, PC.val] at hu
  rw [hu]; rfl
theorem fcs_one (l : List Fc) : ∀ u ∈ fcs l, u.oneCell' = true := by
  intro u hu
  obtain ⟨p, -, hu⟩ := List.mem_flatMap.1 hu
  simp [Fc.cells, Fc.rval, Fc.aval] at hu
  rcases hu with rfl | rfl <;> rfl
/-- The block of an address is a row of elements of type T. -/
def TypB (W : World) (a : Option Addr) (T : TypeId) : Prop := ∀ b, a.map (·.block) = some b → ∃ cs fr, W.heap[b]? = some (.cells cs T fr)
theorem TypB.none (W : World) (T : TypeId) : TypB W none T := fun b h => by simp at h
theorem TypB.of_owns {W : World} {base : Nat} {e : TypeId} {size n c m : Nat} {a : Option Addr} {xs : List Value} (h : W.ownsRow base e size (.slice a n c) m xs) : TypB W a e := by
  intro b hb
  rcases h.2 with ⟨h1, -⟩ | ⟨g, cap, cur, h1, -, hg, -⟩
  · cases h1; simp at hb
  · cases h1
    simp at hb
    subst hb
    exact ⟨cur, _, hg⟩
/-- Blocks of elements of types in S stay. -/
def KeepS (S : TypeId → Prop) (A B : World) : Prop := A.heap.size ≤ B.heap.size ∧ ∀ (k : Nat) (cs : Array Value) (V : TypeId) (fr : Nat × Nat), A.heap[k]? = some (Obj.cells cs V fr) → S V → B.heap[k]? = A.heap[k]?
theorem KeepS.refl {S : TypeId → Prop} (A : World) : KeepS S A A := ⟨Nat.le_refl _, fun _ _ _ _ _ _ => rfl⟩
theorem KeepS.trans {S : TypeId → Prop} {A B C : World} (h : KeepS S A B) (k : KeepS S B C) : KeepS S A C :=
  ⟨Nat.le_trans h.1 k.1, fun i cs V fr hi hv => by
    have h1 := h.2 i cs V fr hi hv
    rw [k.2 i cs V fr (h1.trans hi) hv, h1]⟩
theorem KeepS.of_below {S : TypeId → Prop} {A B : World} (h : Below A.heap.size A B) : KeepS S A B :=
  ⟨h.size, fun k _ _ _ hk _ => h.block k (Array.getElem?_eq_some_iff.1 hk).1⟩
theorem KeepS.of_grownBy {S : TypeId → Prop} {A B : World} {row : Option Nat} (hg : A.grownBy B row) (hr : ∀ r, row = some r → ∀ cs V fr, A.heap[r]? = some (Obj.cells cs V fr) → ¬ S V) : KeepS S A B :=
  ⟨hg.size, fun k cs V fr hk hv => hg.block k (Array.getElem?_eq_some_iff.1 hk).1 fun e => hr k e.symm cs V fr hk hv⟩
theorem KeepS.of_row {S : TypeId → Prop} {A B : World} {n₀ : Nat} {e : TypeId} {size : Nat} {v : Value} {k : Nat} {xs : List Value} (hrow : A.ownsRow n₀ e size v k xs) (hS : ¬ S e) (hg : A.grownBy B v.ownBlock) : KeepS S A B :=
  KeepS.of_grownBy hg fun r he cs V fr hk => by
    rcases hrow.2 with ⟨rfl, _⟩ | ⟨g, cap, cur, rfl, _, hgb, _⟩
    · cases he
    · obtain rfl : g = r := by simpa [Value.ownBlock] using he
      rw [hgb] at hk
      cases hk
      exact hS
theorem KeepS.store {S : TypeId → Prop} {A : World} {p : Addr} {t : TypeId} {cs : Array Value} {fr : Nat × Nat} (h : A.heap[p.block]? = some (.cells cs t fr)) (hS : ¬ S t) (u : Value) : KeepS S A (A.setCell p u) := by
  refine ⟨by simp [World.setCell], fun k cs' V fr' hk hv => ?_⟩
  refine Below.heap_setCell A p u k (fun e => ?_)
  subst e
  rw [h] at hk
  cases hk
  exact hS hv
theorem Rd.keepS {S : TypeId → Prop} {A B : World} {a : Option Addr} {vs : List Value} {T : TypeId} (h : Rd A a vs) (ht : TypB A a T) (hS : S T) (k : KeepS S A B) : Rd B a vs := by
  rcases h with h | ⟨b, off, rfl, hc⟩
  · exact .inl h
  · refine .inr ⟨b, off, rfl, fun i v hv => ?_⟩
    obtain ⟨cs, fr, hb⟩ := ht b rfl
    have := hc i v hv
    simp only [World.cell?, k.2 b cs T fr hb hS]
    exact this
theorem TypB.keepS {S : TypeId → Prop} {A B : World} {a : Option Addr} {T : TypeId} (ht : TypB A a T) (hS : S T) (k : KeepS S A B) : TypB B a T := by
  intro b hb
  obtain ⟨cs, fr, h⟩ := ht b hb
  exact ⟨cs, fr, (k.2 b cs T fr h hS).trans h⟩
end Go
namespace Go.Proofs.Ytediblljgakoeaa
open Go.RowKit
/-- A ring of our own making. -/
def PcT (W : World) (x : PC) : Prop := x.Ok W ∧ TypB W x.p 32
/-- A face of our own making. -/
def FcT (W : World) (f : Fc) : Prop := f.Ok W ∧ TypB W f.ra 42 ∧ (∀ r ∈ f.rs, PcT W r) ∧ TypB W f.aa 62
/-- The types of what faces are made of. -/
def faceS (T : TypeId) : Prop := T = 32 ∨ T = 42 ∨ T = 62
theorem PcT.keepS {S : TypeId → Prop} {A B : World} {x : PC} (h : PcT A x) (hS : S 32) (k : KeepS S A B) : PcT B x :=
  ⟨⟨h.1.1.keepS h.2 hS k, h.1.2⟩, h.2.keepS hS k⟩
theorem FcT.keepS {A B : World} {f : Fc} (h : FcT A f) (k : KeepS faceS A B) : FcT B f := by
  obtain ⟨⟨h1, h2, h3⟩, t1, t2, t3⟩ := h
  exact ⟨⟨⟨h1.1.keepS t1 (.inr (.inl rfl)) k, h1.2⟩, fun r hr => ((t2 r hr).keepS (.inl rfl) k).1, ⟨h3.1.keepS t3 (.inr (.inr rfl)) k, h3.2⟩⟩, t1.keepS (.inr (.inl rfl)) k, fun r hr => (t2 r hr).keepS (.inl rfl) k, t3.keepS (.inr (.inr rfl)) k⟩
theorem FcT.keep {A B : World} {f : Fc} (h : FcT A f) (hb : Below A.heap.size A B) : FcT B f := h.keepS (KeepS.of_below hb)
theorem PcT.keep {A B : World} {f : PC} (h : PcT A f) (hb : Below A.heap.size A B) : PcT B f := h.keepS (S := faceS) (.inl rfl) (KeepS.of_below hb)
theorem faceS_face : ¬ faceS 41 := by unfold faceS; decide
theorem Try.infoAt : (Try.prog.info? 62).map (fun i => (i.zero, i.size, i.bytes)) = some (some (.agg #[.string ⟨#[]⟩, .int .i64 0, .string ⟨#[]⟩, .int .i64 0]), 4, 48) := by kernel_rfl
theorem Try.infoFace : (Try.prog.info? 41).map (fun i => (i.zero, i.size, i.bytes)) = some (some (.agg #[.slice none 0 0, .slice none 0 0]), 2, 48) := by kernel_rfl
theorem Try.infoRow : (Try.prog.info? 42).map (fun i => (i.zero, i.size, i.bytes)) = some (some (.slice none 0 0), 1, 24) := by kernel_rfl
theorem Try.infoPnt : (Try.prog.info? 32).map (fun i => (i.zero, i.size, i.bytes)) = some (some (.agg #[.int .i64 0, .int .i64 0]), 2, 16) := by kernel_rfl
end Go.Proofs.Ytediblljgakoeaa
/- A range over a function whose iterator promises something of the world at each call of yield, and of the world behind all rounds; the body may leave. -/
namespace Go
open Go.RowKit

variable {F : Fence} {n : Nat} {P : Program}

/-- The iterator's contract: 'Ahead pre x W': what is promised where yield is called; 'Kp': what a round keeps; 'S xs W': what is promised behind all rounds; Jx: what the body leaves behind where it leaves. -/
def SeqLeave {α : Type} (F : Fence) (n : Nat) (P : Program) (g : Nat) (lb : Array Value) (encs : α → Array Value) (Ahead : List α → α → World → Prop) (Kp : World → World → Prop) (S : List α → World → Prop) (w : World) : Prop :=
  ∀ (l : Nat) (J Jx : List α → World → Prop) (W : World), Below w.heap.size w W → AbidesFrom W.heap.size J → AbidesFrom W.heap.size Jx →
    (∀ pre x W1, J pre W1 → Ahead pre x W1 → YieldAt F (n - 1) P l (encs x) W1 fun e W' => (e = .returned (.bool true) ∧ J (pre ++ [x]) W' ∧ Kp W1 W') ∨ (e = .returned (.bool false) ∧ Jx (pre ++ [x]) W')) →
    J [] W → CallsIn F n P g (#[.func (.yield l) #[] #[]] ++ lb) W fun e W' => (∃ v, e = .returned v) ∧ ((∃ xs, S xs W' ∧ J xs W') ∨ ∃ pre, Jx pre W')

/-- How the body is left. -/
def postLeave {α : Type} (Kp : World → World → Prop) (I : List α → World → Prop) (Ix : Code → List α → World → Prop) (xs : List α) (W : World) : Exit → Act → World → Prop
  | .normal, _, W' => KeepsOthers W W' ∧ Kp W W' ∧ I xs W'
  | .ret, _, W' => KeepsOthers W W' ∧ Ix .ret xs W'
  | .exit id, _, W' => KeepsOthers W W' ∧ Ix (.exit id) xs W'
  | .goto t, _, W' => KeepsOthers W W' ∧ Ix (.goto t) xs W'
  | _, _, _ => False

theorem wpIn_rangeFunc_leave {α : Type} {g : Operand} {ps : Array Tmp} {assign body : Code} {Q : Exit → Act → World → Prop} {a : Act} {w : World}
    (hro : F.round = none) (h1 : 1 ≤ n) {gf : Nat} {lb : Array Value} (hg : a.eval g = .func (.func gf) #[] lb) (hFg : F.fn gf) (eg : ∀ args w, (callFunc gf args).run P w = .ok (.enter gf args) w)
    {encs : α → Array Value} {Ahead : List α → α → World → Prop} {Kp : World → World → Prop} {S : List α → World → Prop} {w0 : World} (hseq : SeqLeave F (n - 1) P gf lb encs Ahead Kp S w0)
    (hKt : ∀ {A B C : World}, Kp A B → Kp B C → Kp A C) (hKb : ∀ (W : World) (l : Nat) (o o' : Obj), w.heap.size ≤ l → W.heap[l]? = some o → o.isCells = false → Kp W (W.putObj l o'))
    (hb0 : Below w0.heap.size w0 w) (hps : ∀ x, (encs x).size = ps.size)
    (I : List α → World → Prop) (Ix : Code → List α → World → Prop) (hI : OwnFrom w.heap.size I) (hIx : ∀ c, OwnFrom w.heap.size (Ix c)) (hS : OwnFrom w.heap.size S) (h0 : I [] w)
    (Mid : List α → α → Act → World → Prop) (hM : ∀ pre x a', OwnFrom w.heap.size (fun (_ : Unit) W => Mid pre x a' W))
    (hassign : ∀ (l : Nat) (pre : List α) (x : α) (W : World), I pre W → Ahead pre x W →
      assign.wpIn (F.inRound l) (n - 1 - 1) P (Exit.then (fun a' W' => KeepsOthers W W' ∧ Kp W W' ∧ Mid pre x a' W') (fun _ _ _ => False)) { tmps := (ps.zip (encs x)).foldl (fun t (p, v) => t.setIfInBounds p v) a.tmps, defers := [] } W)
    (hbody : ∀ (l : Nat) (pre : List α) (x : α) (a' : Act) (W : World), Mid pre x a' W → body.wpIn (F.inRound l) (n - 1 - 1) P (postLeave Kp I Ix (pre ++ [x]) W) a' W)
    (hdone : ∀ (D : Nat) (xs : List α) (W : World), w.heap.size ≤ D → S xs W → I xs W → W.heap[D]? = some (.deferred (some [])) → Q .normal { a with defers := { target := .collected D, args := #[] } :: a.defers } W)
    (hstop : ∀ (D : Nat) (c : Code) (pre : List α) (W : World), w.heap.size ≤ D → Ix c pre W → W.heap[D]? = some (.deferred (some [])) → c.wpIn F n P Q { a with defers := { target := .collected D, args := #[] } :: a.defers } W) :
    (Code.rangeFunc g ps assign body).wpIn F n P Q a w := by
  refine wpIn_rangeFunc fun fn hfn => ?_
  rw [hro]
  -- the loop's record, block H + 1; the block for the rounds' deferred calls, block H
  obtain ⟨rec, hrec⟩ : ∃ rec : LoopState → Option Code → Loop, rec = fun st pe => { state := st, pending := pe, fn, tmps := a.tmps, params := ps, assign, body, defers := w.heap.size } := ⟨_, rfl⟩
  obtain ⟨W1, hW1⟩ : ∃ W1, (w.alloc (.deferred (some []))).alloc (.loop (rec .ready none)) = W1 := ⟨_, rfl⟩
  have hs1 : W1.heap.size = w.heap.size + 2 := by rw [← hW1]; simp
  have hL1 : W1.heap[w.heap.size + 1]? = some (.loop (rec .ready none)) := by
    rw [← hW1]; have := World.alloc_heap_new (w.alloc (.deferred (some []))) (.loop (rec .ready none)); rwa [World.size_alloc] at this
  have hD1 : W1.heap[w.heap.size]? = some (.deferred (some [])) := by
    rw [← hW1]; exact (Below.heap_alloc _ _ _ (by simp)).trans (World.alloc_heap_new w _)
  have hI1 : I [] W1 := by rw [← hW1]; exact hI.alloc _ (hI.alloc _ h0)
  have hb1 : Below w0.heap.size w0 W1 := by
    rw [← hW1]; exact hb0.trans ((((Below.refl _ w).alloc (Nat.le_refl _) _).alloc (by simp) _).mono hb0.size)
  refine ⟨w.heap.size + 1, [{ target := .collected w.heap.size, args := #[] }], W1, { target := .fn (.func gf) lb, args := #[.func (.yield (w.heap.size + 1)) #[] #[]] }, W1, gf,
    #[.func (.yield (w.heap.size + 1)) #[] #[]] ++ lb, W1, ?_, ?_, ?_, ?_, fun _ => h1, ?_⟩
  · rw [← hW1, hrec]; exact run_enterLoop_outer _ _ _ _ _
  · simp only [resolve, hg]
    simp [go_sem]
  · intro f' hf'; simp [Target.leads] at hf'; subst hf'; exact hFg
  · simp [invoke, go_sem, eg]
  · have hnw : ∀ {A B : World} {row : Option Nat}, (∀ r, row = some r → W1.heap.size ≤ r ∧ ∃ o : Obj, A.heap[r]? = some o ∧ o.isWalk = true) → (∀ r, row = some r → w.heap.size ≤ r ∧ ∃ o : Obj, A.heap[r]? = some o ∧ o.isCells = false) :=
      fun hr r e => by obtain ⟨hB, o, ho, hw⟩ := hr r e; exact ⟨by omega, o, ho, Obj.not_cells_of_walk hw⟩
    refine (hseq (w.heap.size + 1) (fun pre W => I pre W ∧ W.heap[w.heap.size + 1]? = some (.loop (rec .ready none)) ∧ W.heap[w.heap.size]? = some (.deferred (some [])))
      (fun pre W => ∃ c, Ix c pre W ∧ W.heap[w.heap.size + 1]? = some (.loop (rec .done (some c))) ∧ W.heap[w.heap.size]? = some (.deferred (some []))) W1 hb1
      (fun s A B row hs hg' hr => ⟨hI s A B row hs.1 hg' (hnw (B := B) hr), (grownBy_keeps hg' (fun r e => (hr r e).2) hs.2.1 rfl).trans hs.2.1, (grownBy_keeps hg' (fun r e => (hr r e).2) hs.2.2 rfl).trans hs.2.2⟩)
      (fun s A B row hs hg' hr => by
        obtain ⟨c, hc, hl, hk⟩ := hs
        exact ⟨c, hIx c s A B row hc hg' (hnw (B := B) hr), (grownBy_keeps hg' (fun r e => (hr r e).2) hl rfl).trans hl, (grownBy_keeps hg' (fun r e => (hr r e).2) hk rfl).trans hk⟩)
      ?_ ⟨hI1, hL1, hD1⟩).mono ?_
    · rintro pre x W ⟨hi, hl, hd⟩ hah
      have hy := run_yield (P := P) (args := encs x) hl (by rw [hrec]; exact hps x)
      rw [hrec] at hy
      refine ⟨fn, _, assign, body, hy, roundIn_of_wpIn hfn (wpIn_mono (hassign _ pre x W hi hah) ?_)⟩
      rintro e a' Wa hp
      cases e with
      | normal =>
        obtain ⟨hka, hkpa, hm⟩ := hp
        have hla := hka.same _ _ hl rfl
        have hda := hka.same _ _ hd rfl
        have hlt : w.heap.size + 1 < Wa.heap.size := (Array.getElem?_eq_some_iff.1 hla).1
        refine ⟨_, run_beginRound hla (by rw [hrec]), ?_⟩
        refine wpIn_mono (hbody _ pre x a' _ ((hM pre x a').putObj (s := ()) _ hm (by omega) hla rfl)) ?_
        have hl2 : (Wa.putObj (w.heap.size + 1) (.loop { rec .ready none with state := .busy })).heap[w.heap.size + 1]? = some (.loop { rec .ready none with state := .busy }) := World.putObj_heap_same hlt
        have hd2 : (Wa.putObj (w.heap.size + 1) (.loop { rec .ready none with state := .busy })).heap[w.heap.size]? = some (.deferred (some [])) := (World.putObj_heap_other (by omega)).trans hda
        have hw2 : Kp Wa (Wa.putObj (w.heap.size + 1) (.loop { rec .ready none with state := .busy })) := hKb _ _ _ _ (by omega) hla rfl
        have fin : ∀ (jump : Option Code) (W3 : World), KeepsOthers (Wa.putObj (w.heap.size + 1) (.loop { rec .ready none with state := .busy })) W3 →
            (Instr.endRound (w.heap.size + 1) jump).run P W3 = .ok (.bool jump.isNone) (W3.putObj (w.heap.size + 1) (.loop (rec (if jump.isNone then .ready else .done) jump))) ∧
            W3.heap[w.heap.size + 1]? = some (.loop { rec .ready none with state := .busy }) ∧
            (W3.putObj (w.heap.size + 1) (.loop (rec (if jump.isNone then .ready else .done) jump))).heap[w.heap.size + 1]? = some (.loop (rec (if jump.isNone then .ready else .done) jump)) ∧
            (W3.putObj (w.heap.size + 1) (.loop (rec (if jump.isNone then .ready else .done) jump))).heap[w.heap.size]? = some (.deferred (some [])) := fun jump W3 hk3 => by
          have hl3 := hk3.same _ _ hl2 rfl
          have := run_endRound (P := P) jump hl3
          rw [hrec] at this ⊢
          exact ⟨this, by rw [hrec] at hl3; exact hl3, World.putObj_heap_same (Array.getElem?_eq_some_iff.1 hl3).1, (World.putObj_heap_other (by omega)).trans (hk3.same _ _ hd2 rfl)⟩
        rintro e a3 W3 hp3
        cases e with
        | normal =>
          obtain ⟨hk3, hkp3, hi3⟩ := hp3
          obtain ⟨hr, hl3, hl4, hk4⟩ := fin none W3 hk3
          exact ⟨_, _, hr, .inl ⟨rfl, ⟨hI.putObj _ hi3 (by omega) hl3 rfl, hl4, hk4⟩, hKt hkpa (hKt hw2 (hKt hkp3 (hKb _ _ _ _ (by omega) hl3 rfl)))⟩⟩
        | ret =>
          obtain ⟨hk3, hi3⟩ := hp3
          obtain ⟨hr, hl3, hl4, hk4⟩ := fin (some .ret) W3 hk3
          exact ⟨_, _, hr, .inr ⟨rfl, .ret, (hIx _).putObj _ hi3 (by omega) hl3 rfl, hl4, hk4⟩⟩
        | exit id =>
          obtain ⟨hk3, hi3⟩ := hp3
          obtain ⟨hr, hl3, hl4, hk4⟩ := fin (some (.exit id)) W3 hk3
          exact ⟨_, _, hr, .inr ⟨rfl, .exit id, (hIx _).putObj _ hi3 (by omega) hl3 rfl, hl4, hk4⟩⟩
        | goto t =>
          obtain ⟨hk3, hi3⟩ := hp3
          obtain ⟨hr, hl3, hl4, hk4⟩ := fin (some (.goto t)) W3 hk3
          exact ⟨_, _, hr, .inr ⟨rfl, .goto t, (hIx _).putObj _ hi3 (by omega) hl3 rfl, hl4, hk4⟩⟩
        | panic ch => exact hp3.elim
        | outgrown => exact hp3.elim
      | ret => exact hp.elim
      | exit id => exact hp.elim
      | goto t => exact hp.elim
      | panic ch => exact hp.elim
      | outgrown => exact hp.elim
    · rintro e W2 ⟨⟨v, rfl⟩, (⟨xs, hSx, hi, hl, hd⟩ | ⟨pre, c, hi, hl, hd⟩)⟩
      · have hel := run_endLoop (P := P) hl (by rw [hrec]; simp)
        rw [hrec] at hel
        refine ⟨none, _, hel, hdone _ xs _ (Nat.le_refl _) (hS.putObj _ hSx (by omega) hl rfl) (hI.putObj _ hi (by omega) hl rfl) ((World.putObj_heap_other (by omega)).trans hd)⟩
      · have hel := run_endLoop (P := P) hl (by rw [hrec]; simp)
        rw [hrec] at hel
        refine ⟨some c, _, hel, hstop _ c pre _ (Nat.le_refl _) ((hIx c).putObj _ hi (by omega) hl rfl) ((World.putObj_heap_other (by omega)).trans hd)⟩
end Go
/- face.sides: the sides of faces, as an iterator whose body may leave. -/
set_option linter.unusedVariables false
set_option linter.unusedSimpArgs false
set_option maxRecDepth 100000
namespace Go
open Go.RowKit
/-- A side. -/
structure Sd where
  f : Nat
  r : Nat
  a : Pt
  b : Pt
instance : Inhabited Sd := ⟨⟨0, 0, default, default⟩⟩
def Sd.val (s : Sd) : Value := .agg #[.int .i64 s.f, .int .i64 s.r, .int .i64 s.a.x, .int .i64 s.a.y, .int .i64 s.b.x, .int .i64 s.b.y]
def Sd.cells (s : Sd) : List Value := [.int .i64 s.f, .int .i64 s.r, .int .i64 s.a.x, .int .i64 s.a.y, .int .i64 s.b.x, .int .i64 s.b.y]
def ringSd (i k : Nat) (r : List Pt) : List Sd := (edges r).map fun e => ⟨i, k, e.1, e.2⟩
def faceSd (i : Nat) (f : List (List Pt)) (n : Nat) : List Sd := (List.range n).flatMap fun k => ringSd i k f[k]!
def someSd (l : List (List (List Pt))) (n : Nat) : List Sd := (List.range n).flatMap fun i => faceSd i l[i]! (l[i]!).length
/-- The sides of faces. -/
def allSd (l : List (List (List Pt))) : List Sd := someSd l l.length
theorem faceSd_succ (i : Nat) (f : List (List Pt)) (n : Nat) : faceSd i f (n + 1) = faceSd i f n ++ ringSd i n f[n]! := by
  simp [faceSd, List.range_succ, List.flatMap_append]
theorem someSd_succ (l : List (List (List Pt))) (n : Nat) : someSd l (n + 1) = someSd l n ++ faceSd n l[n]! (l[n]!).length := by
  simp [someSd, List.range_succ, List.flatMap_append]
theorem faceSd_pre (i : Nat) (f : List (List Pt)) {n m : Nat} (h : n ≤ m) : faceSd i f n <+: faceSd i f m := by
  induction m with
  | zero => obtain rfl : n = 0 := by omega
            exact List.prefix_refl _
  | succ m ih =>
    by_cases e : n = m + 1
    · rw [e]; exact List.prefix_refl _
    · rw [faceSd_succ]; exact (ih (by omega)).trans (List.prefix_append _ _)
theorem someSd_pre (l : List (List (List Pt))) {n m : Nat} (h : n ≤ m) : someSd l n <+: someSd l m := by
  induction m with
  | zero => obtain rfl : n = 0 := by omega
            exact List.prefix_refl _
  | succ m ih =>
    by_cases e : n = m + 1
    · rw [e]; exact List.prefix_refl _
    · rw [someSd_succ]; exact (ih (by omega)).trans (List.prefix_append _ _)
theorem sd_ahead (l : List (List (List Pt))) (i k n : Nat) (hi : i < l.length) (hk : k < (l[i]!).length) (hn : n < ((l[i]!)[k]!).length) :
    (someSd l i ++ (faceSd i l[i]! k ++ (ringSd i k (l[i]!)[k]!).take n)) ++ [⟨i, k, ((l[i]!)[k]!)[n]!, ((l[i]!)[k]!)[(n + 1) % ((l[i]!)[k]!).length]!⟩] = someSd l i ++ (faceSd i l[i]! k ++ (ringSd i k (l[i]!)[k]!).take (n + 1)) ∧
    someSd l i ++ (faceSd i l[i]! k ++ (ringSd i k (l[i]!)[k]!).take (n + 1)) <+: allSd l := by
  constructor
  · have : (ringSd i k (l[i]!)[k]!)[n]? = some ⟨i, k, ((l[i]!)[k]!)[n]!, ((l[i]!)[k]!)[(n + 1) % ((l[i]!)[k]!).length]!⟩ := by
      unfold ringSd edges
      rw [List.getElem?_map, List.getElem?_map, List.getElem?_range hn]
      rfl
    rw [List.take_add_one, this]
    simp
  · refine List.IsPrefix.trans ?_ (someSd_pre l (show i + 1 ≤ l.length by omega))
    rw [someSd_succ]
    refine (List.prefix_append_right_inj _).2 ?_
    refine List.IsPrefix.trans ?_ (faceSd_pre i l[i]! (show k + 1 ≤ (l[i]!).length by omega))
    rw [faceSd_succ]
    exact (List.prefix_append_right_inj _).2 (List.take_prefix _ _)
end Go
namespace Go.Proofs.Ytediblljgakoeaa
open Go.RowKit
attribute [local go_sem] Oper.semAt_some

set_option maxHeartbeats 3200000 in
theorem sides1_in (n : Nat) (l Bn : Nat) (a : Option Addr) (c : Nat) (L : List Fc) (hlen : L.length ≤ 1000000) (hl1 : ∀ f ∈ L, f.rs.length ≤ 1000000) (hl2 : ∀ f ∈ L, ∀ r ∈ f.rs, r.l.length ≤ 1000000)
    (W0 : World) (hr0 : Rd W0 a (fcs L)) (hok : ∀ f ∈ L, f.Ok W0) (fr : Nat × Nat) (hBn : W0.heap[Bn]? = some (.cells #[.slice a L.length c] 22 fr))
    (J Jx : List Sd → World → Prop) (W : World) (hb0 : Below W0.heap.size W0 W) (hJ : AbidesFrom W.heap.size J) (hJx : AbidesFrom W.heap.size Jx)
    (hY : ∀ pre x W1, J pre W1 → pre ++ [x] <+: allSd (L.map Fc.rings) → YieldAt Fence.wide (n - 1) Try.prog l #[x.val] W1 fun e W' => (e = .returned (.bool true) ∧ J (pre ++ [x]) W' ∧ Below W0.heap.size W1 W') ∨ (e = .returned (.bool false) ∧ Jx (pre ++ [x]) W'))
    (h0 : J [] W) :
    CallsIn Fence.wide n Try.prog 30 #[.func (.yield l) #[] #[], .pointer (some ⟨Bn, 0, none⟩)] W fun e W' => (∃ v, e = .returned v) ∧ ((∃ xs, xs = allSd (L.map Fc.rings) ∧ J xs W') ∨ ∃ pre, Jx pre W') := by
  refine callsIn_of_wp Try.func30 rfl trivial ?_ rfl
  simp only [Try.ntmps30, List.size_toArray, List.length_cons, List.length_nil, Nat.reduceAdd, Nat.reduceSub, Array.replicate_succ, Array.replicate_zero, List.push_toArray, List.append_toArray, List.nil_append, List.cons_append]
  have hBl : Bn < W0.heap.size := (Array.getElem?_eq_some_iff.1 hBn).1
  have hBW := (hb0.block Bn hBl).trans hBn
  have hbc : W.cell? ⟨Bn, 0, none⟩ = some (.slice a L.length c) := by simp [World.cell?, hBW]
  have HY := Lib.hid hY
  have HJ := Lib.hid hJ
  have HR := Lib.hid hr0
  have HOK := Lib.hid hok
  have HL1 := Lib.hid hl1
  have HL2 := Lib.hid hl2
  obtain ⟨N, hN⟩ : ∃ N, L.length = N := ⟨_, rfl⟩
  have HN := Lib.hid hN
  rw [hN] at hlen hbc
  obtain ⟨RL, hRL⟩ : ∃ R, L.map Fc.rings = R := ⟨_, rfl⟩
  have HRL := Lib.hid hRL
  rw [hRL] at HY ⊢
  clear hY hJ hJx hr0 hok hl1 hl2 hN hRL hBn hBW
  gi_wp2
  gi_loopw [11] (fun i wr => ∃ k : Nat, i = .int .i64 k ∧ k ≤ N ∧ J (someSd RL k) wr ∧ Below W0.heap.size W0 wr ∧ W.heap.size ≤ wr.heap.size) (fun i _ => N - (intOf i).toNat)
  case atStart => exact ⟨0, rfl, Nat.zero_le _, h0, hb0, Nat.le_refl _⟩
  case round =>
    obtain ⟨i, rfl, hi, hj, hbw, hsw⟩ := hrel
    by_cases hlt : i < N
    · have hlt' : (i : Int) < (N : Int) := by omega
      have hil : i < L.length := by rw [HN.out]; exact hlt
      obtain ⟨b1, o1, rfl, hbb, c0, c1⟩ := (HR.out.keep hbw).fc i hil
      have hiR : i < RL.length := by rw [← HRL.out, List.length_map]; exact hil
      have HRI : Hid (RL[i]! = L[i].rs.map PC.l) := Lib.hid (by rw [getElem!_pos RL i hiR]; simp only [← HRL.out, List.getElem_map, Fc.rings])
      have HFO := Lib.hid (HOK.out _ (List.getElem_mem hil))
      have hf1 := HL1.out _ (List.getElem_mem hil)
      have HF2 := Lib.hid (HL2.out _ (List.getElem_mem hil))
      generalize L[i] = f at *
      obtain ⟨rs, ra, rc, ls, aa, ac⟩ := f
      dsimp only [Fc.rval, Fc.aval] at c0 c1 hf1 HF2 HRI
      obtain ⟨RN, hRN⟩ : ∃ R, rs.length = R := ⟨_, rfl⟩
      have HRN := Lib.hid hRN
      rw [hRN] at c0 hf1
      clear hRN
      have hnb : b1 ≠ wr.heap.size := by omega
      gi_wp2
      have hbA := Below.new wr (.cells #[.slice ra RN rc, .slice aa ls.length ac] 41)
      have hjA := HJ.out _ _ _ none hj (grownBy_of_below hbA none) (fun r h => by cases h)
      have hA0 := hbw.trans (hbA.mono hbw.size)
      have hsA : W.heap.size ≤ (wr.alloc (.cells #[.slice ra RN rc, .slice aa ls.length ac] 41)).heap.size := by simp; omega
      have HAH := Lib.hid (fun k n => sd_ahead RL i k n hiR)
      have HSU := Lib.hid (someSd_succ RL i)
      obtain ⟨FR, hFR⟩ : ∃ R, RL[i]! = R := ⟨_, rfl⟩
      rw [hFR] at HAH HRI HSU
      have hFRl : FR.length = RN := by rw [HRI.out, List.length_map, HRN.out]
      rw [hFRl] at HSU HAH
      clear hFR hbA hj
      generalize wr.alloc (.cells #[.slice ra RN rc, .slice aa ls.length ac] 41) = wA at *
      gi_loopw [19] (fun k wr => ∃ j : Nat, k = .int .i64 j ∧ j ≤ RN ∧ J (someSd RL i ++ faceSd i FR j) wr ∧ Below W0.heap.size W0 wr ∧ W.heap.size ≤ wr.heap.size) (fun k _ => RN - (intOf k).toNat)
      case atStart => exact ⟨0, rfl, Nat.zero_le _, by simpa [faceSd] using hjA, hA0, hsA⟩
      case round =>
        obtain ⟨k, rfl, hk, hj2, hb2, hs2⟩ := hrel
        by_cases hkt : k < RN
        · have hkt' : (k : Int) < (RN : Int) := by omega
          have hkl : k < rs.length := by rw [HRN.out]; exact hkt
          obtain ⟨b2, o2, rfl, hbb2, d0⟩ := (HFO.out.1.1.keep hb2).rc k hkl
          have hkF : k < FR.length := by rw [hFRl]; exact hkt
          have HRK : Hid (FR[k]! = rs[k].l) := Lib.hid (by rw [getElem!_pos FR k hkF]; simp only [HRI.out, List.getElem_map])
          have HRO := Lib.hid (HFO.out.2.1 _ (List.getElem_mem hkl))
          have hl2 := HF2.out _ (List.getElem_mem hkl)
          have HAK := Lib.hid (fun n => HAH.out k n hkt)
          have HFU := Lib.hid (faceSd_succ i FR k)
          rw [HRK.out] at HAK HFU
          clear HRK
          generalize rs[k] = R at *
          obtain ⟨LL, Rp, Rc⟩ := R
          dsimp only [PC.val] at d0 hl2 HAK HFU
          obtain ⟨LN, hLN⟩ : ∃ R, LL.length = R := ⟨_, rfl⟩
          have HLN := Lib.hid hLN
          rw [hLN] at d0 hl2 HAK
          clear hLN
          gi_wp2
          gi_loopw [26] (fun n wr => ∃ j : Nat, n = .int .i64 j ∧ j ≤ LN ∧ J (someSd RL i ++ (faceSd i FR k ++ (ringSd i k LL).take j)) wr ∧ Below W0.heap.size W0 wr ∧ W.heap.size ≤ wr.heap.size) (fun n _ => LN - (intOf n).toNat)
          case atStart => exact ⟨0, rfl, Nat.zero_le _, by simpa using hj2, hb2, hs2⟩
          case round =>
            obtain ⟨n, rfl, hn, hj3, hb3, hs3⟩ := hrel
            by_cases hnt : n < LN
            · have hnt' : (n : Int) < (LN : Int) := by omega
              have hnl : n < LL.length := by rw [HLN.out]; exact hnt
              obtain ⟨q, hq⟩ : ∃ q, (n + 1) % LN = q := ⟨_, rfl⟩
              have hqn : q < LN := by rw [← hq]; exact Nat.mod_lt _ (by omega)
              have hql : q < LL.length := by rw [HLN.out]; exact hqn
              obtain ⟨b, off, rfl, hb, c0, c1⟩ := (HRO.out.1.keep hb3).pt n hnl
              obtain ⟨b', off', e, hb', e0, e1⟩ := (HRO.out.1.keep hb3).pt q hql
              cases e
              obtain ⟨HSN, HPX⟩ := HAK.out n hnt
              rw [hq, getElem!_pos LL n hnl, getElem!_pos LL q hql] at HSN
              have hyy := fun W1 hj1 => HY.out _ ⟨i, k, LL[n], LL[q]⟩ W1 hj1 (by rw [HSN]; exact HPX)
              rw [HSN] at hyy
              have hrem : ((n : Int) + 1) % (LN : Int) = (q : Int) := by rw [← hq]; simp
              obtain ⟨⟨x1, y1⟩, hp1⟩ : ∃ p, LL[n] = p := ⟨_, rfl⟩
              obtain ⟨⟨x2, y2⟩, hp2⟩ : ∃ p, LL[q] = p := ⟨_, rfl⟩
              rw [hp1] at c0 c1
              rw [hp2] at e0 e1
              rw [hp1, hp2] at hyy
              dsimp only [Pt.val, Sd.val] at c0 c1 e0 e1 hyy
              have hbB := Below.new wr (.cells #[.int .i64 x1, .int .i64 y1] 32)
              have hjB := HJ.out _ _ _ none hj3 (grownBy_of_below hbB none) (fun r h => by cases h)
              have hjD : J (someSd RL i ++ (faceSd i FR k ++ (ringSd i k LL).take n)) (wr.alloc (.cells #[.int .i64 x1, .int .i64 y1] 32)).drew := HJ.out _ _ _ none hjB ⟨rfl, rfl, rfl, Nat.le_refl _, fun _ _ _ => rfl⟩ (fun r h => by cases h)
              obtain ⟨fn, tmps, assign, body, hy, hR⟩ := hyy _ hjD
              have HRR := Lib.hid hR
              have hbD : Below W0.heap.size W0 (wr.alloc (.cells #[.int .i64 x1, .int .i64 y1] 32)).drew := (hb3.alloc hb3.size _).drew
              have hsD : W.heap.size ≤ (wr.alloc (.cells #[.int .i64 x1, .int .i64 y1] 32)).drew.heap.size := by show W.heap.size ≤ (wr.alloc _).heap.size; simp; omega
              have hlz : (LN : Int) ≠ 0 := by omega
              have hrem2 : (IntKind.i64.wrap ((n : Int) + 1)).tmod (LN : Int) = (q : Int) := by
                rw [IntWalk.i64_in _ (by omega), Int.tmod_eq_emod_of_nonneg (by omega)]
                exact hrem
              have hq0 : (0 : Int) ≤ (q : Int) ∧ (q : Int) < (LN : Int) := by omega
              have hnb2 : b ≠ wr.heap.size := by omega
              have hln : ¬ LN = 0 := by omega
              clear hyy hq hp1 hp2 hR hjB hjD hj3 HSN HPX hrem
              gi_wp2
              gi_region_with (refine ⟨(fun h => by cases h), HRR.out.mono ?_⟩; rintro e W3 hW3; obtain ⟨bb, rfl, hcs⟩ := yield_bool hW3; replace hcs := Lib.hid hcs)
              all_goals
                rcases hcs.out with ⟨rfl, hJ3, hk3⟩ | ⟨rfl, hJ3⟩
                · gi_wp2
                  go_roundw
                  case rel =>
                    exact ⟨n + 1, by go_num, by omega, hJ3, hbD.trans hk3, Nat.le_trans hsD hk3.size⟩
                  case measure => simp [intOf]; omega
                · gi_wp2
                  exact ⟨rfl, .tuple #[], by simp [results, Try.results30, go_sem], ⟨_, rfl⟩, .inr ⟨_, hJ3⟩⟩
            · have hnt' : ¬ (n : Int) < (LN : Int) := by omega
              have hall : (ringSd i k LL).take n = ringSd i k LL := List.take_of_length_le (by simp [ringSd, edges, HLN.out]; omega)
              rw [hall, ← HFU.out] at hj3
              gi_wp2
              go_roundw
              case rel => exact ⟨k + 1, by go_num, by omega, hj3, hb3, hs3⟩
              case measure => simp [intOf]; omega
        · have hkt' : ¬ (k : Int) < (RN : Int) := by omega
          obtain rfl : k = RN := by omega
          rw [← HSU.out] at hj2
          gi_wp2
          go_roundw
          case rel => exact ⟨i + 1, by go_num, by omega, hj2, hb2, hs2⟩
          case measure => simp [intOf]; omega
    · have hlt' : ¬ (i : Int) < (N : Int) := by omega
      have hiN : i = RL.length := by rw [← HRL.out, List.length_map, HN.out]; omega
      gi_wp2
      go_end0
      first
        | exact ⟨⟨_, rfl⟩, .inl ⟨allSd RL, rfl, by unfold allSd; rw [← hiN]; exact hj⟩⟩
        | exact .inl (by unfold allSd; rw [← hiN]; exact hj)
        | exact ⟨⟨_, rfl⟩, .inl (by unfold allSd; rw [← hiN]; exact hj)⟩

theorem sides_in (n : Nat) (a : Option Addr) (m c : Nat) (w : World) :
    CallsIn Fence.wide n Try.prog 18 #[.slice a m c] w fun e w' => e = .returned (.func (.func 30) #[] #[.pointer (some ⟨w.heap.size, 0, none⟩)]) ∧ w' = w.alloc (.cells #[.slice a m c] 22) := by
  refine callsIn_of_wp Try.func18 rfl trivial ?_ rfl
  simp only [Try.ntmps18, List.size_toArray, List.length_cons, List.length_nil, Nat.reduceAdd, Nat.reduceSub, Array.replicate_succ, Array.replicate_zero, List.push_toArray, List.append_toArray, List.nil_append, List.cons_append]
  gi_wp2
  go_ret
  exact ⟨rfl, rfl⟩

theorem sides_leave (n : Nat) (Bn : Nat) (a : Option Addr) (c : Nat) (L : List Fc) (hlen : L.length ≤ 1000000) (hl1 : ∀ f ∈ L, f.rs.length ≤ 1000000) (hl2 : ∀ f ∈ L, ∀ r ∈ f.rs, r.l.length ≤ 1000000)
    (W0 : World) (hr : Rd W0 a (fcs L)) (hok : ∀ f ∈ L, f.Ok W0) (fr : Nat × Nat) (hBn : W0.heap[Bn]? = some (.cells #[.slice a L.length c] 22 fr)) :
    SeqLeave Fence.wide n Try.prog 30 #[.pointer (some ⟨Bn, 0, none⟩)] (fun x : Sd => #[x.val]) (fun pre x _ => pre ++ [x] <+: allSd (L.map Fc.rings)) (Below W0.heap.size) (fun xs _ => xs = allSd (L.map Fc.rings)) W0 := by
  intro l J Jx W hb0 hJ hJx hY h0
  exact sides1_in n l Bn a c L hlen hl1 hl2 W0 hr hok fr hBn J Jx W hb0 hJ hJx hY h0
end Go.Proofs.Ytediblljgakoeaa
