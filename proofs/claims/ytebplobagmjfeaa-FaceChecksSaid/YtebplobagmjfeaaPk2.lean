/-
  Faces in memory: attributes, rings, faces; what keeps them.
-/
import Derived.Test.YtebplobagmjfeaaPk1
import Derived.RangeFuncBox
/- Faces in memory: attributes, rings, faces; what keeps them. -/
set_option linter.unusedVariables false
set_option linter.unusedSimpArgs false
set_option maxRecDepth 100000
namespace Go
open Go.RowKit
/-- An attribute. -/
structure At where
  key : ByteArray
  kind : Int
  text : ByteArray
  n : Int
instance : Inhabited At := ⟨⟨ByteArray.empty, 0, ByteArray.empty, 0⟩⟩
def At.cells (a : At) : List Value := [.string a.key, .int .i64 a.kind, .string a.text, .int .i64 a.n]
def At.val (a : At) : Value := .agg #[.string a.key, .int .i64 a.kind, .string a.text, .int .i64 a.n]
def ats (l : List At) : List Value := l.flatMap At.cells
theorem At.cells_len (a : At) : a.cells.length = 4 := rfl
theorem ats_len (l : List At) : (ats l).length = l.length * 4 := by
  unfold ats
  induction l with
  | nil => rfl
  | cons a l ih => simp only [List.flatMap_cons, List.length_append, ih, List.length_cons, At.cells_len]; omega
theorem ats_snoc (l : List At) (a : At) : ats (l ++ [a]) = ats l ++ a.cells := by simp [ats]
/-- A face. -/
structure Fc where
  rs : List PC
  ra : Option Addr
  rc : Nat
  ls : List At
  aa : Option Addr
  ac : Nat
instance : Inhabited Fc := ⟨⟨[], none, 0, [], none, 0⟩⟩
def Fc.rval (f : Fc) : Value := .slice f.ra f.rs.length f.rc
def Fc.aval (f : Fc) : Value := .slice f.aa f.ls.length f.ac
def Fc.cells (f : Fc) : List Value := [f.rval, f.aval]
def Fc.val (f : Fc) : Value := .agg #[f.rval, f.aval]
def rcs (l : List PC) : List Value := l.flatMap PC.cells
def fcs (l : List Fc) : List Value := l.flatMap Fc.cells
theorem rcs_len (l : List PC) : (rcs l).length = l.length * 1 := by
  unfold rcs
  induction l with
  | nil => rfl
  | cons a l ih => simp only [List.flatMap_cons, List.length_append, ih, List.length_cons, PC.cells, List.length_nil]; omega
theorem fcs_len (l : List Fc) : (fcs l).length = l.length * 2 := by
  unfold fcs
  induction l with
  | nil => rfl
  | cons a l ih => simp only [List.flatMap_cons, List.length_append, ih, List.length_cons, Fc.cells, List.length_nil]; omega
theorem rcs_snoc (l : List PC) (x : PC) : rcs (l ++ [x]) = rcs l ++ [x.val] := by simp [rcs, PC.cells]
theorem fcs_snoc (l : List Fc) (x : Fc) : fcs (l ++ [x]) = fcs l ++ x.cells := by simp [fcs]
/-- What is told of a face: its points, its attributes. -/
def Fc.rings (f : Fc) : List (List Pt) := f.rs.map PC.l
/-- A face that can be read. -/
def Fc.Ok (W : World) (f : Fc) : Prop :=
  (Rd W f.ra (rcs f.rs) ∧ f.rs.length ≤ f.rc ∧ f.rc ≤ maxLen ∧ (f.ra = none → f.rc = 0)) ∧ (∀ r ∈ f.rs, r.Ok W) ∧ (Rd W f.aa (ats f.ls) ∧ f.ls.length ≤ f.ac ∧ f.ac ≤ maxLen ∧ (f.aa = none → f.ac = 0))
theorem Fc.Ok.keep {w w' : World} {f : Fc} (h : f.Ok w) (hb : Below w.heap.size w w') : f.Ok w' :=
  ⟨⟨h.1.1.keep hb, h.1.2⟩, fun r hr => (h.2.1 r hr).keep hb, ⟨h.2.2.1.keep hb, h.2.2.2⟩⟩

/-- The cells of one face of many. -/
theorem Rd.fc {w : World} {a : Option Addr} {l : List Fc} (h : Rd w a (fcs l)) (i : Nat) (hi : i < l.length) :
    ∃ b off, a = some ⟨b, off, none⟩ ∧ b < w.heap.size ∧ w.cell? ⟨b, off + i * 2, none⟩ = some l[i].rval ∧ w.cell? ⟨b, off + i * 2 + 1, none⟩ = some l[i].aval := by
  have g : ∀ j, j < 2 → (fcs l)[i * 2 + j]? = (l[i]).cells[j]? := fun j hj => flatMap_get Fc.cells 2 (fun _ => rfl) l i j hi hj
  obtain ⟨b, off, rfl, h0, hb⟩ := h.at (i := i * 2 + 0) (v := l[i].rval) (by rw [g 0 (by omega)]; rfl)
  obtain ⟨b', off', e, h1, -⟩ := h.at (i := i * 2 + 1) (v := l[i].aval) (by rw [g 1 (by omega)]; rfl)
  cases e
  exact ⟨b, off, rfl, hb, h0, by rw [Nat.add_assoc]; exact h1⟩
/-- One ring of many. -/
theorem Rd.rc {w : World} {a : Option Addr} {l : List PC} (h : Rd w a (rcs l)) (i : Nat) (hi : i < l.length) :
    ∃ b off, a = some ⟨b, off, none⟩ ∧ b < w.heap.size ∧ w.cell? ⟨b, off + i, none⟩ = some l[i].val := by
  have g : (rcs l)[i * 1 + 0]? = (l[i]).cells[0]? := flatMap_get PC.cells 1 (fun _ => rfl) l i 0 hi (by omega)
  obtain ⟨b, off, rfl, h0, hb⟩ := h.at (i := i * 1 + 0) (v := l[i].val) (by rw [g]; rfl)
  exact ⟨b, off, rfl, hb, by rw [Nat.mul_one, Nat.add_zero] at h0; exact h0⟩
/-- The cells of one attribute of many. -/
theorem Rd.atr {w : World} {a : Option Addr} {l : List At} (h : Rd w a (ats l)) (i : Nat) (hi : i < l.length) :
    ∃ b off, a = some ⟨b, off, none⟩ ∧ b < w.heap.size ∧ w.cell? ⟨b, off + i * 4, none⟩ = some (.string l[i].key) ∧ w.cell? ⟨b, off + i * 4 + 1, none⟩ = some (.int .i64 l[i].kind) ∧ w.cell? ⟨b, off + i * 4 + 2, none⟩ = some (.string l[i].text) ∧ w.cell? ⟨b, off + i * 4 + 3, none⟩ = some (.int .i64 l[i].n) := by
  have g : ∀ j, j < 4 → (ats l)[i * 4 + j]? = (l[i]).cells[j]? := fun j hj => flatMap_get At.cells 4 (fun _ => rfl) l i j hi hj
  obtain ⟨b, off, rfl, h0, hb⟩ := h.at (i := i * 4 + 0) (v := .string l[i].key) (by rw [g 0 (by omega)]; rfl)
  obtain ⟨b', off', e, h1, -⟩ := h.at (i := i * 4 + 1) (v := .int .i64 l[i].kind) (by rw [g 1 (by omega)]; rfl)
  cases e
  obtain ⟨b', off', e, h2, -⟩ := h.at (i := i * 4 + 2) (v := .string l[i].text) (by rw [g 2 (by omega)]; rfl)
  cases e
  obtain ⟨b', off', e, h3, -⟩ := h.at (i := i * 4 + 3) (v := .int .i64 l[i].n) (by rw [g 3 (by omega)]; rfl)
  cases e
  refine ⟨b, off, rfl, hb, h0, ?_, ?_, ?_⟩
  · rw [Nat.add_assoc]; exact h1
  · rw [Nat.add_assoc]; exact h2
  · rw [Nat.add_assoc]; exact h3
theorem ats_one (l : List At) : ∀ u ∈ ats l, u.oneCell' = true := by
  intro u hu
  obtain ⟨p, -, hu⟩ := List.mem_flatMap.1 hu
  simp [At.cells] at hu
  rcases hu with rfl | rfl | rfl | rfl <;> rfl
theorem rcs_one (l : List PC) : ∀ u ∈ rcs l, u.oneCell' = true := by
  intro u hu
  obtain ⟨p, -, hu⟩ := List.mem_flatMap.1 hu
  simp [PC.cells, PC.val] at hu
  rw [hu]; rfl
theorem fcs_one (l : List Fc) : ∀ u ∈ fcs l, u.oneCell' = true := by
  intro u hu
  obtain ⟨p, -, hu⟩ := List.mem_flatMap.1 hu
  simp [Fc.cells, Fc.rval, Fc.aval] at hu
  rcases hu with rfl | rfl <;> rfl
/-- The block of an address is a row of elements of type T. -/
def TypB (W : World) (a : Option Addr) (T : TypeId) : Prop := ∀ b, a.map (·.block) = some b → ∃ cs fr, W.heap[b]? = some (.cells cs T fr)
theorem TypB.none (W : World) (T : TypeId) : TypB W none T := fun b h => by simp at h
theorem TypB.of_owns {W : World} {base : Nat} {e : TypeId} {size n c m : Nat} {a : Option Addr} {xs : List Value} (h : W.ownsRow base e size (.slice a n c) m xs) : TypB W a e := by
  intro b hb
  rcases h.2 with ⟨h1, -⟩ | ⟨g, cap, cur, h1, -, hg, -⟩
  · cases h1; simp at hb
  · cases h1
    simp at hb
    subst hb
    exact ⟨cur, _, hg⟩
/-- Blocks of elements of types in S stay. -/
def KeepS (S : TypeId → Prop) (A B : World) : Prop := A.heap.size ≤ B.heap.size ∧ ∀ (k : Nat) (cs : Array Value) (V : TypeId) (fr : Nat × Nat), A.heap[k]? = some (Obj.cells cs V fr) → S V → B.heap[k]? = A.heap[k]?
theorem KeepS.refl {S : TypeId → Prop} (A : World) : KeepS S A A := ⟨Nat.le_refl _, fun _ _ _ _ _ _ => rfl⟩
theorem KeepS.trans {S : TypeId → Prop} {A B C : World} (h : KeepS S A B) (k : KeepS S B C) : KeepS S A C :=
  ⟨Nat.le_trans h.1 k.1, fun i cs V fr hi hv => by
    have h1 := h.2 i cs V fr hi hv
    rw [k.2 i cs V fr (h1.trans hi) hv, h1]⟩
theorem KeepS.of_below {S : TypeId → Prop} {A B : World} (h : Below A.heap.size A B) : KeepS S A B :=
  ⟨h.size, fun k _ _ _ hk _ => h.block k (Array.getElem?_eq_some_iff.1 hk).1⟩
theorem KeepS.of_grownBy {S : TypeId → Prop} {A B : World} {row : Option Nat} (hg : A.grownBy B row) (hr : ∀ r, row = some r → ∀ cs V fr, A.heap[r]? = some (Obj.cells cs V fr) → ¬ S V) : KeepS S A B :=
  ⟨hg.size, fun k cs V fr hk hv => hg.block k (Array.getElem?_eq_some_iff.1 hk).1 fun e => hr k e.symm cs V fr hk hv⟩
theorem KeepS.of_row {S : TypeId → Prop} {A B : World} {n₀ : Nat} {e : TypeId} {size : Nat} {v : Value} {k : Nat} {xs : List Value} (hrow : A.ownsRow n₀ e size v k xs) (hS : ¬ S e) (hg : A.grownBy B v.ownBlock) : KeepS S A B :=
  KeepS.of_grownBy hg fun r he cs V fr hk => by
    rcases hrow.2 with ⟨rfl, _⟩ | ⟨g, cap, cur, rfl, _, hgb, _⟩
    · cases he
    · obtain rfl : g = r := by simpa [Value.ownBlock] using he
      rw [hgb] at hk
      cases hk
      exact hS
theorem KeepS.store {S : TypeId → Prop} {A : World} {p : Addr} {t : TypeId} {cs : Array Value} {fr : Nat × Nat} (h : A.heap[p.block]? = some (.cells cs t fr)) (hS : ¬ S t) (u : Value) : KeepS S A (A.setCell p u) := by
  refine ⟨by simp [World.setCell], fun k cs' V fr' hk hv => ?_⟩
  refine Below.heap_setCell A p u k (fun e => ?_)
  subst e
  rw [h] at hk
  cases hk
  exact hS hv
theorem Rd.keepS {S : TypeId → Prop} {A B : World} {a : Option Addr} {vs : List Value} {T : TypeId} (h : Rd A a vs) (ht : TypB A a T) (hS : S T) (k : KeepS S A B) : Rd B a vs := by
  rcases h with h | ⟨b, off, rfl, hc⟩
  · exact .inl h
  · refine .inr ⟨b, off, rfl, fun i v hv => ?_⟩
    obtain ⟨cs, fr, hb⟩ := ht b rfl
    have := hc i v hv
    simp only [World.cell?, k.2 b cs T fr hb hS]
    exact this
theorem TypB.keepS {S : TypeId → Prop} {A B : World} {a : Option Addr} {T : TypeId} (ht : TypB A a T) (hS : S T) (k : KeepS S A B) : TypB B a T := by
  intro b hb
  obtain ⟨cs, fr, h⟩ := ht b hb
  exact ⟨cs, fr, (k.2 b cs T fr h hS).trans h⟩
end Go
namespace Go.Proofs.Ytebplobagmjfeaa
open Go.RowKit
/-- A ring of our own making. -/
def PcT (W : World) (x : PC) : Prop := x.Ok W ∧ TypB W x.p 37
/-- A face of our own making. -/
def FcT (W : World) (f : Fc) : Prop := f.Ok W ∧ TypB W f.ra 65 ∧ (∀ r ∈ f.rs, PcT W r) ∧ TypB W f.aa 100
/-- The types of what faces are made of. -/
def faceS (T : TypeId) : Prop := T = 37 ∨ T = 65 ∨ T = 100
theorem PcT.keepS {S : TypeId → Prop} {A B : World} {x : PC} (h : PcT A x) (hS : S 37) (k : KeepS S A B) : PcT B x :=
  ⟨⟨h.1.1.keepS h.2 hS k, h.1.2⟩, h.2.keepS hS k⟩
theorem FcT.keepS {A B : World} {f : Fc} (h : FcT A f) (k : KeepS faceS A B) : FcT B f := by
  obtain ⟨⟨h1, h2, h3⟩, t1, t2, t3⟩ := h
  exact ⟨⟨⟨h1.1.keepS t1 (.inr (.inl rfl)) k, h1.2⟩, fun r hr => ((t2 r hr).keepS (.inl rfl) k).1, ⟨h3.1.keepS t3 (.inr (.inr rfl)) k, h3.2⟩⟩, t1.keepS (.inr (.inl rfl)) k, fun r hr => (t2 r hr).keepS (.inl rfl) k, t3.keepS (.inr (.inr rfl)) k⟩
theorem FcT.keep {A B : World} {f : Fc} (h : FcT A f) (hb : Below A.heap.size A B) : FcT B f := h.keepS (KeepS.of_below hb)
theorem PcT.keep {A B : World} {f : PC} (h : PcT A f) (hb : Below A.heap.size A B) : PcT B f := h.keepS (S := faceS) (.inl rfl) (KeepS.of_below hb)
theorem faceS_face : ¬ faceS 49 := by unfold faceS; decide
theorem Try.infoAt : (Try.prog.info? 100).map (fun i => (i.zero, i.size, i.bytes)) = some (some (.agg #[.string ⟨#[]⟩, .int .i64 0, .string ⟨#[]⟩, .int .i64 0]), 4, 48) := by kernel_rfl
theorem Try.infoFace : (Try.prog.info? 49).map (fun i => (i.zero, i.size, i.bytes)) = some (some (.agg #[.slice none 0 0, .slice none 0 0]), 2, 48) := by kernel_rfl
theorem Try.infoRow : (Try.prog.info? 65).map (fun i => (i.zero, i.size, i.bytes)) = some (some (.slice none 0 0), 1, 24) := by kernel_rfl
theorem Try.infoPnt : (Try.prog.info? 37).map (fun i => (i.zero, i.size, i.bytes)) = some (some (.agg #[.int .i64 0, .int .i64 0]), 2, 16) := by kernel_rfl
end Go.Proofs.Ytebplobagmjfeaa
