/-
  A map that the call makes, told by what stands at each key, as raw values, and by how many keys there are: keys are whatever 'key' turns into values. A map of keys to true, filled from a list: a set. A map of values to bools: the set of values met. table.once, (*table.Table).Check: of a right table. (*table.Table).Attrs: of right tags.
-/
import Derived.Test.YtjggoajfilnfjaaGreatPk1
import Derived.Maps.OwnSet
import Derived.WideKeyEntry
import Derived.Test.YtjggoajfilnfjaaGreatProg
import Derived.Test.YtjggoajfilnfjaaGreatPk5
import Derived.DeepKeys4
import Derived.Test.YtjggoajfilnfjaaGreatPk15
import Derived.Test.YtjggoajfilnfjaaGreatPk13
import Derived.Test.YtjggoajfilnfjaaGreatPk12
import Derived.Test.YtjggoajfilnfjaaGreatPk8
set_option linter.unusedVariables false
set_option linter.unusedSimpArgs false
namespace Go
open Go.RowKit Go.ChangeMaps Go.MapKept Go.WideShapes
open Go.WideElems (Fit rd rg pl rd_val elemAt findIdx_born findIdx_arr modify_last set_self)
open Go.Maps (Keyed IsMap Tidy)

def rawElem (v : Value) : Option (DataW Value × List MemPlace) := some (.held v, [])

def VMap {α : Type} (P : Program) (K : TypeId) (key : α → Value) (w : World) (b : Nat) (f : α → Option Value) (m n : Nat) : Prop :=
 ∃ D : DataW Value, w.ownsMap P K rawElem b n D ∧ Maps.size D = m ∧ ∀ a l, keyOf P K (key a) = some l → Maps.has D l = (f a).isSome ∧ ∀ z, D.atKey l z = match f a with | some v => .held v | none => z

section
variable {α : Type} {P : Program} {K E T : TypeId} {key : α → Value} {w w' : World} {b m n : Nat} {f : α → Option Value}

theorem VMap.made (P : Program) (K : TypeId) (key : α → Value) (w : World) : VMap P K key (w.alloc (.map #[] 0)) w.heap.size (fun _ => none) 0 0 :=
 ⟨.map [], World.ownsMap_made w P K _, rfl, fun a l _ => ⟨rfl, fun z => rfl⟩⟩

theorem VMap.madeB (P : Program) (K : TypeId) (key : α → Value) (w : World) (B : Nat) (hB : w.heap.size = B) : VMap P K key (w.alloc (.map #[] 0)) B (fun _ => none) 0 0 := by
 subst hB; exact VMap.made P K key w

theorem VMap.lt (h : VMap P K key w b f m n) : b < w.heap.size := by
 obtain ⟨D, hD, _⟩ := h; exact hD.lt

theorem VMap.same (h : VMap P K key w b f m n) (hb : w'.heap[b]? = w.heap[b]?) : VMap P K key w' b f m n := by
 obtain ⟨D, ⟨es, clock, he, r⟩, hs, hk⟩ := h; exact ⟨D, ⟨es, clock, hb.trans he, r⟩, hs, hk⟩

theorem VMap.below {B : Nat} (h : VMap P K key w b f m n) (hb : Below B w w') (hB : b < B) : VMap P K key w' b f m n := h.same (hb.block b hB)
theorem VMap.keep (h : VMap P K key w b f m n) (hb : Below w.heap.size w w') : VMap P K key w' b f m n := h.below hb h.lt
theorem VMap.kept {row : Option Nat} (h : VMap P K key w b f m n) (hg : w.grownBy w' row) (hne : some b ≠ row) : VMap P K key w' b f m n := h.same (hg.block b h.lt hne)
theorem VMap.alloc (h : VMap P K key w b f m n) (o : Obj) : VMap P K key (w.alloc o) b f m n := h.kept (World.grownBy_alloc w o none) (by simp)
theorem VMap.mono (h : VMap P K key w b f m n) {n' : Nat} (hn : n ≤ n') : VMap P K key w b f m n' := by
 obtain ⟨D, hD, r⟩ := h; exact ⟨D, hD.mono hn, r⟩
theorem VMap.le (h : VMap P K key w b f m n) : m ≤ n := by
 obtain ⟨D, hD, rfl, _⟩ := h; exact hD.size_le
theorem VMap.congr (h : VMap P K key w b f m n) {f' : α → Option Value} (hf : ∀ a, f' a = f a) : VMap P K key w b f' m n := by
 have : f' = f := funext hf; rw [this]; exact h

theorem VMap.look (h : VMap P K key w b f m n) (KK : Keyed P K) (ht : P.underlying T = some (.map K E)) {z : Value} (hz : (zeroValue E).run P w = .ok z w) {a : α} (hk : ∃ l, keyOf P K (key a) = some l) :
  (Instr.lookup T (.map (some b)) (key a) false).run P w = .ok ((f a).getD z) w := by
 obtain ⟨D, hD, _, hf⟩ := h; obtain ⟨l, hl⟩ := hk; obtain ⟨v, ps, hrun, hv⟩ := hD.lookup KK ht hz (zd := .held z) (zp := []) rfl hl; rw [hrun]; rw [(hf a l hl).2] at hv; simp only [rawElem, Option.some.injEq, Prod.mk.injEq] at hv
 cases hfa : f a with
 | none => rw [hfa] at hv; simp at hv; simp [hv.1]
 | some u => rw [hfa] at hv; simp at hv; simp [hv.1]

open Classical in
noncomputable def fput (f : α → Option Value) (a : α) (v : Value) : α → Option Value := fun x => if x = a then some v else f x
open Classical in
noncomputable def fdel (f : α → Option Value) (a : α) : α → Option Value := fun x => if x = a then none else f x
@[simp] theorem fput_same (f : α → Option Value) (a : α) (v : Value) : fput f a v a = some v := by simp [fput]
theorem fput_other (f : α → Option Value) {a x : α} (v : Value) (h : x ≠ a) : fput f a v x = f x := by simp [fput, h]
@[simp] theorem fdel_same (f : α → Option Value) (a : α) : fdel f a a = none := by simp [fdel]
theorem fdel_other (f : α → Option Value) {a x : α} (h : x ≠ a) : fdel f a x = f x := by simp [fdel, h]

theorem VMap.of_put {D : DataW Value} (KK : Keyed P K) (inj : ∀ x y, key x = key y → x = y) (hD : w.ownsMap P K rawElem b n D) (hs : Maps.size D = m) (hf : ∀ a l, keyOf P K (key a) = some l → Maps.has D l = (f a).isSome ∧ ∀ z, D.atKey l z = match f a with | some v => .held v | none => z)
  {a : α} {l : Lit} (hl : keyOf P K (key a) = some l) (v : Value) (ho : w'.ownsMap P K rawElem b (n + 1) (D.put l (.held v))) :
  VMap P K key w' b (fput f a v) (if (f a).isSome then m else m + 1) (n + 1) := by
 have ti := hD.tidy KK; refine ⟨_, ho, ?_, fun x lx hx => ?_⟩
 ·rw [Maps.size_put ti, (hf a l hl).1, hs]
 ·by_cases e : x = a
  ·subst e; rw [hl] at hx; cases hx; rw [fput_same]; exact ⟨Maps.has_put_same ti.isMap (KK.key hl) _, fun z => Maps.atKey_put_same ti.isMap (KK.key hl) _ _⟩
  ·have hne : lx ≠ l := fun e2 => e (inj _ _ (KK.inj hx (e2 ▸ hl))); rw [fput_other f v e]; refine ⟨?_, fun z => ?_⟩
   ·rw [Maps.has_put_other hne]; exact (hf x lx hx).1
   ·rw [Maps.atKey_put_other hne]; exact (hf x lx hx).2 z

theorem VMap.put (h : VMap P K key w b f m n) (KK : Keyed P K) (inj : ∀ x y, key x = key y → x = y) (ht : P.underlying T = some (.map K E)) (hn : n < maxLen) {a : α} (hk : ∃ l, keyOf P K (key a) = some l) (v : Value) :
  ∃ w', (Instr.mapUpdate T (.map (some b)) (key a) v).run P w = .ok () w' ∧ VMap P K key w' b (fput f a v) (if (f a).isSome then m else m + 1) (n + 1) ∧ w.grownBy w' (some b) := by
 obtain ⟨D, hD, hs, hf⟩ := h; obtain ⟨l, hl⟩ := hk; obtain ⟨w', hrun, ho, hg⟩ := hD.update KK ht hn (d := .held v) (ps := []) hl rfl; exact ⟨w', hrun, VMap.of_put KK inj hD hs hf hl v ho, hg⟩

theorem VMap.drop (h : VMap P K key w b f m n) (KK : Keyed P K) (inj : ∀ x y, key x = key y → x = y) (ht : P.underlying T = some (.map K E)) {a : α} (hk : ∃ l, keyOf P K (key a) = some l) (ty : TypeId) :
  ∃ w', (Builtin.delete_ #[T, K] ty #[.map (some b), key a]).run P w = .ok (.tuple #[]) w' ∧ VMap P K key w' b (fdel f a) (if (f a).isSome then m - 1 else m) n ∧ w.grownBy w' (some b) := by
 obtain ⟨D, hD, hs, hf⟩ := h; obtain ⟨l, hl⟩ := hk; obtain ⟨w', hrun, ho, hg⟩ := hD.drop KK ht hl ty; have ti := hD.tidy KK; refine ⟨w', hrun, ⟨_, ho, ?_, fun x lx hx => ?_⟩, hg.grown⟩
 ·have := Maps.size_del (k := l) ti; rw [(hf a l hl).1, hs] at this
  split at this <;> simp_all <;> omega
 ·by_cases e : x = a
  ·subst e; rw [hl] at hx; cases hx; rw [fdel_same]; exact ⟨Maps.has_del_same, fun z => Maps.atKey_del_same z⟩
  ·have hne : lx ≠ l := fun e2 => e (inj _ _ (KK.inj hx (e2 ▸ hl))); rw [fdel_other f e]; refine ⟨?_, fun z => ?_⟩
   ·rw [Maps.has_del_other hne]; exact (hf x lx hx).1
   ·rw [Maps.atKey_del_other hne]; exact (hf x lx hx).2 z

theorem VMap.len (h : VMap P K key w b f m n) (ht : P.underlying T = some (.map K E)) (ty : TypeId) : (Builtin.len_ #[T] ty #[.map (some b)]).run P w = .ok (.int .i64 m) w := by
 obtain ⟨D, hD, rfl, hf⟩ := h; exact hD.len ht ty
end

section
variable {α : Type} {P : Program} {K E T : TypeId} {key : α → Value} {b m n : Nat} {f : α → Option Value} (w : World) {ops : Array Oper} {rest : List Oper} {o : Oper} {a : Act} {Q : Exit → Act → World → Prop}

theorem wpList_vmap_put (hg : o.guard = none) (mm x v : Operand) (hop : o.op = Op.mapUpdate T mm x v) (KK : Keyed P K) (inj : ∀ x y, key x = key y → x = y) (ht : P.underlying T = some (.map K E))
  (hm : a.eval mm = .map (some b)) (h : VMap P K key w b f m n) (hn : n < maxLen) (k : α) (hx : a.eval x = key k) (hk : ∃ l, keyOf P K (key k) = some l) (val : Value) (hv : a.eval v = val)
  (hK : ∀ w', VMap P K key w' b (fput f k val) (if (f k).isSome then m else m + 1) (n + 1) → w.grownBy w' (some b) → wpList P ops Q rest (a.put o.dst undef) w') :
  wpList P ops Q (o :: rest) a w := by
 refine wpList_plain hg fun K' hK' => ?_; obtain ⟨w', hrun, r1, r2⟩ := h.put KK inj ht hn hk val; unfold Oper.wp; simp [execOp, hop, hm, hx, hv, hrun, Result.andThen]; exact hK' _ _ (hK w' r1 r2)

end
end Go
namespace Go
open Go.RowKit
open Go.Maps (Keyed IsMap Tidy)

def setF {α : Type} [DecidableEq α] (l : List α) : α → Option Value := fun x => if x ∈ l then some (.bool true) else none

def VSet {α : Type} [DecidableEq α] (P : Program) (K : TypeId) (key : α → Value) (w : World) (b : Nat) (l : List α) : Prop :=
 ∃ m, VMap P K key w b (setF l) m l.length ∧ m ≤ l.length ∧ (m = l.length ↔ l.Nodup)

section
variable {α : Type} [DecidableEq α] {P : Program} {K E T : TypeId} {key : α → Value} {w w' : World} {b : Nat} {l : List α}
theorem setF_isSome (l : List α) (x : α) : (setF l x).isSome = decide (x ∈ l) := by unfold setF; split <;> simp_all
theorem setF_nil : setF ([] : List α) = fun _ => none := by funext x; simp [setF]
theorem setF_put (l : List α) (a x : α) : setF (l ++ [a]) x = fput (setF l) a (.bool true) x := by
 unfold fput setF
 by_cases h : x = a
 ·simp [h]
 ·simp [h]
theorem VSet.made (P : Program) (K : TypeId) (key : α → Value) (w : World) (B : Nat) (hB : w.heap.size = B) : VSet P K key (w.alloc (.map #[] 0)) B ([] : List α) :=
 ⟨0, by rw [setF_nil]; exact VMap.madeB P K key w B hB, Nat.le_refl _, by simp⟩
theorem VSet.lt (h : VSet P K key w b l) : b < w.heap.size := by obtain ⟨m, h, _⟩ := h; exact h.lt
theorem VSet.keep (h : VSet P K key w b l) (hb : Below w.heap.size w w') : VSet P K key w' b l := by obtain ⟨m, h, r⟩ := h; exact ⟨m, h.keep hb, r⟩
theorem VSet.kept {row : Option Nat} (h : VSet P K key w b l) (hg : w.grownBy w' row) (hne : some b ≠ row) : VSet P K key w' b l := by obtain ⟨m, h, r⟩ := h; exact ⟨m, h.kept hg hne, r⟩
omit [DecidableEq α] in
theorem nodup_snoc (l : List α) (a : α) : (l ++ [a]).Nodup ↔ l.Nodup ∧ a ∉ l := by
 rw [List.nodup_append]; constructor
 ·rintro ⟨h1, -, h3⟩; exact ⟨h1, fun h => h3 a h a (by simp) rfl⟩
 ·rintro ⟨h1, h2⟩; exact ⟨h1, by simp, fun x hx y hy e => by simp at hy; subst hy; subst e; exact h2 hx⟩
end
section
variable {α : Type} [DecidableEq α] {P : Program} {K E T : TypeId} {key : α → Value} {b : Nat} {l : List α} (w : World) {ops : Array Oper} {rest : List Oper} {o : Oper} {a : Act} {Q : Exit → Act → World → Prop}
theorem wpList_vset_put (hg : o.guard = none) (mm x v : Operand) (hop : o.op = Op.mapUpdate T mm x v) (KK : Keyed P K) (inj : ∀ x y, key x = key y → x = y) (ht : P.underlying T = some (.map K E))
  (hm : a.eval mm = .map (some b)) (h : VSet P K key w b l) (hn : l.length < maxLen) (k : α) (hx : a.eval x = key k) (hk : ∃ l, keyOf P K (key k) = some l) (hv : a.eval v = .bool true)
  (hK : ∀ w', VSet P K key w' b (l ++ [k]) → w.grownBy w' (some b) → wpList P ops Q rest (a.put o.dst undef) w') :
  wpList P ops Q (o :: rest) a w := by
 obtain ⟨m, h, hle, hiff⟩ := h; refine wpList_vmap_put w hg mm x v hop KK inj ht hm h hn k hx hk _ hv fun w' h' hg' => hK w' ⟨if (setF l k).isSome then m else m + 1, ?_, ?_, ?_⟩ hg'
 ·have := h'.congr (f' := setF (l ++ [k])) (setF_put l k); rw [List.length_append]; exact this
 ·rw [List.length_append, List.length_singleton]; split <;> omega
 ·rw [List.length_append, List.length_singleton, nodup_snoc, setF_isSome, ← hiff]
  by_cases hin : k ∈ l
  ·simp only [hin, decide_true, if_true, not_true_eq_false, and_false, iff_false]; omega
  ·simp only [hin, decide_false, Bool.false_eq_true, if_false, not_false_eq_true, and_true]; omega
end
end Go
namespace Go
open Go.RowKit
theorem vVal_inj (p q : VV) (h : vVal p = vVal q) : p = q := by
 obtain ⟨a, b, c⟩ := p; obtain ⟨d, e, f⟩ := q; simp [vVal] at h; rw [h.1, h.2.1, h.2.2]
end Go
namespace Go.Proofs.YtjggoajfilnfjaaGreat
open Go.RowKit
theorem kv.laidOut : laidOutB Tryz.prog = true := by kernel_rfl
theorem kv.val : Maps.Keyed Tryz.prog 101 := Maps.Keyed.of_law (deep_law_laid kv.laidOut (m := 2) (by omega) (of_decide_eq_true (by kernel_rfl)) (by kernel_rfl) (by rw [Tryz.underlying101]))
theorem kv.key (v : VV) (h1 : (Lit.int .i64 v.1).wf = true) (h2 : v.2.1.size ≤ maxLen) (h3 : (Lit.int .i64 v.2.2).wf = true) : ∃ l, keyOf Tryz.prog 101 (vVal v) = some l := by
 have k1 : Tryz.prog.keyType 101 = true := by kernel_rfl
 have k2 : (vVal v).formed Tryz.prog 101 = true := by simp [Value.formed, vVal, Tryz.underlying101]; kernel_rfl
 unfold keyOf; rw [Tryz.underlying101]; simp only [k1, k2, Bool.and_self, if_true]; have h9 : ∃ n, Tryz.prog.types.size + 1 = n + 1 + 1 := ⟨Tryz.prog.types.size - 1, by kernel_rfl⟩; obtain ⟨n, hn⟩ := h9; have hc : Tryz.prog.cellsOf 101 = 3 := by kernel_rfl
 have hi : Tryz.prog.cellsOf 3 = 1 := by kernel_rfl
 have hs : Tryz.prog.cellsOf 9 = 1 := by kernel_rfl
 rw [hn]; simp [Program.keyLits, Tryz.underlying101, Tryz.underlying3, Tryz.underlying9, hc, hi, hs, vVal, Value.cells, h1, h3]; rw [if_pos h2]; simp
end Go.Proofs.YtjggoajfilnfjaaGreat
set_option maxRecDepth 100000
namespace Go
open Go.RowKit
theorem ba_ext {a b : ByteArray} (h : a.data.toList = b.data.toList) : a = b := ByteArray.ext (Array.toList_inj.1 h)
theorem nodup_at {α : Type} {l : List α} (h : l.Nodup) (k : Nat) (hk : k < l.length) : l[k] ∉ l.take k := by
 intro hm; have h3 : l[k] ∈ l.drop k := by rw [List.drop_eq_getElem_cons hk]; exact List.mem_cons_self
 rw [← List.take_append_drop k l] at h; have h2 := (List.nodup_append.1 h).2.2 _ hm _ h3; exact h2 rfl
end Go
namespace Go.Proofs.YtjggoajfilnfjaaGreat
open Go.RowKit
theorem chk1_ok (k : ByteArray) (hk : k.size ≤ maxLen) (hn : nameF k = true) (w : World) :
  Calls Tryz.prog 109 #[.string k] w fun e w' => e = .returned (.int .i64 0) ∧ Below w.heap.size w w' := by
 have HN := Lib.hid (name_any k hk w); rw [hn] at HN; clear hn
 go_enter Tryz.func109, Tryz.ntmps109
 go_wp2_with fail
 refine HN.out.mono ?_; rintro e w1 ⟨rfl, hb⟩; go_wp2; go_ret; exact ⟨rfl, hb⟩
set_option maxHeartbeats 3200000 in
theorem onceS_ok (a : Option Addr) (c : Nat) (ks : List ByteArray) (hlen : ks.length ≤ 100000) (hok : ∀ k ∈ ks, nameF k = true ∧ k.size ≤ maxLen) (hnd : ks.Nodup) (w : World) (hr : Rd w a (ks.map Value.string)) :
  Calls Tryz.prog 108 #[.slice a ks.length c, .func (.func 109) #[] #[]] w fun e w' => e = .returned (.int .i64 0) ∧ Below w.heap.size w w' := by
 have HR := Lib.hid hr; have HOK := Lib.hid hok; have HND := Lib.hid (fun k h => nodup_at hnd k h); obtain ⟨N, hN⟩ : ∃ N, ks.length = N := ⟨_, rfl⟩; have HN := Lib.hid hN; rw [hN] at hlen ⊢; clear hr hok hnd hN; have hmm := @run_makeMap Tryz.prog; obtain ⟨B, hB⟩ : ∃ B, w.heap.size = B := ⟨_, rfl⟩; have hwB : w.heap.size ≤ B := by omega
 have hS0 := StrSet.made Tryz.prog 9 4 w; rw [hB] at hS0; have hb0 := (Below.refl w.heap.size w).alloc (Nat.le_refl _) (.map #[] 0)
 go_enter Tryz.func108, Tryz.ntmps108
 go_wp2
 try rw [hB]
 generalize w.alloc (.map #[] 0) = w0 at *; clear hB
 go_loopw [12] (fun i wr => ∃ (k : Nat) (met : List (List UInt8)), k ≤ N ∧ i = .int .i64 k ∧ Hid (∀ s ∈ met, ∃ x ∈ ks.take k, x.data.toList = s) ∧ Hid (StrSet Tryz.prog 9 4 wr B k met) ∧ Below w.heap.size w wr) (fun i _ => N - (intOf i).toNat)
 case atStart => exact ⟨0, [], by omega, rfl, Lib.hid (by simp), Lib.hid hS0, hb0⟩
 case round =>
  clear hS0 hb0; obtain ⟨k, met, hk, rfl, HM, HS, hbl⟩ := hrel; have hNl := HN.out
  by_cases hlt : k < N
  ·have hlt' : (k : Int) < (N : Int) := by omega
   have hkl : k < ks.length := by omega
   obtain ⟨b1, o1, rfl, c0, -⟩ := (HR.out.keep hbl).at (i := k) (v := .string ks[k]) (by simp [hkl]); obtain ⟨q1, q2⟩ := HOK.out ks[k] (List.getElem_mem hkl); have HC := Lib.hid (fun W => chk1_ok ks[k] q2 q1 W); have hnm : ks[k].data.toList ∉ met := fun hm => by
    obtain ⟨x, hx, he⟩ := HM.out _ hm; exact HND.out k hkl (by rw [← ba_ext he]; exact hx)
   have HM2 : Hid (∀ s ∈ ks[k].data.toList :: met, ∃ x ∈ ks.take (k + 1), x.data.toList = s) := Lib.hid (fun s hs => by
    rw [List.take_succ_eq_append_getElem hkl]
    rcases List.mem_cons.1 hs with rfl | hs
    ·exact ⟨_, List.mem_append.2 (.inr (List.mem_singleton.2 rfl)), rfl⟩
    ·obtain ⟨x, hx, he⟩ := HM.out s hs; exact ⟨x, List.mem_append.2 (.inl hx), he⟩)
   clear q1 HM; generalize ks[k] = NM at *
   go_wp2_with fail
   refine (HC.out wr).mono ?_; rintro e W1 ⟨rfl, hx⟩; have hS1 := HS.out.below hx; have hb1 := hbl.trans (hx.mono hbl.size); have hlB := hS1.lt; have hlk := hS1.look Tryz.underlying75 Tryz.underlying9 Tryz.underlying4 (Tryz.zeroB W1) NM q2; rw [decide_eq_false hnm] at hlk; clear hx HS hbl hnm c0 HC
   go_wp2_with (at_mapUpdate; go_must (refine wpList_set_add W1 rfl (.tmp 25) (.tmp 26) (.const (.bool true)) rfl Tryz.underlying75 Tryz.underlying9 Tryz.underlying4 B k met rfl hS1 (by unfold maxLen; omega) NM q2 rfl rfl ?_); intro W4 hS4 hg4; have hb4 := hb1.grown hg4 hb1.size (fun j hj => by cases hj; exact hwB); clear hS1 hg4 hlk hb1)
   go_roundw
   case rel => exact ⟨k + 1, _, by omega, by go_num, HM2, Lib.hid hS4, hb4⟩
   case measure => simp [intOf]; omega
  ·have hlt' : ¬ (k : Int) < (N : Int) := by omega
   go_wp2; go_ret; exact ⟨rfl, hbl⟩
set_option maxHeartbeats 3200000 in
theorem onceV_ok (a : Option Addr) (c : Nat) (vs : List VV) (hlen : vs.length ≤ 100000) (hok : ∀ v ∈ vs, vE v = 0) (hnd : vs.Nodup) (w : World) (hr : Rd w a (vvs vs)) :
  Calls Tryz.prog 110 #[.slice a vs.length c, .func (.func 81) #[] #[]] w fun e w' => e = .returned (.int .i64 0) ∧ Below w.heap.size w w' := by
 have HR := Lib.hid hr; have HOK := Lib.hid hok; have HND := Lib.hid (fun k h => nodup_at hnd k h); obtain ⟨N, hN⟩ : ∃ N, vs.length = N := ⟨_, rfl⟩; have HN := Lib.hid hN; rw [hN] at hlen ⊢; clear hr hok hnd hN; have hmm := @run_makeMap Tryz.prog; obtain ⟨B, hB⟩ : ∃ B, w.heap.size = B := ⟨_, rfl⟩; have hwB : w.heap.size ≤ B := by omega
 have hS0 := VSet.made Tryz.prog 101 vVal w B hB; have hb0 := (Below.refl w.heap.size w).alloc (Nat.le_refl _) (.map #[] 0)
 go_enter Tryz.func110, Tryz.ntmps110
 go_wp2
 try rw [hB]
 generalize w.alloc (.map #[] 0) = w0 at *; clear hB
 go_loopw [12] (fun i wr => ∃ (k : Nat), k ≤ N ∧ i = .int .i64 k ∧ Hid (VSet Tryz.prog 101 vVal wr B (vs.take k)) ∧ Below w.heap.size w wr) (fun i _ => N - (intOf i).toNat)
 case atStart => exact ⟨0, by omega, rfl, Lib.hid hS0, hb0⟩
 case round =>
  clear hS0 hb0; obtain ⟨k, hk, rfl, HS, hbl⟩ := hrel; have hNl := HN.out
  by_cases hlt : k < N
  ·have hlt' : (k : Int) < (N : Int) := by omega
   have hkl : k < vs.length := by omega
   obtain ⟨b1, o1, rfl, hbb, c0, c1, c2⟩ := (HR.out.keep hbl).vv k hkl; have q1 := HOK.out vs[k] (List.getElem_mem hkl); have hnm := HND.out k hkl; have htk := List.take_succ_eq_append_getElem hkl; have htl : (vs.take k).length < maxLen := by rw [List.length_take]; unfold maxLen; omega
   generalize vs[k] = v at *; obtain ⟨PK, hPK⟩ : ∃ p, vs.take k = p := ⟨_, rfl⟩; obtain ⟨PN, hPN⟩ : ∃ p, vs.take (k + 1) = p := ⟨_, rfl⟩; rw [hPK] at HS hnm htk htl; rw [hPN] at htk; have HPN := Lib.hid hPN; clear hPK hPN; have hz := vE_zero v q1; have hsz : v.2.1.size ≤ maxLen := by
    unfold maxLen
    rcases hz with ⟨-, -, h⟩ | ⟨-, h, -⟩ | ⟨-, h, -⟩ | ⟨-, h, -⟩
    ·omega
    all_goals (rw [h]; decide)
   have hwf1 : (Lit.int .i64 v.1).wf = true := WalkArith.wf_i64 (by omega); have hwf2 : (Lit.int .i64 v.2.2).wf = true := WalkArith.wf_i64 (by omega); have HKY := Lib.hid (kv.key v hwf1 hsz hwf2); have HC := Lib.hid (fun W => vchk_any v.1 v.2.2 v.2.1 hsz W); have hvc : vcF v.1 v.2.1 v.2.2 = 0 := q1; rw [hvc] at HC; have HVV : Hid (vVal v = .agg #[.int .i64 v.1, .string v.2.1, .int .i64 v.2.2]) := Lib.hid rfl; have HTK := Lib.hid htk; have HNM := Lib.hid hnm; clear hvc hwf1 hwf2 hz q1 htk hnm; obtain ⟨x1, x2, x3⟩ := v; dsimp only at c0 c1 c2 HC HVV hsz; have hx3 := Below.new wr (.cells #[.int .i64 x1, .string x2, .int .i64 x3] 101); have kF := Blk.new wr [.int .i64 x1, .string x2, .int .i64 x3] 101; have g0 := kF.cell 0 rfl; have g1 := kF.cell 1 rfl; have g2 := kF.cell 2 rfl; have hS1 := HS.out.keep hx3; have hb1 := hbl.trans (hx3.mono hbl.size); clear HS hbl
   go_wp2_with fail
   obtain ⟨F, hF⟩ : ∃ F, wr.heap.size = F := ⟨_, rfl⟩; rw [hF] at kF g0 g1 g2 ⊢; clear c0 c1 c2 hx3 hF g0 g1 g2; generalize wr.alloc (.cells #[.int .i64 x1, .string x2, .int .i64 x3] 101) = wx at *; refine (HC.out wx).mono ?_; rintro e W1 ⟨rfl, hx⟩; have hS1 := hS1.keep hx; have kF := kF.keep hx; have hb1 := hb1.trans (hx.mono hb1.size); have g0 := kF.cell 0 rfl; have g1 := kF.cell 1 rfl; have g2 := kF.cell 2 rfl; clear hx HC; have hlk : (Instr.lookup 216 (.map (some B)) (.agg #[.int .i64 x1, .string x2, .int .i64 x3]) false).run Tryz.prog W1 = .ok (.bool false) W1 := by
    obtain ⟨m, h, -⟩ := hS1; have h2 := h.look kv.val Tryz.underlying216 (Tryz.zeroB W1) HKY.out; have h3 : setF PK (x1, x2, x3) = none := if_neg HNM.out; rw [h3] at h2; exact h2
   go_wp2_with (at_mapUpdate; go_must (refine wpList_vset_put (T := 216) W1 rfl (.tmp 25) (.tmp 26) (.const (.bool true)) rfl kv.val vVal_inj Tryz.underlying216 rfl hS1 htl (x1, x2, x3) rfl HKY.out rfl ?_); intro W4 hS4 hg4; have hb4 := hb1.grown hg4 hb1.size (fun j hj => by cases hj; exact hwB); clear hS1 hg4 hb1 hlk)
   go_roundw
   case rel => exact ⟨k + 1, by omega, by go_num, Lib.hid (by rw [HPN.out, HTK.out]; exact hS4), hb4⟩
   case measure => simp [intOf]; omega
  ·have hlt' : ¬ (k : Int) < (N : Int) := by omega
   go_wp2; go_ret; exact ⟨rfl, hbl⟩
set_option maxHeartbeats 3200000 in
theorem tbchk_ok (B : Nat) (t : TB) (ht : TbOk t) (h1 : ∀ k ∈ t.1, k.size ≤ maxLen) (hl : t.1.length ≤ 100000 ∧ t.2.length ≤ 100000) (w : World) (htb : TbIn w B t) :
  Calls Tryz.prog 89 #[.pointer (some ⟨B, 0, none⟩)] w fun e w' => e = .returned (.int .i64 0) ∧ Below w.heap.size w w' := by
 obtain ⟨kp, kc, vp, vc, k1, ⟨hk, -⟩, ⟨hv, -⟩⟩ := htb; have H1 := Lib.hid (onceS_ok kp kc t.1 hl.1 (fun k hm => ⟨ht.2.1 k hm, h1 k hm⟩) ht.1 w hk); have H2 := Lib.hid (fun W (h : Below w.heap.size w W) => onceV_ok vp vc t.2 hl.2 ht.2.2.2 ht.2.2.1 W (hv.keep h)); have c0 := k1.cell 0 rfl; generalize t.1.length = n1 at *; generalize t.2.length = n2 at *; clear ht h1 hl hk hv
 go_enter Tryz.func89, Tryz.ntmps89
 go_wp2_with fail
 refine H1.out.mono ?_; rintro e w1 ⟨rfl, hb1⟩; have c1 := (k1.keep hb1).cell 1 rfl; clear c0 k1 H1
 go_wp2_with fail
 refine (H2.out _ hb1).mono ?_; rintro e w2 ⟨rfl, hb2⟩; have hb := hb1.trans (hb2.mono hb1.size); go_wp2; go_ret; exact ⟨rfl, hb⟩
end Go.Proofs.YtjggoajfilnfjaaGreat
namespace Go
open Go.RowKit
theorem StrSet.kept {P : Program} {K E : TypeId} {w w' : World} {b n : Nat} {ks : List (List UInt8)} {r : Option Nat} (h : StrSet P K E w b n ks) (hg : w.grownBy w' r) (hne : some b ≠ r) : StrSet P K E w' b n ks := by
 obtain ⟨D, hD, hm, hk⟩ := h; have hl := hD.lt; obtain ⟨es, clock, he, r⟩ := hD; exact ⟨D, ⟨es, clock, (hg.block b hl hne).trans he, r⟩, hm, hk⟩
end Go
namespace Go.Proofs.YtjggoajfilnfjaaGreat
open Go.RowKit
theorem Tryz.infoAttr : (Tryz.prog.info? 103).map (fun i => (i.zero, i.size, i.bytes)) = some (some (.agg #[.string ⟨#[]⟩, .int .i64 0, .string ⟨#[]⟩, .int .i64 0]), 4, 48) := by kernel_rfl
set_option maxHeartbeats 12800000 in
theorem attrs_ok (B : Nat) (kp : Option Addr) (kc : Nat) (vp : Option Addr) (vc : Nat) (t : TB) (a : Option Addr) (c : Nat) (tags : List Int) (ls : List At) (hT : TagsOf t tags ls) (hn : ls.length ≤ 8) (hnd : (ls.map (·.key.data.toList)).Nodup) (hks : ∀ k ∈ t.1, k.size ≤ maxLen) (hl : t.1.length ≤ 1000 ∧ t.2.length ≤ 1000)
  (w : World) (kB : Blk w B [.slice kp t.1.length kc, .slice vp t.2.length vc]) (hkr : Rd w kp (t.1.map Value.string)) (hvr : Rd w vp (vvs t.2)) (hr : Rd w a (tags.map (Value.int .i64))) :
  Calls Tryz.prog 112 #[.pointer (some ⟨B, 0, none⟩), .slice a tags.length c] w fun e w' => ∃ v, e = .returned (.tuple #[v, .int .i64 0]) ∧ w'.ownsRow w.heap.size 103 4 v ls.length (ats ls) ∧ Below w.heap.size w w' := by
 obtain ⟨hT0, hT1⟩ := hT; have HT := Lib.hid hT1; have HND := Lib.hid (fun k h => nodup_at hnd k h); have HKS := Lib.hid hks; have HKR := Lib.hid hkr; have HVR := Lib.hid hvr; have HR := Lib.hid hr; obtain ⟨n, hln⟩ : ∃ n, ls.length = n := ⟨_, rfl⟩; have HN := Lib.hid hln; obtain ⟨n1, hn1⟩ : ∃ n, t.1.length = n := ⟨_, rfl⟩; have HN1 := Lib.hid hn1; obtain ⟨n2, hn2⟩ : ∃ n, t.2.length = n := ⟨_, rfl⟩; have HN2 := Lib.hid hn2; rw [hn1, hn2] at kB; rw [hln] at hT0 hn ⊢; rw [hn1, hn2] at hl; obtain ⟨NT, hNT⟩ : ∃ m, tags.length = m := ⟨_, rfl⟩; have HNT := Lib.hid hNT; rw [hNT] at hT0 ⊢; clear hNT; have KB := Lib.hid kB; have HTL := Lib.hid hT0; clear hT1 hnd hks hkr hvr hr hln hn1 hn2 hT0; have hmm := @run_makeMap Tryz.prog; obtain ⟨Mp, hMp⟩ : ∃ B, w.heap.size = B := ⟨_, rfl⟩; have hwM : w.heap.size ≤ Mp := by omega
 have hS0 := StrSet.made Tryz.prog 9 4 w; rw [hMp] at hS0; have hb0 := (Below.refl w.heap.size w).alloc (Nat.le_refl _) (.map #[] 0); have hs0 : (w.alloc (.map #[] 0)).heap.size = Mp + 1 := by simp [hMp]
 have q1 : (NT : Int).tmod 2 = 0 := by rw [Int.tmod_eq_emod_of_nonneg (by omega), HTL.out]; omega
 have q2 : ¬ (16 : Int) < (NT : Int) := by have := HTL.out; omega
 go_enter Tryz.func112, Tryz.ntmps112
 go_wp2
 try rw [hMp]
 generalize w.alloc (.map #[] 0) = w1 at *; have hw1 : w.heap.size ≤ w1.heap.size := by omega
 have hM1 : Mp < w1.heap.size := by omega
 clear hMp q1 q2 hs0
 go_loopw [7, 8] (fun u7 i wr => ∃ (j p : Nat) (met : List (List UInt8)), j ≤ n ∧ i = .int .i64 (p : Nat) ∧ Hid (p = 2 * j) ∧ Hid (∀ s ∈ met, s ∈ (ls.map (·.key.data.toList)).take j) ∧ Hid (StrSet Tryz.prog 9 4 wr Mp j met) ∧ wr.ownsRow w1.heap.size 103 4 u7 j (ats (ls.take j)) ∧ w1.heap.size ≤ wr.heap.size ∧ Below w.heap.size w wr) (fun _ i _ => NT - (intOf i).toNat)
 case atStart => exact ⟨0, 0, [], by omega, rfl, Lib.hid rfl, Lib.hid (by simp), Lib.hid hS0, by simpa [ats] using World.ownsRow_nil _ _ _ _, Nat.le_refl _, hb0⟩
 case round =>
  clear hS0 hb0; obtain ⟨j, p, met, hj, rfl, HP, HM, HS, ho, hsz, hbl⟩ := hrel; have hNl := HN.out
  by_cases hlt : j < n
  ·have hlt' : (p : Int) < (NT : Int) := by have := HP.out; have := HTL.out; omega
   have hlt2 : (p : Int) + 1 < (NT : Int) := by have := HP.out; have := HTL.out; omega
   have hlt3 : ¬ (p : Int) + 1 < 0 := by omega
   have hpb : (p : Int) + 1 ≤ 100 := by have := HP.out; omega
   have hjl : j < ls.length := by omega
   obtain ⟨k, v, g1, g2, g3, g4⟩ := HT.out j hjl; obtain ⟨b1, o1, rfl, c0, -⟩ := (HR.out.keep hbl).at (i := p) (v := .int .i64 (k : Int)) (by rw [List.getElem?_map, HP.out, g1]; rfl); obtain ⟨b1', o1', he, c1, -⟩ := (HR.out.keep hbl).at (i := p + 1) (v := .int .i64 (v : Int)) (by rw [List.getElem?_map, HP.out, g2]; rfl)
   cases he
   have hk1 := (List.getElem?_eq_some_iff.1 g3).1; have hv1 := (List.getElem?_eq_some_iff.1 g4).1; have hkm := List.mem_of_getElem? g3; have hksz := HKS.out _ hkm; have hnm : ls[j].key.data.toList ∉ met := fun hm => by
    have h := HM.out _ hm; have h2 := HND.out j (by rw [List.length_map]; exact hjl); rw [List.getElem_map] at h2; exact h2 h
   have HM2 : Hid (∀ s ∈ ls[j].key.data.toList :: met, s ∈ (ls.map (·.key.data.toList)).take (j + 1)) := Lib.hid (fun s hs => by
    rw [List.take_succ_eq_append_getElem (by rw [List.length_map]; exact hjl), List.getElem_map]
    rcases List.mem_cons.1 hs with rfl | hs
    ·exact List.mem_append.2 (.inr (List.mem_singleton.2 rfl))
    ·exact List.mem_append.2 (.inl (HM.out s hs)))
   obtain ⟨b2, o2, hkp, ec0, -⟩ := HKR.out.at (i := k) (v := .string ls[j].key) (by rw [List.getElem?_map, g3]; rfl); obtain ⟨b3, o3, hvp, -, ev0, ev1, ev2⟩ := HVR.out.vv v hv1; rw [(List.getElem?_eq_some_iff.1 g4).2] at ev0 ev1 ev2; subst hkp; subst hvp; have HKC : Hid (∀ V, Below w.heap.size w V → V.cell? ⟨b2, o2 + k, none⟩ = some (.string ls[j].key)) := Lib.hid (fun V h => by
    obtain ⟨b, o, e, h2, -⟩ := (HKR.out.keep h).at (i := k) (v := .string ls[j].key) (by rw [List.getElem?_map, g3]; rfl)
    cases e
    exact h2)
   have HVC : Hid (∀ V, Below w.heap.size w V → V.cell? ⟨b3, o3 + v * 3, none⟩ = some (.int .i64 ls[j].kind) ∧ V.cell? ⟨b3, o3 + v * 3 + 1, none⟩ = some (.string ls[j].text) ∧ V.cell? ⟨b3, o3 + v * 3 + 2, none⟩ = some (.int .i64 ls[j].n)) := Lib.hid (fun V h => by
    obtain ⟨b, o, e, -, h2, h3, h4⟩ := (HVR.out.keep h).vv v hv1
    cases e
    rw [(List.getElem?_eq_some_iff.1 g4).2] at h2 h3 h4; exact ⟨h2, h3, h4⟩)
   have htk : ls.take (j + 1) = ls.take j ++ [ls[j]] := List.take_succ_eq_append_getElem hjl; clear g1 g2 g3 g4 hkm HM ec0 ev0 ev1 ev2; have hkn : (k : Int) < (n1 : Int) := by have := HN1.out; omega
   have hvn : (v : Int) < (n2 : Int) := by have := HN2.out; omega
   have hk0 : ¬ (k : Int) < 0 := by omega
   have hv0 : ¬ (v : Int) < 0 := by omega
   generalize ls[j] = x at *; obtain ⟨ky, x1, x2, x3⟩ := x; dsimp only at hksz hnm HM2 HKC HVC; have HTK : Hid (ats (ls.take (j + 1)) = ats (ls.take j) ++ [.string ky, .int .i64 x1, .string x2, .int .i64 x3]) := Lib.hid (by rw [htk, ats_snoc]; rfl); have k0 := (KB.out.keep hbl).cell 0 rfl; have k1 := (KB.out.keep hbl).cell 1 rfl; have kk := HKC.out _ hbl; clear htk hk1 hv1; have hS1 := HS.out; clear HS; go_wp2
   go_quiet (fail)
   have hdr : Below wr.heap.size wr (wr.drewN nq) := ⟨rfl, rfl, rfl, Nat.le_refl _, fun _ _ => rfl⟩; have hb1 := hbl.trans (hdr.mono hbl.size); have hS2 := hS1.below hdr; have ho2 := ho.below hdr; have hsz2 : w1.heap.size ≤ (wr.drewN nq).heap.size := hsz; clear hS1 ho hsz hbl k0 k1 kk c0 c1 hdr; generalize wr.drewN nq = W0 at *; have k0 := (KB.out.keep hb1).cell 0 rfl; have k1 := (KB.out.keep hb1).cell 1 rfl; have kk := HKC.out _ hb1; have hlk := hS2.look Tryz.underlying75 Tryz.underlying9 Tryz.underlying4 (Tryz.zeroB W0) ky hksz; rw [decide_eq_false hnm] at hlk; clear hnm
   go_wp2_with (at_mapUpdate; go_must (refine wpList_set_add W0 rfl (.tmp 74) (.tmp 81) (.const (.bool true)) rfl Tryz.underlying75 Tryz.underlying9 Tryz.underlying4 Mp j met rfl hS2 (by unfold maxLen; omega) ky hksz rfl rfl ?_); intro W4 hS4 hg4; have hb4 := hb1.grown hg4 hb1.size (fun i hi => by cases hi; exact hwM); have ho4 := ho2.kept hg4 (.inr (fun e => by have := (ho2.lt _ e).1; omega)); have hsz4 := Nat.le_trans hsz2 hg4.size; clear hS2 hg4 hlk hb1 ho2 hsz2 k0 k1 kk)
   refine wp_region_sched 19 [0, 1, 2, 3, 4, 5, 6, 7, 8, 9, 10, 11, 12, 13, 14, 15, 18] (fun V => Below w.heap.size w V) rfl (by kernel_rfl) (by kernel_rfl) ?_; have HB : Below w.heap.size w W4.drew := hb4.trans (((Below.refl _ W4).drew).mono hb4.size); have ho5 : W4.drew.ownsRow w1.heap.size 103 4 u7 j (ats (ls.take j)) := ho4.below (Below.refl _ _).drew; have hS5 : StrSet Tryz.prog 9 4 W4.drew Mp (j + 1) (ky.data.toList :: met) := hS4.below (Below.refl _ _).drew; have hsz5 : w1.heap.size ≤ W4.drew.heap.size := hsz4; generalize W4.drew = V0 at *
   (refine sched_light 0 _ ?_ (by kernel_rfl) (by kernel_rfl) rfl rfl ?_ HB ?_; rotate_left; · (intro w' hS; (try dsimp only at hS); go_simp; with_reducible rfl)); try simp only [Act.put, List.getElem_toArray, List.getElem_cons_succ, List.getElem_cons_zero, List.setIfInBounds_toArray, List.set_cons_zero, List.set_cons_succ]
   (refine sched_light 1 _ ?_ (by kernel_rfl) (by kernel_rfl) rfl rfl ?_ HB ?_; rotate_left; · (intro w' hS; (try dsimp only at hS); go_simp; with_reducible rfl)); try simp only [Act.put, List.getElem_toArray, List.getElem_cons_succ, List.getElem_cons_zero, List.setIfInBounds_toArray, List.set_cons_zero, List.set_cons_succ]
   (refine sched_light 2 _ ?_ (by kernel_rfl) (by kernel_rfl) rfl rfl ?_ HB ?_; rotate_left; · (intro w' hS; (try dsimp only at hS); go_simp; with_reducible rfl)); try simp only [Act.put, List.getElem_toArray, List.getElem_cons_succ, List.getElem_cons_zero, List.setIfInBounds_toArray, List.set_cons_zero, List.set_cons_succ]
   (refine sched_light 3 _ ?_ (by kernel_rfl) (by kernel_rfl) rfl rfl ?_ HB ?_; rotate_left; · (intro w' hS; (try dsimp only at hS); go_simp; with_reducible rfl)); try simp only [Act.put, List.getElem_toArray, List.getElem_cons_succ, List.getElem_cons_zero, List.setIfInBounds_toArray, List.set_cons_zero, List.set_cons_succ]
   refine sched_light 4 _ (.slice (some ⟨b2, o2, none⟩) n1 kc) (by kernel_rfl) (by kernel_rfl) rfl rfl ?_ HB ?_
   ·intro w' hS; have e0 := (KB.out.keep hS).cell 0 rfl; clear hS; go_simp
   try simp only [Act.put, List.getElem_toArray, List.getElem_cons_succ, List.getElem_cons_zero, List.setIfInBounds_toArray, List.set_cons_zero, List.set_cons_succ]
   (refine sched_light 5 _ ?_ (by kernel_rfl) (by kernel_rfl) rfl rfl ?_ HB ?_; rotate_left; · (intro w' hS; (try dsimp only at hS); go_simp; with_reducible rfl)); try simp only [Act.put, List.getElem_toArray, List.getElem_cons_succ, List.getElem_cons_zero, List.setIfInBounds_toArray, List.set_cons_zero, List.set_cons_succ]
   (refine sched_light 6 _ ?_ (by kernel_rfl) (by kernel_rfl) rfl rfl ?_ HB ?_; rotate_left; · (intro w' hS; (try dsimp only at hS); go_simp; with_reducible rfl)); try simp only [Act.put, List.getElem_toArray, List.getElem_cons_succ, List.getElem_cons_zero, List.setIfInBounds_toArray, List.set_cons_zero, List.set_cons_succ]
   refine sched_light 7 _ (.string ky) (by kernel_rfl) (by kernel_rfl) rfl rfl ?_ HB ?_
   ·intro w' hS; have e0 := HKC.out _ hS; clear hS; go_simp
   try simp only [Act.put, List.getElem_toArray, List.getElem_cons_succ, List.getElem_cons_zero, List.setIfInBounds_toArray, List.set_cons_zero, List.set_cons_succ]
   (refine sched_light 8 _ ?_ (by kernel_rfl) (by kernel_rfl) rfl rfl ?_ HB ?_; rotate_left; · (intro w' hS; (try dsimp only at hS); go_simp; with_reducible rfl)); try simp only [Act.put, List.getElem_toArray, List.getElem_cons_succ, List.getElem_cons_zero, List.setIfInBounds_toArray, List.set_cons_zero, List.set_cons_succ]
   (refine sched_light 9 _ ?_ (by kernel_rfl) (by kernel_rfl) rfl rfl ?_ HB ?_; rotate_left; · (intro w' hS; (try dsimp only at hS); go_simp; with_reducible rfl)); try simp only [Act.put, List.getElem_toArray, List.getElem_cons_succ, List.getElem_cons_zero, List.setIfInBounds_toArray, List.set_cons_zero, List.set_cons_succ]
   (refine sched_light 10 _ ?_ (by kernel_rfl) (by kernel_rfl) rfl rfl ?_ HB ?_; rotate_left; · (intro w' hS; (try dsimp only at hS); go_simp; with_reducible rfl)); try simp only [Act.put, List.getElem_toArray, List.getElem_cons_succ, List.getElem_cons_zero, List.setIfInBounds_toArray, List.set_cons_zero, List.set_cons_succ]
   refine sched_light 11 _ (.slice (some ⟨b3, o3, none⟩) n2 vc) (by kernel_rfl) (by kernel_rfl) rfl rfl ?_ HB ?_
   ·intro w' hS; have e0 := (KB.out.keep hS).cell 1 rfl; clear hS; go_simp
   try simp only [Act.put, List.getElem_toArray, List.getElem_cons_succ, List.getElem_cons_zero, List.setIfInBounds_toArray, List.set_cons_zero, List.set_cons_succ]
   (refine sched_light 12 _ ?_ (by kernel_rfl) (by kernel_rfl) rfl rfl ?_ HB ?_; rotate_left; · (intro w' hS; (try dsimp only at hS); go_simp; with_reducible rfl)); try simp only [Act.put, List.getElem_toArray, List.getElem_cons_succ, List.getElem_cons_zero, List.setIfInBounds_toArray, List.set_cons_zero, List.set_cons_succ]
   (refine sched_light 13 _ ?_ (by kernel_rfl) (by kernel_rfl) rfl rfl ?_ HB ?_; rotate_left; · (intro w' hS; (try dsimp only at hS); go_simp; with_reducible rfl)); try simp only [Act.put, List.getElem_toArray, List.getElem_cons_succ, List.getElem_cons_zero, List.setIfInBounds_toArray, List.set_cons_zero, List.set_cons_succ]
   refine sched_light 14 _ (.agg #[.int .i64 x1, .string x2, .int .i64 x3]) (by kernel_rfl) (by kernel_rfl) rfl rfl ?_ HB ?_
   ·intro w' hS; obtain ⟨e0, e1, e2⟩ := HVC.out _ hS; clear hS; go_simp
   try simp only [Act.put, List.getElem_toArray, List.getElem_cons_succ, List.getElem_cons_zero, List.setIfInBounds_toArray, List.set_cons_zero, List.set_cons_succ]
   (refine sched_light 15 _ ?_ (by kernel_rfl) (by kernel_rfl) rfl rfl ?_ HB ?_; rotate_left; · (intro w' hS; (try dsimp only at hS); go_simp; with_reducible rfl)); try simp only [Act.put, List.getElem_toArray, List.getElem_cons_succ, List.getElem_cons_zero, List.setIfInBounds_toArray, List.set_cons_zero, List.set_cons_succ]
   refine sched_fork [16] (by kernel_rfl) (by kernel_rfl) (by simp) (fun i hi => ?_); obtain rfl : i = 16 := by simpa using hi
   refine sched_heavy 16 _ rfl rfl (fun K hK => ?_); go_step; have hx := Below.new V0 (.cells #[.string ky, .int .i64 x1, .string x2, .int .i64 x3] 103); have HB := HB.trans (hx.mono HB.size); have rdx := Rd.lit V0 V0.heap.size [.string ky, .int .i64 x1, .string x2, .int .i64 x3] 103 rfl; have ho6 := ho5.below hx; have hS6 := hS5.below hx; have hsz6 : w1.heap.size ≤ (V0.alloc (.cells #[.string ky, .int .i64 x1, .string x2, .int .i64 x3] 103)).heap.size := by simp; omega
   refine hK.out _ _ HB ?_; clear hK K ho5 hS5 hx; generalize V0.alloc (.cells #[.string ky, .int .i64 x1, .string x2, .int .i64 x3] 103) = V1 at *
   try simp only [Act.put, List.getElem_toArray, List.getElem_cons_succ, List.getElem_cons_zero, List.setIfInBounds_toArray, List.set_cons_zero, List.set_cons_succ]
   refine sched_fork [17] (by kernel_rfl) (by kernel_rfl) (by simp) (fun i hi => ?_); obtain rfl : i = 17 := by simpa using hi
   refine sched_heavy 17 _ rfl rfl (fun K hK => ?_); refine wp_app (.tmp 82) (.tmp 98) 50 rfl w1.heap.size 103 (.agg #[.string ⟨#[]⟩, .int .i64 0, .string ⟨#[]⟩, .int .i64 0]) 4 48 Tryz.underlying50 Tryz.infoAttr rfl (by decide) u7 j (ats (ls.take j)) rfl ho6 (some ⟨V0.heap.size, 0, none⟩) 1 1 [.string ky, .int .i64 x1, .string x2, .int .i64 x3] rfl (fun h => by cases h) rdx rfl (by simp [Value.oneCell']) (by omega) (by decide) hsz6 ?_; intro v7 V2 ho7 hg7; have hsz7 := Nat.le_trans hsz6 hg7.size; have hb7 := HB.grown hg7 HB.size (fun k h => Nat.le_trans hw1 (ho6.lt k h).1); have hS7 := hS6.kept hg7 (fun e => by have := (ho6.lt _ e.symm).1; omega); refine hK.out _ _ hb7 ?_; clear hK K ho6 hS6 hg7 rdx hsz6; have HB := hb7
   try simp only [Act.put, List.getElem_toArray, List.getElem_cons_succ, List.getElem_cons_zero, List.setIfInBounds_toArray, List.set_cons_zero, List.set_cons_succ]
   (refine sched_light 18 _ ?_ (by kernel_rfl) (by kernel_rfl) rfl rfl ?_ HB ?_; rotate_left; · (intro w' hS; (try dsimp only at hS); go_simp; with_reducible rfl)); try simp only [Act.put, List.getElem_toArray, List.getElem_cons_succ, List.getElem_cons_zero, List.setIfInBounds_toArray, List.set_cons_zero, List.set_cons_succ]
   refine sched_end (by kernel_rfl) ?_
   try simp only [Act.put, List.getElem_toArray, List.getElem_cons_succ, List.getElem_cons_zero, List.setIfInBounds_toArray, List.set_cons_zero, List.set_cons_succ]
   go_wp2; go_roundw
   case rel => exact ⟨j + 1, p + 2, _, by omega, by go_num, Lib.hid (by have := HP.out; omega), HM2, Lib.hid hS7, by rw [HTK.out]; exact ho7, hsz7, HB⟩
   case measure => simp [intOf]; omega
  ·have hlt' : ¬ (p : Int) < (NT : Int) := by have := HP.out; have := HTL.out; omega
   obtain rfl : j = n := by omega
   have hta : ls.take j = ls := List.take_of_length_le (by omega); rw [hta] at ho; have ho2 := ho.mono hw1; go_wp2; exact bodyPost_ret (v := .tuple #[u7, .int .i64 0]) (by simp [results, Tryz.results112, go_sem]) rfl ⟨_, rfl, ho2, hbl⟩
end Go.Proofs.YtjggoajfilnfjaaGreat
