/-
  Plain: features, layers and tiles; what is wrong with them; their messages. Plain: how great messages of few features are; that their fields may be told. What mvt.layer has written, round by round. Plain: fields of a number, of messages of right features and layers. A range over a function whose iterator promises something of the world at each call of yield, and of the world behind all rounds; the body may leave. A range over a function, as in XAhead; but a round may write maps that lie below the range's own blocks.
-/
import Derived.Test.YtjggoajfilnfjaaGreatPk12
import Derived.Test.YtjggoajfilnfjaaGreatPk15
import Derived.Test.YtjggoajfilnfjaaGreatPk16
import Derived.Test.YtjggoajfilnfjaaGreatPk9
import Derived.Test.YtjggoajfilnfjaaGreatPk10
import Derived.RangeFuncNested
import Derived.RangeFuncBound
import Derived.RangeFuncCalls
import Derived.RangeFuncLeaves
import Derived.WalkKit
import Derived.Test.YtjggoajfilnfjaaGreatPk6
set_option linter.unusedVariables false
set_option linter.unusedSimpArgs false
namespace Go
open Go.RowKit Go.Proto Go.Vint
def namedF (s : ByteArray) : Int := if s.size = 0 ∨ rightF s = false then 13 else if 64 < s.size then 2 else 0
def fchkF (c : FtC) : Int := if c.1 < 0 ∨ 9007199254740992 < c.1 then 5 else if tcF c.2.2.1 ≠ 0 then tcF c.2.2.1 else checkE c.2.1 c.2.2.2
def fsChk : List FtC → Int
 | [] => 0
 | f :: l => if fchkF f ≠ 0 then fchkF f else fsChk l
def lyE (met : List (List UInt8)) (y : LyC) : Int :=
 if namedF y.1 ≠ 0 then namedF y.1 else if y.1.data.toList ∈ met then 8 else if y.2.length = 0 then 7 else if 1024 < y.2.length then 6 else fsChk y.2
def tlGo (met : List (List UInt8)) : List LyC → Int
 | [] => 0
 | y :: l => if lyE met y ≠ 0 then lyE met y else tlGo (y.1.data.toList :: met) l
def tileE (l : List LyC) : Int := if 16 < l.length then 6 else tlGo [] l
theorem namedF_zero {s : ByteArray} (h : namedF s = 0) : s.size ≠ 0 ∧ rightF s = true ∧ s.size ≤ 64 := by
 unfold namedF at h
 split at h
 ·cases h
 ·rename_i h1
  split at h
  ·cases h
  ·have h2 := not_or.1 h1; exact ⟨h2.1, by simpa using h2.2, by omega⟩
theorem fchkF_zero {c : FtC} (h : fchkF c = 0) : (0 ≤ c.1 ∧ c.1 ≤ 9007199254740992) ∧ tcF c.2.2.1 = 0 ∧ checkE c.2.1 c.2.2.2 = 0 := by
 unfold fchkF at h
 split at h
 ·cases h
 ·rename_i h1
  split at h
  ·rename_i h2; exact absurd h h2
  ·rename_i h2; exact ⟨by omega, by simpa using h2, h⟩
theorem fsChk_zero : ∀ {l : List FtC}, fsChk l = 0 → ∀ f ∈ l, fchkF f = 0
 | [], _, f, hf => by cases hf
 | g :: l, h, f, hf => by
  unfold fsChk at h
  split at h
  ·rename_i h2; exact absurd h h2
  ·rename_i h2
   rcases List.mem_cons.1 hf with rfl | hf
   ·simpa using h2
   ·exact fsChk_zero h f hf
theorem lyE_zero {met : List (List UInt8)} {y : LyC} (h : lyE met y = 0) : namedF y.1 = 0 ∧ y.1.data.toList ∉ met ∧ y.2.length ≠ 0 ∧ y.2.length ≤ 1024 ∧ fsChk y.2 = 0 := by
 unfold lyE at h
 split at h
 ·rename_i h1; exact absurd h h1
 ·rename_i h1
  split at h
  ·cases h
  ·rename_i h2
   split at h
   ·cases h
   ·rename_i h3
    split at h
    ·cases h
    ·exact ⟨by simpa using h1, h2, h3, by omega, h⟩
def geoB (c : FtC) : List Int := vbs (numsF c.2.1 ⟨0, 0⟩ c.2.2.2)
def tagB (t : TB) (c : FtC) : List Int := vbs (tagL t c.2.2.1)
def ftFlds (t : TB) (c : FtC) : List Fld := (if 0 < c.1 then [⟨1, 0, c.1, []⟩] else []) ++ (if c.2.2.1.length = 0 then [] else [⟨2, 2, 0, tagB t c⟩]) ++ [⟨3, 0, c.2.1, []⟩, ⟨4, 2, 0, geoB c⟩]
def ftB (t : TB) (c : FtC) : List Int := (ftFlds t c).flatMap fby
def ftsT (t : TB) : List FtC → TB
 | [] => t
 | c :: l => ftsT (addL t c.2.2.1) l
def ftsB (t : TB) : List FtC → List Fld
 | [] => []
 | c :: l => ⟨2, 2, 0, ftB t c⟩ :: ftsB (addL t c.2.2.1) l
theorem ftsT_snoc (l : List FtC) : ∀ (t : TB) (c : FtC), ftsT t (l ++ [c]) = addL (ftsT t l) c.2.2.1 := by
 induction l with
 | nil => intro t c; rfl
 | cons d l ih => intro t c; exact ih _ c
theorem ftsB_snoc (l : List FtC) : ∀ (t : TB) (c : FtC), ftsB t (l ++ [c]) = ftsB t l ++ [⟨2, 2, 0, ftB (ftsT t l) c⟩] := by
 induction l with
 | nil => intro t c; rfl
 | cons d l ih => intro t c; simp only [List.cons_append, ftsB, ftsT, ih]
theorem ftsB_len (l : List FtC) : ∀ t : TB, (ftsB t l).length = l.length := by
 induction l with
 | nil => intro t; rfl
 | cons d l ih => intro t; simp only [ftsB, List.length_cons, ih]
def lyTab (y : LyC) : TB := ftsT ([], []) y.2
def keyFld (k : ByteArray) : Fld := ⟨3, 2, 0, bnums k⟩
def valFld (v : VV) : Fld := ⟨4, 2, 0, fby (vFld v)⟩
def lyHead (y : LyC) : List Fld := [⟨15, 0, 2, []⟩, ⟨1, 2, 0, bnums y.1⟩] ++ ftsB ([], []) y.2 ++ (lyTab y).1.map keyFld ++ (lyTab y).2.map valFld
def lyFlds (y : LyC) : List Fld := lyHead y ++ [⟨5, 0, 4096, []⟩]
def lyB (y : LyC) : List Int := (lyFlds y).flatMap fby
def lyFld (y : LyC) : Fld := ⟨3, 2, 0, lyB y⟩
def tlB (l : List LyC) : List Int := (l.map lyFld).flatMap fby
def FtC.Few (c : FtC) : Prop := c.2.2.2.length ≤ 10 ∧ (∀ g ∈ c.2.2.2, g.length ≤ 40) ∧ c.2.2.1.length ≤ 10 ∧ ∀ a ∈ c.2.2.1, a.key.size ≤ 100 ∧ a.text.size ≤ 100
def LyC.Few (y : LyC) : Prop := y.2.length ≤ 6 ∧ ∀ c ∈ y.2, FtC.Few c
def FOk (f : Fld) : Prop := Proto.chk f = 0 ∧ (0 ≤ f.n ∧ f.n ≤ 18446744073709551615) ∧ (∀ x ∈ f.bs, 0 ≤ x ∧ x ≤ 255) ∧ f.bs.length ≤ 1000000
theorem FOk.num {k n : Int} (hk : 1 ≤ k ∧ k ≤ 536870911) (hn : 0 ≤ n ∧ n ≤ 18446744073709551615) : FOk ⟨k, 0, n, []⟩ := by
 refine ⟨?_, hn, by simp, by simp⟩; unfold Proto.chk; simp; omega
theorem FOk.bytes {k : Int} {bs : List Int} (hk : 1 ≤ k ∧ k ≤ 536870911) (hb : ∀ x ∈ bs, 0 ≤ x ∧ x ≤ 255) (hl : bs.length ≤ 1000000) : FOk ⟨k, 2, 0, bs⟩ := by
 refine ⟨?_, by simp, hb, hl⟩; unfold Proto.chk; simp; omega
theorem FOk.len {f : Fld} (h : FOk f) : (fby f).length ≤ f.bs.length + 20 := fby_len f h.1 h.2.1.1 h.2.1.2 h.2.2.2
theorem FOk.bd {f : Fld} (h : FOk f) : ∀ x ∈ fby f, 0 ≤ x ∧ x ≤ 255 := fby_bd f h.1 h.2.1.1 h.2.2.1
theorem flds_bd {l : List Fld} (h : ∀ f ∈ l, FOk f) : ∀ x ∈ l.flatMap fby, 0 ≤ x ∧ x ≤ 255 := by
 intro x hx; obtain ⟨f, hf, hx⟩ := List.mem_flatMap.1 hx; exact (h f hf).bd x hx
theorem flds_len {K : Nat} : ∀ {l : List Fld}, (∀ f ∈ l, FOk f ∧ f.bs.length ≤ K) → (l.flatMap fby).length ≤ l.length * (K + 20)
 | [], _ => by simp
 | f :: l, h => by
  have h1 := (h f (by simp)).1.len; have h2 := (h f (by simp)).2; have h3 := flds_len (K := K) (l := l) (fun g hg => h g (by simp [hg])); rw [List.flatMap_cons, List.length_append, List.length_cons, Nat.add_mul]; omega
theorem pall_ok {l : List Fld} (h : ∀ f ∈ l, FOk f) : pall (l.flatMap fby) = (l, 0, 0) := pall_fby l (fun f hf => ⟨(h f hf).1, (h f hf).2.1.1, (h f hf).2.1.2, (h f hf).2.2.2⟩)
end Go
namespace Go
open Go.RowKit Go.Proto Go.Vint
theorem numsF_len40 (kind : Int) (G : List (List Pt)) : ∀ (a : Pt), (∀ g ∈ G, 1 ≤ g.length ∧ g.length ≤ 40) → (numsF kind a G).length ≤ 83 * G.length := by
 induction G with
 | nil => intro a _; simp [numsF]
 | cons g G ih =>
  intro a h; have h1 := h g (by simp); have h2 := ih g[g.length - 1]! (fun x hx => h x (by simp [hx])); rw [numsF, List.length_append, partN_len' kind a g (by omega), List.length_cons]
  split <;> omega
theorem geo_ok (c : FtC) (hc : checkE c.2.1 c.2.2.2 = 0) (hf : c.Few) : (∀ x ∈ numsF c.2.1 ⟨0, 0⟩ c.2.2.2, 0 ≤ x ∧ x ≤ 18446744073709551615) ∧ (numsF c.2.1 ⟨0, 0⟩ c.2.2.2).length ≤ 830 ∧ (∀ x ∈ geoB c, 0 ≤ x ∧ x ≤ 255) ∧ (geoB c).length ≤ 8300 := by
 obtain ⟨h1, h2, h3⟩ := checkE_zero hc; have ha := numsF_bd c.2.1 c.2.2.2 (a := ⟨0, 0⟩) (by unfold Close; simp) (fun g hg => ⟨⟨(h3 g hg).1, by have := hf.2.1 g hg; omega⟩, (h3 g hg).2⟩); have hb := numsF_len40 c.2.1 c.2.2.2 ⟨0, 0⟩ (fun g hg => ⟨by have := (h3 g hg).1; omega, hf.2.1 g hg⟩); have hl : (numsF c.2.1 ⟨0, 0⟩ c.2.2.2).length ≤ 830 := by have := hf.1; omega
 refine ⟨ha, hl, vbs_bd _ ha, ?_⟩; have := vbs_len (numsF c.2.1 ⟨0, 0⟩ c.2.2.2) (fun x hx => (ha x hx).2); unfold geoB; omega
theorem tag_bd (l : List At) : ∀ (t : TB), ∀ x ∈ tagL t l, 0 ≤ x ∧ x ≤ ((t.1.length + t.2.length + 2 * l.length : Nat) : Int) := by
 induction l with
 | nil => intro t x hx; simp [tagL] at hx
 | cons a l ih =>
  intro t x hx; have h1 := plc_len t.1 a.key; have h2 := plc_len t.2 a.vv; have h3 := (plc_at t.1 a.key).2; have h4 := (plc_at t.2 a.vv).2; rw [List.length_cons]; simp only [tagL, tagA, List.cons_append, List.nil_append, List.mem_cons] at hx
  rcases hx with rfl | rfl | hx
  ·omega
  ·omega
  ·have := ih (addA t a) x hx; simp only [addA] at this; omega
theorem tag_ok (t : TB) (c : FtC) (hf : c.Few) (ht : t.1.length ≤ 1000 ∧ t.2.length ≤ 1000) : (∀ x ∈ tagL t c.2.2.1, 0 ≤ x ∧ x ≤ 2147483648) ∧ (∀ x ∈ tagB t c, 0 ≤ x ∧ x ≤ 255) ∧ (tagB t c).length ≤ 200 := by
 have h1 := tag_bd c.2.2.1 t; have h2 : ∀ x ∈ tagL t c.2.2.1, 0 ≤ x ∧ x ≤ 2147483648 := fun x hx => by
  have := h1 x hx; have := hf.2.2.1; omega
 refine ⟨h2, vbs_bd _ (fun x hx => ⟨(h2 x hx).1, by have := (h2 x hx).2; omega⟩), ?_⟩; have h3 := vbs_len (tagL t c.2.2.1) (fun x hx => by have := (h2 x hx).2; omega); have h4 := tagL_len c.2.2.1 t; have := hf.2.2.1; unfold tagB; omega
theorem feat_ok (t : TB) (c : FtC) (hc : fchkF c = 0) (hf : c.Few) (ht : t.1.length ≤ 1000 ∧ t.2.length ≤ 1000) : (∀ f ∈ ftFlds t c, FOk f ∧ f.bs.length ≤ 8300) ∧ (ftFlds t c).length ≤ 4 ∧ (ftB t c).length ≤ 33280 ∧ ∀ x ∈ ftB t c, 0 ≤ x ∧ x ≤ 255 := by
 obtain ⟨h1, h2, h3⟩ := fchkF_zero hc; obtain ⟨g1, g2, g3, g4⟩ := geo_ok c h3 hf; obtain ⟨k1, k2, k3⟩ := tag_ok t c hf ht; have hk := (checkE_zero h3).1; have ha : ∀ f ∈ ftFlds t c, FOk f ∧ f.bs.length ≤ 8300 := by
  intro f hx; unfold ftFlds at hx
  rcases List.mem_append.1 hx with hx | hx
  ·rcases List.mem_append.1 hx with hx | hx
   ·split at hx
    ·rw [List.mem_singleton.1 hx]; exact ⟨FOk.num (by omega) (by omega), by simp⟩
    ·cases hx
   ·split at hx
    ·cases hx
    ·rw [List.mem_singleton.1 hx]; exact ⟨FOk.bytes (by omega) k2 (by omega), by simp only; omega⟩
  ·simp only [List.mem_cons, List.not_mem_nil, or_false] at hx
   rcases hx with rfl | rfl
   ·exact ⟨FOk.num (by omega) (by omega), by simp⟩
   ·exact ⟨FOk.bytes (by omega) g3 (by omega), g4⟩
 have hl : (ftFlds t c).length ≤ 4 := by
  unfold ftFlds; rw [List.length_append, List.length_append]
  split <;> split <;> simp
 refine ⟨ha, hl, ?_, flds_bd (fun f hf => (ha f hf).1)⟩; have := flds_len (K := 8300) ha; have h5 : (ftFlds t c).length * (8300 + 20) ≤ 4 * (8300 + 20) := Nat.mul_le_mul_right _ hl; unfold ftB; omega
theorem ftsT_len (l : List FtC) : ∀ (t : TB), (∀ c ∈ l, FtC.Few c) → (ftsT t l).1.length ≤ t.1.length + 10 * l.length ∧ (ftsT t l).2.length ≤ t.2.length + 10 * l.length := by
 induction l with
 | nil => intro t _; exact ⟨by simp [ftsT], by simp [ftsT]⟩
 | cons c l ih =>
  intro t h; have h1 := ih (addL t c.2.2.1) (fun d hd => h d (by simp [hd])); have h2 := addL_len c.2.2.1 t; have h3 := (h c (by simp)).2.2.1; simp only [ftsT, List.length_cons]; omega
theorem fts_ok (l : List FtC) : ∀ (t : TB), (∀ c ∈ l, fchkF c = 0 ∧ FtC.Few c) → t.1.length + 10 * l.length ≤ 1000 → t.2.length + 10 * l.length ≤ 1000 → ∀ f ∈ ftsB t l, FOk f ∧ f.bs.length ≤ 33280 := by
 induction l with
 | nil => intro t _ _ _ f hf; cases hf
 | cons c l ih =>
  intro t h h1 h2 f hf; rw [List.length_cons] at h1 h2; have h3 := addL_len c.2.2.1 t; have h4 := (h c (by simp)).2.2.2.1
  rcases List.mem_cons.1 hf with rfl | hf
  ·obtain ⟨-, -, g3, g4⟩ := feat_ok t c (h c (by simp)).1 (h c (by simp)).2 (by omega); exact ⟨FOk.bytes (by omega) g4 (by omega), g3⟩
  ·exact ih _ (fun d hd => h d (by simp [hd])) (by omega) (by omega) f hf
theorem ftsT_ok (l : List FtC) : ∀ {t : TB}, TbOk t → (∀ c ∈ l, fchkF c = 0) → TbOk (ftsT t l) := by
 induction l with
 | nil => intro t h _; exact h
 | cons c l ih =>
  intro t h hc; exact ih (h.addL _ (tcF_zero _ (fchkF_zero (hc c (by simp))).2.1).2.1) (fun d hd => hc d (by simp [hd]))
theorem val_len (v : VV) (h : vE v = 0) : (∀ x ∈ fby (vFld v), 0 ≤ x ∧ x ≤ 255) ∧ (fby (vFld v)).length ≤ 84 := by
 have hf := vFld_ok v h; have hk : FOk (vFld v) := ⟨hf.1, ⟨hf.2.1, hf.2.2.1⟩, hf.2.2.2.1, by omega⟩; exact ⟨hk.bd, by have := hk.len; omega⟩
theorem key_len (s : ByteArray) : (∀ x ∈ bnums s, 0 ≤ x ∧ x ≤ 255) ∧ (bnums s).length = s.size := ⟨bnums_bd s, bnums_len s⟩
theorem addL_keys (l : List At) : ∀ (t : TB), (∀ k ∈ t.1, k.size ≤ 100) → (∀ a ∈ l, a.key.size ≤ 100) → ∀ k ∈ (addL t l).1, k.size ≤ 100 := by
 induction l with
 | nil => intro t h _; exact h
 | cons a l ih => intro t h ha; exact ih (addA t a) (plc_mem _ _ h (ha a (by simp))) (fun b hb => ha b (by simp [hb]))
theorem ftsT_keys (l : List FtC) : ∀ (t : TB), (∀ k ∈ t.1, k.size ≤ 100) → (∀ c ∈ l, FtC.Few c) → ∀ k ∈ (ftsT t l).1, k.size ≤ 100 := by
 induction l with
 | nil => intro t h _; exact h
 | cons c l ih => intro t h hc; exact ih _ (addL_keys _ _ h (fun a ha => ((hc c (by simp)).2.2.2 a ha).1)) (fun d hd => hc d (by simp [hd]))
theorem lay_parts (y : LyC) (hn : namedF y.1 = 0) (hf : fsChk y.2 = 0) (hw : y.Few) :
  TbOk (lyTab y) ∧ ((lyTab y).1.length ≤ 60 ∧ (lyTab y).2.length ≤ 60) ∧ (∀ f ∈ ftsB ([], []) y.2, FOk f ∧ f.bs.length ≤ 33280) ∧ (∀ k ∈ (lyTab y).1, FOk (keyFld k) ∧ (keyFld k).bs.length ≤ 100) ∧ (∀ v ∈ (lyTab y).2, FOk (valFld v) ∧ (valFld v).bs.length ≤ 84) := by
 have hfc := fsChk_zero hf; have htl := ftsT_len y.2 ([], []) hw.2; have h6 := hw.1; have htb : TbOk (lyTab y) := ftsT_ok y.2 TbOk.nil hfc; have hkk := ftsT_keys y.2 ([], []) (by simp) hw.2; refine ⟨htb, ⟨?_, ?_⟩, ?_, ?_, ?_⟩
 ·unfold lyTab; simp only [List.length_nil] at htl; omega
 ·unfold lyTab; simp only [List.length_nil] at htl; omega
 ·exact fts_ok y.2 ([], []) (fun c hc => ⟨hfc c hc, hw.2 c hc⟩) (by simp only [List.length_nil]; omega) (by simp only [List.length_nil]; omega)
 ·intro k hk; have h1 := hkk k hk; have h2 := key_len k; exact ⟨FOk.bytes (by omega) h2.1 (by omega), by show (bnums k).length ≤ 100; omega⟩
 ·intro v hv; have h1 := val_len v (htb.2.2.2 v hv); exact ⟨FOk.bytes (by omega) h1.1 (by omega), h1.2⟩
theorem lay_ok (y : LyC) (hn : namedF y.1 = 0) (hf : fsChk y.2 = 0) (hw : y.Few) : (∀ f ∈ lyFlds y, FOk f) ∧ (lyFlds y).length ≤ 200 ∧ (lyB y).length ≤ 250000 ∧ ∀ x ∈ lyB y, 0 ≤ x ∧ x ≤ 255 := by
 obtain ⟨h1, ⟨h2, h3⟩, h4, h5, h6⟩ := lay_parts y hn hf hw; obtain ⟨-, -, h7⟩ := namedF_zero hn; have h8 := key_len y.1; have hA : ∀ f ∈ [(⟨15, 0, 2, []⟩ : Fld), ⟨1, 2, 0, bnums y.1⟩], FOk f ∧ f.bs.length ≤ 64 := by
  intro f hx; simp only [List.mem_cons, List.not_mem_nil, or_false] at hx
  rcases hx with rfl | rfl
  ·exact ⟨FOk.num (by omega) (by omega), by simp⟩
  ·exact ⟨FOk.bytes (by omega) h8.1 (by omega), by simp only; omega⟩
 have hK : ∀ f ∈ (lyTab y).1.map keyFld, FOk f ∧ f.bs.length ≤ 100 := by
  intro f hx; obtain ⟨k, hk, rfl⟩ := List.mem_map.1 hx; exact h5 k hk
 have hV : ∀ f ∈ (lyTab y).2.map valFld, FOk f ∧ f.bs.length ≤ 84 := by
  intro f hx; obtain ⟨k, hk, rfl⟩ := List.mem_map.1 hx; exact h6 k hk
 have hE : ∀ f ∈ [(⟨5, 0, 4096, []⟩ : Fld)], FOk f ∧ f.bs.length ≤ 0 := by
  intro f hx; rw [List.mem_singleton.1 hx]; exact ⟨FOk.num (by omega) (by omega), by simp⟩
 have hall : ∀ f ∈ lyFlds y, FOk f := by
  intro f hx; unfold lyFlds lyHead at hx; simp only [List.mem_append] at hx
  rcases hx with (((hx | hx) | hx) | hx) | hx
  ·exact (hA f hx).1
  ·exact (h4 f hx).1
  ·exact (hK f hx).1
  ·exact (hV f hx).1
  ·exact (hE f hx).1
 have hlen := ftsB_len y.2 ([], []); have hy := hw.1; refine ⟨hall, ?_, ?_, flds_bd hall⟩
 ·unfold lyFlds lyHead; simp only [List.length_append, List.length_map, hlen, List.length_cons, List.length_nil]; omega
 ·have a1 := flds_len (K := 64) hA; have a2 := flds_len (K := 33280) h4; have a3 := flds_len (K := 100) hK; have a4 := flds_len (K := 84) hV; have a5 := flds_len (K := 0) hE; rw [hlen] at a2; rw [List.length_map] at a3 a4; unfold lyB lyFlds lyHead; simp only [List.flatMap_append, List.length_append]; simp only [List.length_cons, List.length_nil] at a1 a5; omega
end Go
namespace Go
open Go.RowKit
theorem conv_sbT {P : Program} (w : World) (src dst e : TypeId) (hs : P.underlying src = some .string) (hd : P.underlying dst = some (.slice e)) (he : P.underlying e = some (.int .u8)) (t : ByteArray) (ht : t.size ≤ maxLen) :
  ∃ c w', (convert src dst (.string t)).run P w = .ok (.slice (some ⟨w.heap.size, 0, none⟩) t.size c) w' ∧ Rd w' (some ⟨w.heap.size, 0, none⟩) ((bnums t).map (Value.int .u8)) ∧ Below w.heap.size w w' ∧ t.size ≤ c ∧ c ≤ maxLen ∧ TypB w' (some ⟨w.heap.size, 0, none⟩) e := by
 obtain ⟨c, w', h1, h2, h3, h4, h5⟩ := conv_sb (P := P) w src dst e hs hd he t; refine ⟨c, w', h1, h2, h3, h4, h5 ht, ?_⟩; rw [Lib.run_convert_string_bytes w src dst e _ hs hd he] at h1
 cases h1
 intro b hb; obtain rfl : w.heap.size = b := by simpa using hb
 exact ⟨_, _, Lib.bytesWorld_at_new w e t⟩
end Go
namespace Go.Proofs.YtjggoajfilnfjaaGreat
open Go.RowKit Go.Vint Go.Proto
def FdB (B : Nat) (W : World) (x : FC) : Prop := x.Ok W ∧ TypB W x.p 5 ∧ ∀ b, x.p.map (·.block) = some b → b ≠ B
theorem FdB.none {B : Nat} {W : World} {f : Fld} (h : f.bs = []) : FdB B W ⟨f, none, 0⟩ := ⟨⟨by dsimp only; rw [h]; exact Rd.nil _ _, by dsimp only; rw [h]; exact Nat.le_refl _, (show (0 : Nat) ≤ maxLen by decide), fun _ => rfl⟩, TypB.none _ _, fun b h => by cases h⟩
theorem FdB.owns {B : Nat} {W : World} {f : Fld} {p : Option Addr} {c base : Nat} (h : W.ownsRow base 5 1 (.slice p f.bs.length c) f.bs.length (f.bs.map (Value.int .u8))) (hB : B < base) : FdB B W ⟨f, p, c⟩ := by
 obtain ⟨a, c2, e, h1, h2, h3, h4, h5⟩ := h.form
 cases e
 exact ⟨⟨h4, h1, h2, h3⟩, TypB.of_owns h, fun b hb => by have := (h5 b hb).1; omega⟩
theorem FdB.below {B : Nat} {W W' : World} {x : FC} (h : FdB B W x) (hb : Below W.heap.size W W') : FdB B W' x := ⟨h.1.keep hb, typB_below h.2.1 hb, h.2.2⟩
theorem FdB.tab {B : Nat} {W W' : World} {x : FC} (h : FdB B W x) (hg : W.grownBy W' (some B)) : FdB B W' x :=
 ⟨h.1.grown hg (fun b hb e => h.2.2 b hb (by cases e; rfl)), typB_grown h.2.1 hg (fun b hb e => h.2.2 b hb (by cases e; rfl)), h.2.2⟩
theorem FdB.row {B : Nat} {W W' : World} {x : FC} (h : FdB B W x) {base n : Nat} {v : Value} {xs : List Value} (ho : W.ownsRow base 72 4 v n xs) (hg : W.grownBy W' v.ownBlock) : FdB B W' x := by
 have hn := typB_ne h.2.1 ho (by decide); exact ⟨h.1.grown hg hn, typB_grown h.2.1 hg hn, h.2.2⟩
theorem TbAt.keep {W W' : World} {B : Nat} {t : TB} {kp vp : Option Addr} {kc vc : Nat} (h : TbAt W B t kp kc vp vc) (hb : Below W.heap.size W W') : TbAt W' B t kp kc vp vc := by
 obtain ⟨h1, ⟨h2, a1, a2, a3, a4, a5⟩, ⟨h3, b1, b2, b3, b4, b5⟩⟩ := h; exact ⟨h1.keep hb, ⟨h2.keep hb, a1, a2, a3, a4, typB_below a5 hb⟩, ⟨h3.keep hb, b1, b2, b3, b4, typB_below b5 hb⟩⟩
theorem TbAt.row {W W' : World} {B : Nat} {t : TB} {kp vp : Option Addr} {kc vc base : Nat} {e : TypeId} {size n : Nat} {v : Value} {xs : List Value} (h : TbAt W B t kp kc vp vc) (ho : W.ownsRow base e size v n xs) (h1 : 9 ≠ e) (h2 : 101 ≠ e) (hB : B < base) (hg : W.grownBy W' v.ownBlock) : TbAt W' B t kp kc vp vc := by
 obtain ⟨k1, ⟨g2, a1, a2, a3, a4, a5⟩, ⟨g3, b1, b2, b3, b4, b5⟩⟩ := h; have hk := typB_ne a5 ho h1; have hv := typB_ne b5 ho h2; exact ⟨k1.grown hg (fun e => by have := (ho.lt _ e.symm).1; omega), ⟨g2.grown hg hk, a1, a2, a3, a4, typB_grown a5 hg hk⟩, ⟨g3.grown hg hv, b1, b2, b3, b4, typB_grown b5 hg hv⟩⟩
def LSt (b B : Nat) (L : List FC) (v : Value) (W : World) : Prop := W.ownsRow b 72 4 v L.length (flat L) ∧ (∀ x ∈ L, FdB B W x) ∧ B < b ∧ b ≤ W.heap.size
theorem LSt.below {b B : Nat} {L : List FC} {v : Value} {W W' : World} (h : LSt b B L v W) (hb : Below W.heap.size W W') : LSt b B L v W' := by
 obtain ⟨h2, h3, h4, h5⟩ := h; exact ⟨h2.below hb, fun x hx => (h3 x hx).below hb, h4, Nat.le_trans h5 hb.size⟩
theorem LSt.tab {b B : Nat} {L : List FC} {v : Value} {W W' : World} (h : LSt b B L v W) (hg : W.grownBy W' (some B)) : LSt b B L v W' := by
 obtain ⟨h2, h3, h4, h5⟩ := h; exact ⟨h2.kept hg (.inr (fun e => h2.ne h4 e.symm)), fun x hx => (h3 x hx).tab hg, h4, Nat.le_trans h5 hg.size⟩
theorem LSt.step {b B : Nat} {L : List FC} {v v' : Value} {W W' : World} (h : LSt b B L v W) (x : FC) (hn : FdB B W x) (ho' : W'.ownsRow b 72 4 v' (L.length + 1) (flat L ++ x.cells)) (hg : W.grownBy W' v.ownBlock) : LSt b B (L ++ [x]) v' W' := by
 obtain ⟨h2, h3, h4, h5⟩ := h; refine ⟨by rw [flat_snoc, List.length_append]; exact ho', fun y hy => ?_, h4, Nat.le_trans h5 hg.size⟩
 rcases List.mem_append.1 hy with hy | hy
 ·exact (h3 y hy).row h2 hg
 ·rw [List.mem_singleton.1 hy]; exact hn.row h2 hg
theorem LSt.write {b B : Nat} {L : List FC} {v : Value} {W : World} (h : LSt b B L v W) (fl : List Fld) (hf : L.map (·.f) = fl) (hk : ∀ f ∈ fl, FOk f) (hl : fl.length ≤ 100000) :
  ∃ a c, v = .slice a L.length c ∧ Calls Tryz.prog 26 #[.slice a L.length c] W fun e w' => ∃ x, e = .returned (.tuple #[x, .int .i64 0]) ∧ w'.ownsRow W.heap.size 5 1 x (fl.flatMap fby).length ((fl.flatMap fby).map (Value.int .u8)) ∧ Below W.heap.size W w' := by
 obtain ⟨h2, h3, h4, h5⟩ := h; obtain ⟨a, c, rfl, -, -, -, hr, -⟩ := h2.form; refine ⟨a, c, rfl, ?_⟩; have hw := pwrite_any a c L (fun x hx => by
  have hh := hk x.f (by rw [← hf]; exact List.mem_map_of_mem hx); exact ⟨hh.2.2.1, hh.2.1.1, hh.2.1.2, by have := hh.2.2.2; omega⟩) (by
  have : L.length = fl.length := by rw [← hf, List.length_map]
  omega) W hr (fun x hx => (h3 x hx).1)
 rw [hf, pwr_ok fl (fun f hf => (hk f hf).1)] at hw; exact hw
end Go.Proofs.YtjggoajfilnfjaaGreat
namespace Go
open Go.RowKit Go.Proto Go.Vint
def flt (l : List Fld) (k : Int) : List Fld := l.filter (fun f => decide (f.num = k))
def fstF (l : List Fld) (k : Int) : Fld := (flt l k).headD Fld.zero
theorem flt_app (l m : List Fld) (k : Int) : flt (l ++ m) k = flt l k ++ flt m k := by simp [flt]
theorem flt_all {l : List Fld} {k : Int} (h : ∀ f ∈ l, f.num = k) : flt l k = l := List.filter_eq_self.2 (fun f hf => by simp [h f hf])
theorem flt_none {l : List Fld} {k : Int} (h : ∀ f ∈ l, f.num ≠ k) : flt l k = [] := List.filter_eq_nil_iff.2 (fun f hf => by simp [h f hf])
theorem fts_num (l : List FtC) : ∀ (t : TB), ∀ f ∈ ftsB t l, f.num = 2 ∧ f.kind = 2 ∧ f.n = 0 := by
 induction l with
 | nil => intro t f hf; cases hf
 | cons c l ih =>
  intro t f hf
  rcases List.mem_cons.1 hf with rfl | hf
  ·exact ⟨rfl, rfl, rfl⟩
  ·exact ih _ f hf
theorem key_num (l : List ByteArray) : ∀ f ∈ l.map keyFld, f.num = 3 ∧ f.kind = 2 ∧ f.n = 0 := by
 intro f hf; obtain ⟨k, -, rfl⟩ := List.mem_map.1 hf; exact ⟨rfl, rfl, rfl⟩
theorem val_num (l : List VV) : ∀ f ∈ l.map valFld, f.num = 4 ∧ f.kind = 2 ∧ f.n = 0 := by
 intro f hf; obtain ⟨k, -, rfl⟩ := List.mem_map.1 hf; exact ⟨rfl, rfl, rfl⟩
theorem ly_flt (y : LyC) (k : Int) : flt (lyFlds y) k = (if k = 15 then [⟨15, 0, 2, []⟩] else if k = 1 then [⟨1, 2, 0, bnums y.1⟩] else if k = 2 then ftsB ([], []) y.2 else if k = 3 then (lyTab y).1.map keyFld else if k = 4 then (lyTab y).2.map valFld else if k = 5 then [⟨5, 0, 4096, []⟩] else []) := by
 unfold lyFlds lyHead; rw [flt_app, flt_app, flt_app, flt_app]; have h1 := fts_num y.2 ([], []); have h2 := key_num (lyTab y).1; have h3 := val_num (lyTab y).2; have a1 : flt (ftsB ([], []) y.2) k = if k = 2 then ftsB ([], []) y.2 else [] := by
  split
  ·rename_i h; exact flt_all (fun f hf => by rw [(h1 f hf).1, h])
  ·rename_i h; exact flt_none (fun f hf => by rw [(h1 f hf).1]; exact fun e => h e.symm)
 have a2 : flt ((lyTab y).1.map keyFld) k = if k = 3 then (lyTab y).1.map keyFld else [] := by
  split
  ·rename_i h; exact flt_all (fun f hf => by rw [(h2 f hf).1, h])
  ·rename_i h; exact flt_none (fun f hf => by rw [(h2 f hf).1]; exact fun e => h e.symm)
 have a3 : flt ((lyTab y).2.map valFld) k = if k = 4 then (lyTab y).2.map valFld else [] := by
  split
  ·rename_i h; exact flt_all (fun f hf => by rw [(h3 f hf).1, h])
  ·rename_i h; exact flt_none (fun f hf => by rw [(h3 f hf).1]; exact fun e => h e.symm)
 rw [a1, a2, a3]
 by_cases h15 : k = 15
 ·subst h15; simp [flt]
 ·by_cases h01 : k = 1
  ·subst h01; simp [flt]
  ·by_cases h05 : k = 5
   ·subst h05; simp [flt]
   ·have e1 : flt [(⟨15, 0, 2, []⟩ : Fld), ⟨1, 2, 0, bnums y.1⟩] k = [] := flt_none (by
     intro f hf; simp only [List.mem_cons, List.not_mem_nil, or_false] at hf
     rcases hf with rfl | rfl
     ·exact fun e => h15 e.symm
     ·exact fun e => h01 e.symm)
    have e2 : flt [(⟨5, 0, 4096, []⟩ : Fld)] k = [] := flt_none (by
     intro f hf; rw [List.mem_singleton.1 hf]; exact fun e => h05 e.symm)
    rw [e1, e2, if_neg h15, if_neg h01, if_neg h05]
    by_cases h2 : k = 2
    ·subst h2; simp
    ·by_cases h3 : k = 3
     ·subst h3; simp
     ·by_cases h4 : k = 4
      ·subst h4; simp
      ·simp [h2, h3, h4]
theorem ft_flt (t : TB) (c : FtC) (k : Int) : flt (ftFlds t c) k = (if k = 1 then (if 0 < c.1 then [⟨1, 0, c.1, []⟩] else []) else if k = 2 then (if c.2.2.1.length = 0 then [] else [⟨2, 2, 0, tagB t c⟩]) else if k = 3 then [⟨3, 0, c.2.1, []⟩] else if k = 4 then [⟨4, 2, 0, geoB c⟩] else []) := by
 unfold ftFlds; rw [flt_app, flt_app]
 by_cases h1 : k = 1
 ·subst h1; split <;> split <;> simp [flt]
 ·by_cases h2 : k = 2
  ·subst h2; split <;> split <;> simp [flt]
  ·by_cases h3 : k = 3
   ·subst h3; split <;> split <;> simp [flt]
   ·by_cases h4 : k = 4
    ·subst h4; split <;> split <;> simp [flt]
    ·have g1 : ¬ 1 = k := fun e => h1 e.symm; have g2 : ¬ 2 = k := fun e => h2 e.symm; have g3 : ¬ 3 = k := fun e => h3 e.symm; have g4 : ¬ 4 = k := fun e => h4 e.symm
     split <;> split <;> simp [flt, g1, g2, g3, g4, h1, h2, h3, h4]
def plGo (met : List Int) : List Fld → Int
 | [] => 0
 | f :: l =>
  if f.num = 5 ∨ f.num = 15 ∨ f.num = 1 then (if f.kind ≠ (if f.num = 1 then 2 else 0) then 19 else if f.num ∈ met then 8 else plGo (f.num :: met) l)
  else if f.num = 2 ∨ f.num = 3 ∨ f.num = 4 then (if f.kind ≠ 2 then 19 else plGo (f.num :: met) l)
  else plGo met l
theorem plGo_mid : ∀ (l : List Fld) (met : List Int) (r : List Fld), (∀ f ∈ l, (f.num = 2 ∨ f.num = 3 ∨ f.num = 4) ∧ f.kind = 2) → plGo met (l ++ r) = plGo ((l.map (·.num)).reverse ++ met) r
 | [], _, _, _ => rfl
 | f :: l, met, r, h => by
  obtain ⟨h1, h2⟩ := h f (by simp); rw [List.cons_append, plGo, if_neg (by omega), if_pos h1, if_neg (by omega), plGo_mid l _ r (fun g hg => h g (by simp [hg]))]; simp
theorem plGo_ly (y : LyC) : plGo [] (lyFlds y) = 0 := by
 have h1 := fts_num y.2 ([], []); have h2 := key_num (lyTab y).1; have h3 := val_num (lyTab y).2; have e : lyFlds y = ⟨15, 0, 2, []⟩ :: ⟨1, 2, 0, bnums y.1⟩ :: ((ftsB ([], []) y.2 ++ (lyTab y).1.map keyFld ++ (lyTab y).2.map valFld) ++ [⟨5, 0, 4096, []⟩]) := by simp [lyFlds, lyHead]
 rw [e, plGo, if_pos (by simp), if_neg (by simp), if_neg (by simp), plGo, if_pos (by simp), if_neg (by simp), if_neg (by simp)]; have hm : ∀ f ∈ ftsB ([], []) y.2 ++ (lyTab y).1.map keyFld ++ (lyTab y).2.map valFld, (f.num = 2 ∨ f.num = 3 ∨ f.num = 4) ∧ f.kind = 2 := by
  intro f hf; simp only [List.mem_append] at hf
  rcases hf with (hf | hf) | hf
  ·exact ⟨by have := (h1 f hf).1; omega, (h1 f hf).2.1⟩
  ·exact ⟨by have := (h2 f hf).1; omega, (h2 f hf).2.1⟩
  ·exact ⟨by have := (h3 f hf).1; omega, (h3 f hf).2.1⟩
 rw [plGo_mid _ _ _ hm, plGo, if_pos (by simp), if_neg (by simp), if_neg]
 ·rfl
 ·intro hx
  rcases List.mem_append.1 hx with h | h
  ·rw [List.mem_reverse] at h; obtain ⟨f, hf, hn⟩ := List.mem_map.1 h; have := (hm f hf).1; dsimp only at hn; omega
  ·simp at h
def sgGo (met : List Int) : List Fld → Int
 | [] => 0
 | f :: l =>
  if f.num = 1 ∨ f.num = 3 ∨ f.num = 2 ∨ f.num = 4 then (if f.kind ≠ (if f.num = 1 ∨ f.num = 3 then 0 else 2) then 19 else if f.num ∈ met then 8 else sgGo (f.num :: met) l)
  else sgGo met l
theorem sgGo_ft (t : TB) (c : FtC) : sgGo [] (ftFlds t c) = 0 := by
 unfold ftFlds
 split <;> split <;> simp [sgGo]
end Go
namespace Go
open Go.RowKit

variable {F : Fence} {n : Nat} {P : Program}

def SeqLeave {α : Type} (F : Fence) (n : Nat) (P : Program) (g : Nat) (lb : Array Value) (encs : α → Array Value) (Ahead : List α → α → World → Prop) (Kp : World → World → Prop) (S : List α → World → Prop) (w : World) : Prop :=
 ∀ (l : Nat) (J Jx : List α → World → Prop) (W : World), Below w.heap.size w W → AbidesFrom W.heap.size J → AbidesFrom W.heap.size Jx →
  (∀ pre x W1, J pre W1 → Ahead pre x W1 → YieldAt F (n - 1) P l (encs x) W1 fun e W' => (e = .returned (.bool true) ∧ J (pre ++ [x]) W' ∧ Kp W1 W') ∨ (e = .returned (.bool false) ∧ Jx (pre ++ [x]) W')) →
  J [] W → CallsIn F n P g (#[.func (.yield l) #[] #[]] ++ lb) W fun e W' => (∃ v, e = .returned v) ∧ ((∃ xs, S xs W' ∧ J xs W') ∨ ∃ pre, Jx pre W')

def postLeave {α : Type} (Kp : World → World → Prop) (I : List α → World → Prop) (Ix : Code → List α → World → Prop) (xs : List α) (W : World) : Exit → Act → World → Prop
 | .normal, _, W' => KeepsOthers W W' ∧ Kp W W' ∧ I xs W'
 | .ret, _, W' => KeepsOthers W W' ∧ Ix .ret xs W'
 | .exit id, _, W' => KeepsOthers W W' ∧ Ix (.exit id) xs W'
 | .goto t, _, W' => KeepsOthers W W' ∧ Ix (.goto t) xs W'
 | _, _, _ => False

theorem wpIn_rangeFunc_leave {α : Type} {g : Operand} {ps : Array Tmp} {assign body : Code} {Q : Exit → Act → World → Prop} {a : Act} {w : World}
  (hro : F.round = none) (h1 : 1 ≤ n) {gf : Nat} {lb : Array Value} (hg : a.eval g = .func (.func gf) #[] lb) (hFg : F.fn gf) (eg : ∀ args w, (callFunc gf args).run P w = .ok (.enter gf args) w)
  {encs : α → Array Value} {Ahead : List α → α → World → Prop} {Kp : World → World → Prop} {S : List α → World → Prop} {w0 : World} (hseq : SeqLeave F (n - 1) P gf lb encs Ahead Kp S w0)
  (hKt : ∀ {A B C : World}, Kp A B → Kp B C → Kp A C) (hKb : ∀ (W : World) (l : Nat) (o o' : Obj), w.heap.size ≤ l → W.heap[l]? = some o → o.isCells = false → Kp W (W.putObj l o'))
  (hb0 : Below w0.heap.size w0 w) (hps : ∀ x, (encs x).size = ps.size)
  (I : List α → World → Prop) (Ix : Code → List α → World → Prop) (hI : OwnFrom w.heap.size I) (hIx : ∀ c, OwnFrom w.heap.size (Ix c)) (hS : OwnFrom w.heap.size S) (h0 : I [] w)
  (Mid : List α → α → Act → World → Prop) (hM : ∀ pre x a', OwnFrom w.heap.size (fun (_ : Unit) W => Mid pre x a' W))
  (hassign : ∀ (l : Nat) (pre : List α) (x : α) (W : World), I pre W → Ahead pre x W →
   assign.wpIn (F.inRound l) (n - 1 - 1) P (Exit.then (fun a' W' => KeepsOthers W W' ∧ Kp W W' ∧ Mid pre x a' W') (fun _ _ _ => False)) { tmps := (ps.zip (encs x)).foldl (fun t (p, v) => t.setIfInBounds p v) a.tmps, defers := [] } W)
  (hbody : ∀ (l : Nat) (pre : List α) (x : α) (a' : Act) (W : World), Mid pre x a' W → body.wpIn (F.inRound l) (n - 1 - 1) P (postLeave Kp I Ix (pre ++ [x]) W) a' W)
  (hdone : ∀ (D : Nat) (xs : List α) (W : World), w.heap.size ≤ D → S xs W → I xs W → W.heap[D]? = some (.deferred (some [])) → Q .normal { a with defers := { target := .collected D, args := #[] } :: a.defers } W)
  (hstop : ∀ (D : Nat) (c : Code) (pre : List α) (W : World), w.heap.size ≤ D → Ix c pre W → W.heap[D]? = some (.deferred (some [])) → c.wpIn F n P Q { a with defers := { target := .collected D, args := #[] } :: a.defers } W) :
  (Code.rangeFunc g ps assign body).wpIn F n P Q a w := by
 refine wpIn_rangeFunc fun fn hfn => ?_; rw [hro]
 -- the loop's record, block H + 1; the block for the rounds' deferred calls, block H
 obtain ⟨rec, hrec⟩ : ∃ rec : LoopState → Option Code → Loop, rec = fun st pe => { state := st, pending := pe, fn, tmps := a.tmps, params := ps, assign, body, defers := w.heap.size } := ⟨_, rfl⟩; obtain ⟨W1, hW1⟩ : ∃ W1, (w.alloc (.deferred (some []))).alloc (.loop (rec .ready none)) = W1 := ⟨_, rfl⟩; have hs1 : W1.heap.size = w.heap.size + 2 := by rw [← hW1]; simp
 have hL1 : W1.heap[w.heap.size + 1]? = some (.loop (rec .ready none)) := by
  rw [← hW1]; have := World.alloc_heap_new (w.alloc (.deferred (some []))) (.loop (rec .ready none)); rwa [World.size_alloc] at this
 have hD1 : W1.heap[w.heap.size]? = some (.deferred (some [])) := by
  rw [← hW1]; exact (Below.heap_alloc _ _ _ (by simp)).trans (World.alloc_heap_new w _)
 have hI1 : I [] W1 := by rw [← hW1]; exact hI.alloc _ (hI.alloc _ h0)
 have hb1 : Below w0.heap.size w0 W1 := by
  rw [← hW1]; exact hb0.trans ((((Below.refl _ w).alloc (Nat.le_refl _) _).alloc (by simp) _).mono hb0.size)
 refine ⟨w.heap.size + 1, [{ target := .collected w.heap.size, args := #[] }], W1, { target := .fn (.func gf) lb, args := #[.func (.yield (w.heap.size + 1)) #[] #[]] }, W1, gf,
  #[.func (.yield (w.heap.size + 1)) #[] #[]] ++ lb, W1, ?_, ?_, ?_, ?_, fun _ => h1, ?_⟩
 ·rw [← hW1, hrec]; exact run_enterLoop_outer _ _ _ _ _
 ·simp only [resolve, hg]; simp [go_sem]
 ·intro f' hf'; simp [Target.leads] at hf'; subst hf'; exact hFg
 ·simp [invoke, go_sem, eg]
 ·have hnw : ∀ {A B : World} {row : Option Nat}, (∀ r, row = some r → W1.heap.size ≤ r ∧ ∃ o : Obj, A.heap[r]? = some o ∧ o.isWalk = true) → (∀ r, row = some r → w.heap.size ≤ r ∧ ∃ o : Obj, A.heap[r]? = some o ∧ o.isCells = false) :=
   fun hr r e => by obtain ⟨hB, o, ho, hw⟩ := hr r e; exact ⟨by omega, o, ho, Obj.not_cells_of_walk hw⟩
  refine (hseq (w.heap.size + 1) (fun pre W => I pre W ∧ W.heap[w.heap.size + 1]? = some (.loop (rec .ready none)) ∧ W.heap[w.heap.size]? = some (.deferred (some [])))
   (fun pre W => ∃ c, Ix c pre W ∧ W.heap[w.heap.size + 1]? = some (.loop (rec .done (some c))) ∧ W.heap[w.heap.size]? = some (.deferred (some []))) W1 hb1
   (fun s A B row hs hg' hr => ⟨hI s A B row hs.1 hg' (hnw (B := B) hr), (grownBy_keeps hg' (fun r e => (hr r e).2) hs.2.1 rfl).trans hs.2.1, (grownBy_keeps hg' (fun r e => (hr r e).2) hs.2.2 rfl).trans hs.2.2⟩)
   (fun s A B row hs hg' hr => by
    obtain ⟨c, hc, hl, hk⟩ := hs; exact ⟨c, hIx c s A B row hc hg' (hnw (B := B) hr), (grownBy_keeps hg' (fun r e => (hr r e).2) hl rfl).trans hl, (grownBy_keeps hg' (fun r e => (hr r e).2) hk rfl).trans hk⟩)
   ?_ ⟨hI1, hL1, hD1⟩).mono ?_
  ·rintro pre x W ⟨hi, hl, hd⟩ hah; have hy := run_yield (P := P) (args := encs x) hl (by rw [hrec]; exact hps x); rw [hrec] at hy; refine ⟨fn, _, assign, body, hy, roundIn_of_wpIn hfn (wpIn_mono (hassign _ pre x W hi hah) ?_)⟩; rintro e a' Wa hp
   cases e with
   | normal =>
    obtain ⟨hka, hkpa, hm⟩ := hp; have hla := hka.same _ _ hl rfl; have hda := hka.same _ _ hd rfl; have hlt : w.heap.size + 1 < Wa.heap.size := (Array.getElem?_eq_some_iff.1 hla).1; refine ⟨_, run_beginRound hla (by rw [hrec]), ?_⟩; refine wpIn_mono (hbody _ pre x a' _ ((hM pre x a').putObj (s := ()) _ hm (by omega) hla rfl)) ?_; have hl2 : (Wa.putObj (w.heap.size + 1) (.loop { rec .ready none with state := .busy })).heap[w.heap.size + 1]? = some (.loop { rec .ready none with state := .busy }) := World.putObj_heap_same hlt; have hd2 : (Wa.putObj (w.heap.size + 1) (.loop { rec .ready none with state := .busy })).heap[w.heap.size]? = some (.deferred (some [])) := (World.putObj_heap_other (by omega)).trans hda; have hw2 : Kp Wa (Wa.putObj (w.heap.size + 1) (.loop { rec .ready none with state := .busy })) := hKb _ _ _ _ (by omega) hla rfl; have fin : ∀ (jump : Option Code) (W3 : World), KeepsOthers (Wa.putObj (w.heap.size + 1) (.loop { rec .ready none with state := .busy })) W3 →
      (Instr.endRound (w.heap.size + 1) jump).run P W3 = .ok (.bool jump.isNone) (W3.putObj (w.heap.size + 1) (.loop (rec (if jump.isNone then .ready else .done) jump))) ∧
      W3.heap[w.heap.size + 1]? = some (.loop { rec .ready none with state := .busy }) ∧
      (W3.putObj (w.heap.size + 1) (.loop (rec (if jump.isNone then .ready else .done) jump))).heap[w.heap.size + 1]? = some (.loop (rec (if jump.isNone then .ready else .done) jump)) ∧
      (W3.putObj (w.heap.size + 1) (.loop (rec (if jump.isNone then .ready else .done) jump))).heap[w.heap.size]? = some (.deferred (some [])) := fun jump W3 hk3 => by
     have hl3 := hk3.same _ _ hl2 rfl; have := run_endRound (P := P) jump hl3; rw [hrec] at this ⊢; exact ⟨this, by rw [hrec] at hl3; exact hl3, World.putObj_heap_same (Array.getElem?_eq_some_iff.1 hl3).1, (World.putObj_heap_other (by omega)).trans (hk3.same _ _ hd2 rfl)⟩
    rintro e a3 W3 hp3
    cases e with
    | normal =>
     obtain ⟨hk3, hkp3, hi3⟩ := hp3; obtain ⟨hr, hl3, hl4, hk4⟩ := fin none W3 hk3; exact ⟨_, _, hr, .inl ⟨rfl, ⟨hI.putObj _ hi3 (by omega) hl3 rfl, hl4, hk4⟩, hKt hkpa (hKt hw2 (hKt hkp3 (hKb _ _ _ _ (by omega) hl3 rfl)))⟩⟩
    | ret =>
     obtain ⟨hk3, hi3⟩ := hp3; obtain ⟨hr, hl3, hl4, hk4⟩ := fin (some .ret) W3 hk3; exact ⟨_, _, hr, .inr ⟨rfl, .ret, (hIx _).putObj _ hi3 (by omega) hl3 rfl, hl4, hk4⟩⟩
    | exit id =>
     obtain ⟨hk3, hi3⟩ := hp3; obtain ⟨hr, hl3, hl4, hk4⟩ := fin (some (.exit id)) W3 hk3; exact ⟨_, _, hr, .inr ⟨rfl, .exit id, (hIx _).putObj _ hi3 (by omega) hl3 rfl, hl4, hk4⟩⟩
    | goto t =>
     obtain ⟨hk3, hi3⟩ := hp3; obtain ⟨hr, hl3, hl4, hk4⟩ := fin (some (.goto t)) W3 hk3; exact ⟨_, _, hr, .inr ⟨rfl, .goto t, (hIx _).putObj _ hi3 (by omega) hl3 rfl, hl4, hk4⟩⟩
    | panic ch => exact hp3.elim
    | outgrown => exact hp3.elim
   | ret => exact hp.elim
   | exit id => exact hp.elim
   | goto t => exact hp.elim
   | panic ch => exact hp.elim
   | outgrown => exact hp.elim
  ·rintro e W2 ⟨⟨v, rfl⟩, (⟨xs, hSx, hi, hl, hd⟩ | ⟨pre, c, hi, hl, hd⟩)⟩
   ·have hel := run_endLoop (P := P) hl (by rw [hrec]; simp); rw [hrec] at hel; refine ⟨none, _, hel, hdone _ xs _ (Nat.le_refl _) (hS.putObj _ hSx (by omega) hl rfl) (hI.putObj _ hi (by omega) hl rfl) ((World.putObj_heap_other (by omega)).trans hd)⟩
   ·have hel := run_endLoop (P := P) hl (by rw [hrec]; simp); rw [hrec] at hel; refine ⟨some c, _, hel, hstop _ c pre _ (Nat.le_refl _) ((hIx c).putObj _ hi (by omega) hl rfl) ((World.putObj_heap_other (by omega)).trans hd)⟩
end Go
namespace Go
open Go.RowKit

variable {F : Fence} {n : Nat} {P : Program}
structure KeepsHi (n₀ : Nat) (A B : World) : Prop where
 size : A.heap.size ≤ B.heap.size
 same : ∀ (k : Nat) (o : Obj), n₀ ≤ k → A.heap[k]? = some o → o.isCells = false → B.heap[k]? = some o
theorem KeepsHi.refl (n₀ : Nat) (A : World) : KeepsHi n₀ A A := ⟨Nat.le_refl _, fun _ _ _ h _ => h⟩
theorem KeepsHi.trans {n₀ : Nat} {A B C : World} (h : KeepsHi n₀ A B) (k : KeepsHi n₀ B C) : KeepsHi n₀ A C :=
 ⟨Nat.le_trans h.size k.size, fun i o hn hi ho => k.same i o hn (h.same i o hn hi ho) ho⟩
theorem KeepsHi.of_others {n₀ : Nat} {A B : World} (h : KeepsOthers A B) : KeepsHi n₀ A B := ⟨h.size, fun k o _ hk ho => h.same k o hk ho⟩
theorem KeepsHi.of_grown {n₀ : Nat} {A B : World} {row : Option Nat} (h : A.grownBy B row) (hr : ∀ r, row = some r → r < n₀ ∨ ∃ o, A.heap[r]? = some o ∧ o.isCells = true) : KeepsHi n₀ A B :=
 ⟨h.size, fun k o hn hk ho => (h.block k (Array.getElem?_eq_some_iff.1 hk).1 (fun e => by
  rcases hr k e.symm with h1 | ⟨o', h1, h2⟩
  ·omega
  ·rw [hk] at h1; cases h1; rw [ho] at h2; cases h2)).trans hk⟩

end Go
