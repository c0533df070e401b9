/-
  varint.Bytes. append inside a region that draws its order: where the row lies behind it. proto.Write. What was written is read again: plain. varint.Zig.
-/
import Derived.Test.YtjggoajfilnfjaaGreatProg
import Derived.Test.YtjggoajfilnfjaaGreatPk1
import Derived.Test.YtjggoajfilnfjaaGreatPk3
import Derived.Test.YtjggoajfilnfjaaGreatPk2
import Derived.Maps.AppendAt
import Derived.Test.YtjggoajfilnfjaaGreatPk7
import Derived.Test.YtjggoajfilnfjaaGreatPk5
namespace Go.Proofs.YtjggoajfilnfjaaGreat
open Go.RowKit Go.Vint

theorem vbytes_any (a : Option Addr) (c : Nat) (L : List Int) (hb : ∀ x ∈ L, 0 ≤ x ∧ x ≤ 18446744073709551615) (hlen : L.length ≤ 1000000) (w : World) (hr : Rd w a (L.map (Value.int .u64))) :
  Calls Tryz.prog 55 #[.slice a L.length c] w fun e w' => ∃ v, e = .returned v ∧ w'.ownsRow w.heap.size 5 1 v (vbs L).length ((vbs L).map (Value.int .u8)) ∧ Below w.heap.size w w' := by
 go_enter Tryz.func55, Tryz.ntmps55
 go_wp2
 go_loopw [3, 8] (fun o i wr => ∃ k : Nat, k ≤ L.length ∧ i = .int .i64 k ∧ wr.ownsRow w.heap.size 5 1 o (vbs (L.take k)).length ((vbs (L.take k)).map (Value.int .u8)) ∧ Below w.heap.size w wr) (fun _ i _ => L.length - (intOf i).toNat)
 case atStart => exact ⟨0, Nat.zero_le _, rfl, World.ownsRow_nil _ _ _ _, Below.refl _ _⟩
 case round =>
  obtain ⟨k, hk, rfl, hown, hbl⟩ := hrel
  by_cases hlt : k < L.length
  ·obtain ⟨b, off, rfl, hcell, _⟩ := (hr.keep hbl).at (i := k) (v := .int .u64 L[k]) (by simp [hlt]); have hx := hb L[k] (by simp); have hA : (vbs (L.take k)).length ≤ 10 * k := by
    have := vbs_len (L.take k) (fun x hx => (hb x (List.mem_of_mem_take hx)).2); simp at this; omega
   have HT : Hid (vbs (L.take (k + 1)) = vbs (L.take k) ++ vb L[k]) := by rw [List.take_succ_eq_append_getElem hlt, vbs_snoc]; rfl
   have hlb := vb_len10 L[k] hx.2; go_wp2; refine wp_goto_head 0 (fun n a' w' => ∃ (m : Int) (B : List Int) (o : Value) (u9 u10 u11 u12 u13 u14 u15 u16 u17 u18 u19 u20 u21 u22 u23 u24 u25 u26 u27 : Value),
    (n = m.toNat ∧ 0 ≤ m ∧ m ≤ 18446744073709551615 ∧ B ++ vb m = vbs (L.take k) ++ vb L[k] ∧ w'.ownsRow w.heap.size 5 1 o B.length (B.map (Value.int .u8)) ∧ Below w.heap.size w w') ∧
    a' = { tmps := #[.slice (some ⟨b, off, none⟩) L.length c, undef, .slice none 0 0, o, undef, .int .u64 m, .slice (some ⟨b, off, none⟩) L.length c, .int .i64 (L.length : Nat), .int .i64 (k : Nat), u9, u10, u11, u12, u13, u14, u15, u16, u17, u18, u19, u20, u21, u22, u23, u24, u25, u26, u27, undef], defers := [] })
    (L[k]).toNat ⟨L[k], vbs (L.take k), _, _, _, _, _, _, _, _, _, _, _, _, _, _, _, _, _, _, _, _, ⟨rfl, hx.1, hx.2, rfl, hown, hbl⟩, rfl⟩ ?_
   rintro n a' w' ⟨m, B, o, u9, u10, u11, u12, u13, u14, u15, u16, u17, u18, u19, u20, u21, u22, u23, u24, u25, u26, u27, ⟨hn, hm0, hm1, hB, hown', hbl'⟩, rfl⟩ J hJ; have HB := Lib.hid hB; have HN := Lib.hid hn; have HJ := Lib.hid hJ; clear hB hn hJ; have hs := hbl'.size
   by_cases hm : m < 128
   ·have hL : B.length ≤ 10 * k + 10 := by
     have := congrArg List.length HB.out; simp at this; omega
    go_wp2_with (at_builtin; go_must (refine wpList_appLit rfl _ _ 31 rfl w.heap.size 5 (.int .u8 0) 1 1 Tryz.underlying31 Tryz.infoU8 rfl (by decide) (by decide) o _ _ rfl hown' 1 1 [.int .u8 m] _ rfl rfl (ints_one .u8 [m]) (by omega) hs ?_); intro v1 w1 hown1 hgrow1)
    rw [Exit.jump_exit]; have hbl1 := hbl'.grown hgrow1 hs (fun k hk => (hown'.lt k hk).1); have HE : Hid ((vbs (L.take (k + 1))) = B ++ [m]) := by
     rw [HT.out, ← HB.out, vb_lo hm]; rfl
    clear hgrow1 HJ hown' hbl' hbl hown hcell hr; go_wp2; go_roundw
    case rel => exact ⟨k + 1, by omega, by go_num, by rw [HE.out]; simpa using hown1, hbl1⟩
    case measure => simp [intOf]; omega
   ·have hL : B.length ≤ 10 * k + 10 := by
     have := congrArg List.length HB.out; simp at this; omega
    go_wp2_with (at_builtin; go_must (refine wpList_appLit rfl _ _ 31 rfl w.heap.size 5 (.int .u8 0) 1 1 Tryz.underlying31 Tryz.infoU8 rfl (by decide) (by decide) o _ _ rfl hown' 1 1 [.int .u8 (bits BinOp.or IntKind.u8 (m % 256) 128)] _ rfl rfl (ints_one .u8 [_]) (by omega) hs ?_); intro v1 w1 hown1 hgrow1)
    have hbl1 := hbl'.grown hgrow1 hs (fun k hk => (hown'.lt k hk).1)
    go_step3
    refine Exit.jump_goto (HJ.out (m / 128).toNat _ _ (by rw [HN.out]; omega) ⟨m / 128, B ++ [128 + m % 128], v1, _, _, _, _, _, _, _, _, _, _, _, _, _, _, _, _, _, _, _, ⟨rfl, by omega, by omega, ?_, ?_, hbl1⟩, rfl⟩)
    ·rw [← HB.out, vb_hi (n := m) (by omega)]; simp
    ·rw [u8_or128' _ (by omega) (by omega)] at hown1; have e : m % 256 % 128 = m % 128 := by omega
     rw [e] at hown1
     simpa using hown1
  ·obtain rfl : k = L.length := by omega
   rw [List.take_length] at hown; go_wp2; go_ret; exact ⟨_, rfl, hown, hbl⟩
end Go.Proofs.YtjggoajfilnfjaaGreat
/- append inside a region that draws its order. -/
namespace Go
open Go.RowKit

theorem wp_app {P : Program} {w : World} {o : Oper} {a : Act} {K : Act → World → Prop} {Q : Exit → Act → World → Prop} (s x : Operand) (t : TypeId)
  (ho : o.op = .call { callee := .builtin .append, args := #[s, x], argTypes := #[t, t] })
  (base : Nat) (e : TypeId) (z : Value) (size bytes : Nat) (ht : P.underlying t = some (.slice e)) (hinfo : (P.info? e).map (fun i => (i.zero, i.size, i.bytes)) = some (some z, size, bytes))
  (hzs : z.cells.size = size) (hsz : 0 < size)
  (v : Value) (n : Nat) (xs : List Value) (hs : a.eval s = v) (hown : w.ownsRow base e size v n xs)
  (ax : Option Addr) (m c : Nat) (vs : List Value) (hx : a.eval x = .slice ax m c) (hc0 : ax = none → c = 0) (hvs : Rd w ax vs) (hl : vs.length = m * size) (h1 : ∀ u ∈ vs, u.oneCell' = true)
  (hbytes : (n + m) * bytes ≤ 140737488355328) (hb1 : 0 < bytes) (hbase : base ≤ w.heap.size)
  (h : ∀ v' w', w'.ownsRow base e size v' (n + m) (xs ++ vs) → w.grownBy w' v.ownBlock → K (a.put o.dst v') w') : o.wp P a w K Q := by
 obtain ⟨i, hi, hz, hsize, hby⟩ := info_parts hinfo; have h63 : n + m ≤ maxLen := by
  have : (n + m) * 1 ≤ (n + m) * bytes := Nat.mul_le_mul_left _ hb1; unfold maxLen; omega
 cases ax with
 | none =>
  have hv0 : vs = [] := by
   rcases hvs with h | ⟨_, _, h, _⟩
   ·exact h
   ·cases h
  subst hv0; have hm : m = 0 := by
   have : m * size = 0 := by simpa using hl.symm
   rcases Nat.mul_eq_zero.1 this with h | h <;> omega
  subst hm; obtain rfl := hc0 rfl; have hrun := run_append_owned_none (P := P) (w := w) base t o.type e i size ht hi v n xs hown; unfold Oper.wp; simp [execOp, ho, resolve, invoke, builtin, hs, hx, hrun, Result.andThen]; exact h v w (by simpa using hown) (World.grownBy.refl _ _)
 | some ad =>
  refine wp_append_own w s x t ho base e i z size bytes ht hi hz hsize hby hzs hsz v n xs hs hown ad m c vs hx hl hvs.add h1 h63 hbytes hbase ?_; intro v' w' h2 h3 _; exact h v' w' h2 h3

theorem txt_app {P : Program} {ops : Array Oper} {lt : Nat → Bool} {Q : Exit → Act → World → Prop} {S : World → Prop} {zz : Option Nat} {k : Nat} {rest : List Oper} {a : Act} {w : World} {o : Oper} (w0 : World) (hb : Below w0.heap.size w0 w) (hlt : lt k = false) (hgd : o.guard = none) (s x : Operand) (t : TypeId)
  (ho : o.op = .call { callee := .builtin .append, args := #[s, x], argTypes := #[t, t] })
  (e : TypeId) (z : Value) (size bytes : Nat) (ht : P.underlying t = some (.slice e)) (hinfo : (P.info? e).map (fun i => (i.zero, i.size, i.bytes)) = some (some z, size, bytes))
  (hzs : z.cells.size = size) (hsz : 0 < size)
  (v : Value) (n : Nat) (xs : List Value) (hs : a.eval s = v) (hown : w.ownsRow w0.heap.size e size v n xs)
  (ax : Option Addr) (m c : Nat) (vs : List Value) (hx : a.eval x = .slice ax m c) (hc0 : ax = none → c = 0) (hvs : Rd w ax vs) (hl : vs.length = m * size) (h1 : ∀ u ∈ vs, u.oneCell' = true)
  (hbytes : (n + m) * bytes ≤ 140737488355328) (hb1 : 0 < bytes)
  (h : ∀ v' w', w'.ownsRow w0.heap.size e size v' (n + m) (xs ++ vs) → w.grownBy w' v.ownBlock → Below w0.heap.size w0 w' → S w' ∧ wpTxtL P ops lt Q S zz (k + 1) rest (a.put o.dst v') w') :
  wpTxtL P ops lt Q S zz k (o :: rest) a w := by
 have hw : Region.wanted o (yielded ops a.tmps) = true := by simp [Region.wanted, hgd]
 refine txt_heavy hlt hw (fun K hK => ?_); refine wp_app s x t ho w0.heap.size e z size bytes ht hinfo hzs hsz v n xs hs hown ax m c vs hx hc0 hvs hl h1 hbytes hb1 hb.size ?_; intro v' w' h2 h3; have := h v' w' h2 h3 (hb.grown h3 hb.size (fun k hk => (hown.lt k hk).1)); exact hK.out _ _ this.1 this.2
end Go
set_option linter.unusedVariables false
set_option linter.unusedSimpArgs false
namespace Go
open Go.RowKit
def Disj (v u : Value) : Prop := ∀ k, v.ownBlock = some k → u.ownBlock ≠ some k
theorem Disj.symm {v u : Value} (h : Disj v u) : Disj u v := fun k h1 h2 => h k h2 h1
theorem Disj.kept {o u : Value} (h : Disj o u) : u.ownBlock = none ∨ u.ownBlock ≠ o.ownBlock := by
 cases hu : u.ownBlock with
 | none => exact .inl rfl
 | some x => exact .inr fun e => h x e.symm hu
theorem Disj.left {o u v : Value} {N : Nat} (h : Disj o u) (hl : v.ownBlock = o.ownBlock ∨ v.ownBlock = some N) (hu : ∀ k, u.ownBlock = some k → k < N) : Disj v u := by
 intro k h1 h2
 rcases hl with e | e
 ·exact h k (e.symm.trans h1) h2
 ·rw [e] at h1
  cases h1
  exact absurd (hu _ h2) (Nat.lt_irrefl _)
end Go
namespace Go.Proto
open Go.Vint

def pwrF : List Int → List Fld → List Int × Int
 | acc, [] => (acc, 0)
 | acc, f :: l => if chk f = 0 then pwrF (acc ++ fby f) l else ([], chk f)
def pwr (l : List Fld) : List Int × Int := pwrF [] l

theorem pwrF_ok : ∀ (l : List Fld) (acc : List Int), (∀ f ∈ l, chk f = 0) → pwrF acc l = (acc ++ l.flatMap fby, 0) := by
 intro l
 induction l with
 | nil => intro acc _; simp [pwrF]
 | cons f l ih =>
  intro acc h; rw [pwrF, if_pos (h f (by simp)), ih _ (fun g hg => h g (by simp [hg]))]; simp
theorem pwr_ok (l : List Fld) (h : ∀ f ∈ l, chk f = 0) : pwr l = (l.flatMap fby, 0) := by
 rw [pwr, pwrF_ok l [] h]; simp

theorem pwrF_step (acc : List Int) (l : List Fld) (k : Nat) (h : k < l.length) (hc : chk l[k] = 0) : pwrF acc (l.drop k) = pwrF (acc ++ fby l[k]) (l.drop (k + 1)) := by
 rw [List.drop_eq_getElem_cons h, pwrF, if_pos hc]
theorem pwrF_err (acc : List Int) (l : List Fld) (k : Nat) (h : k < l.length) (hc : chk l[k] ≠ 0) : pwrF acc (l.drop k) = ([], chk l[k]) := by
 rw [List.drop_eq_getElem_cons h, pwrF, if_neg hc]

theorem fby_len (f : Fld) (h : chk f = 0) (h0 : 0 ≤ f.n) (h1 : f.n ≤ 18446744073709551615) (hb : f.bs.length ≤ 1000000) : (fby f).length ≤ f.bs.length + 20 := by
 have hnum : 1 ≤ f.num ∧ f.num ≤ 536870911 := by unfold chk at h; split at h <;> omega
 have hk : f.kind = 0 ∨ f.kind = 1 ∨ f.kind = 2 ∨ f.kind = 5 := by
  unfold chk at h
  split at h
  ·omega
  ·split at h
   ·omega
   ·omega
 unfold fby tail; rw [List.length_append]; have := vb_len10 (8 * f.num + f.kind) (by omega); have h2 := vb_len10 f.n h1; have h3 := vb_len10 (f.bs.length : Int) (by omega)
 split
 ·omega
 ·split
  ·rw [low_len]; omega
  ·split
   ·rw [low_len]; omega
   ·rw [List.length_append]; omega
end Go.Proto
namespace Go
theorem u64_key (num kind : Int) (h0 : 0 ≤ num) (h1 : num ≤ 536870911) (h2 : 0 ≤ kind) (h3 : kind < 8) : bits BinOp.or IntKind.u64 (num * 8) kind = 8 * num + kind := by
 rw [u64_or_hi 3 (num * 8) kind (by omega) (by omega) (by omega) (by omega) h2 (by omega)]; omega
end Go
namespace Go.Proofs.YtjggoajfilnfjaaGreat
open Go.RowKit Go.Vint Go.Proto

set_option maxHeartbeats 4000000 in
theorem pwrite_any (a : Option Addr) (c : Nat) (xs : List FC) (hx : ∀ x ∈ xs, Byt x.f ∧ 0 ≤ x.f.n ∧ x.f.n ≤ 18446744073709551615 ∧ x.f.bs.length ≤ 1000000) (hl : xs.length ≤ 1000000) (w : World)
  (hr : Rd w a (flat xs)) (hok : ∀ x ∈ xs, x.Ok w) :
  Calls Tryz.prog 26 #[.slice a xs.length c] w fun e w' => ∃ v, e = .returned (.tuple #[v, .int .i64 (pwr (xs.map (·.f))).2]) ∧
   w'.ownsRow w.heap.size 5 1 v (pwr (xs.map (·.f))).1.length ((pwr (xs.map (·.f))).1.map (Value.int .u8)) ∧ Below w.heap.size w w' := by
 go_enter Tryz.func26, Tryz.ntmps26
 go_wp2
 go_loopw [4, 10] (fun o i wr => ∃ (k : Nat) (A : List Int), k ≤ xs.length ∧ i = .int .i64 k ∧ A.length ≤ 1000020 * k ∧ pwr (xs.map (·.f)) = pwrF A ((xs.map (·.f)).drop k) ∧ wr.ownsRow w.heap.size 5 1 o A.length (A.map (Value.int .u8)) ∧ Below w.heap.size w wr) (fun _ i _ => xs.length - (intOf i).toNat)
 case atStart => exact ⟨0, [], Nat.zero_le _, rfl, by simp, rfl, World.ownsRow_nil _ _ _ _, Below.refl _ _⟩
 case round =>
  obtain ⟨k, A, hk, rfl, hA, hP, hown, hbl⟩ := hrel; have HP := Lib.hid hP; clear hP
  by_cases hlt : k < xs.length
  ·obtain ⟨x, hxk⟩ : ∃ x, xs[k] = x := ⟨_, rfl⟩; have h0 := fun j hj => flat_get xs k j hlt hj; rw [hxk] at h0; have hxm : x ∈ xs := by rw [← hxk]; exact List.getElem_mem _
   have hxo : x.Ok w := hok x hxm; obtain ⟨hxb, hn0, hn1, hbsl⟩ := hx x hxm; obtain ⟨b1, off1, rfl, -, _⟩ := hr.at (i := k * 4 + 0) (h0 0 (by omega)); have HC1 : ∀ W, Below w.heap.size w W → ∀ j v, j < 4 → x.cells[j]? = some v → W.cell? ⟨b1, off1 + k * 4 + j, none⟩ = some v := by
    intro W hW j v hj hv; obtain ⟨b', o', e, hc, -⟩ := (hr.keep hW).at (i := k * 4 + j) (v := v) (by rw [h0 j hj, hv])
    cases e
    rw [Nat.add_assoc]; exact hc
   have hmk : (xs.map (·.f))[k]'(by simpa using hlt) = x.f := by rw [List.getElem_map, hxk]
   have HST := pwrF_step A (xs.map (·.f)) k (by simpa using hlt); have HER := pwrF_err A (xs.map (·.f)) k (by simpa using hlt); rw [hmk] at HST HER; replace HST := Lib.hid HST; replace HER := Lib.hid HER; have hfl := fun h => fby_len x.f h hn0 hn1 hbsl; have HFL := Lib.hid hfl; have hck := fun W => pcheck_any x W ⟨hn0, hn1⟩; have HCK := Lib.hid hck; have HXO := Lib.hid hxo; have c0 := HC1 wr hbl 0 _ (by omega) rfl; have c1 := HC1 wr hbl 1 _ (by omega) rfl; have c2 := HC1 wr hbl 2 _ (by omega) rfl; have c3 := HC1 wr hbl 3 _ (by omega) rfl; clear h0 hr hok hxk hxm hx hxo hmk hfl hck HC1; obtain ⟨⟨num, kind, n, bs⟩, p, cx⟩ := x; dsimp only [FC.val] at *; rw [Nat.add_zero] at c0; obtain ⟨ck, hcke⟩ : ∃ ck, chk ⟨num, kind, n, bs⟩ = ck := ⟨_, rfl⟩; have hkin : ck = 0 → 1 ≤ num ∧ num ≤ 536870911 ∧ (kind = 0 ∨ kind = 1 ∨ kind = 2 ∨ kind = 5) := by
    intro h; rw [h] at hcke; unfold chk at hcke; dsimp only at hcke
    split at hcke
    ·omega
    ·split at hcke
     ·omega
     ·omega
   rw [hcke] at HST HER HFL HCK; clear hcke
   by_cases h0 : ck = 0
   ·obtain ⟨k0, k1, k2⟩ := hkin h0; subst h0
    go_wp2_with fail
    refine (HCK.out _).mono ?_; rintro e w1 ⟨rfl, hb1⟩; have hX1 : BlkT w1 wr.heap.size 72 [.int .i64 num, .int .i64 kind, .int .u64 n, .slice p bs.length cx] := (BlkT.new wr _ _).keep hb1; have hbl1 := (hbl.alloc hbl.size _).trans (hb1.mono (by have := hbl.size; simp; omega)); have hown1 := (hown.below (Below.new _ _)).below hb1; have hbp : Below wr.heap.size wr w1 := (Below.new wr _).trans (hb1.mono (by simp)); have hkey := u64_key num kind (by omega) k1 (by omega) (by omega); have d0 := hX1.cell 0 rfl; have d1 := hX1.cell 1 rfl; have hwX : w.heap.size ≤ wr.heap.size := hbl.size; have hs1 := hbl1.size; replace HST := Lib.hid (HST.out trivial); replace HFL := Lib.hid (HFL.out trivial); clear hkin HER HCK hb1 hown hbl c0 c1 c2 c3
    go_wp2_with fail
    obtain ⟨KB, hKB⟩ : ∃ KB, KB = vb (8 * num + kind) := ⟨_, rfl⟩; have hKl : KB.length ≤ 10 := by rw [hKB]; exact vb_len10 _ (by omega)
    obtain ⟨TB, hTB⟩ : ∃ TB, TB = tail ⟨num, kind, n, bs⟩ := ⟨_, rfl⟩; have HF : Hid (pwrF A (List.drop k (List.map (fun x => x.f) xs)) = pwrF (A ++ KB ++ TB) (List.drop (k + 1) (List.map (fun x => x.f) xs))) := by
     refine Lib.hid ?_; rw [HST.out, List.append_assoc, hKB, hTB]; rfl
    have hTl : KB.length + TB.length ≤ bs.length + 20 := by
     have := HFL.out; unfold fby at this; rw [List.length_append, ← hKB, ← hTB] at this; exact this
    have hvk := vbytes_any (some ⟨w1.heap.size, 0, none⟩) 1 [8 * num + kind] (by intro y hy; obtain rfl := List.mem_singleton.1 hy; omega) (by simp) _ (Rd.lit w1 _ [.int .u64 (8 * num + kind)] 70 rfl); rw [show vbs [8 * num + kind] = KB by rw [hKB]; simp [vbs]] at hvk; have HVK := Lib.hid hvk; clear hvk HST HFL hkey d0 d1; refine HVK.out.mono ?_; rintro e w2 ⟨v2, rfl, hv2, hb2⟩; obtain ⟨a2, e2, rfl, -, -, ha2, hr2, -⟩ := hv2.form; have hX2 := (hX1.keep (Below.new w1 (.cells #[.int .u64 (8 * num + kind)] 70))).keep hb2; have hown2 := (hown1.below (Below.new w1 (.cells #[.int .u64 (8 * num + kind)] 70))).below hb2; have hbl2 := (hbl1.alloc hs1 (.cells #[.int .u64 (8 * num + kind)] 70)).trans (hb2.mono (by simp; omega)); have hne2 := hX2.not_row (by decide) hown2; clear HVK hX1 hown1 hbl1 hbp hb2 hv2; have TBk := Lib.hid hTB; clear hKB hTB
    rcases k2 with rfl | rfl | rfl | rfl
    ·go_wp2_with (at_builtin; go_must (refine wpList_app' w hbl2 rfl (.tmp 19) (.tmp 29) 31 rfl 5 (.int .u8 0) 1 1 Tryz.underlying31 Tryz.infoU8 rfl (by decide) u4 A.length (A.map (Value.int .u8)) rfl hown2 a2 KB.length e2 (KB.map (Value.int .u8)) rfl ha2 hr2 (by simp) (ints_one .u8 _) (by omega) (by decide) ?_); intro v3 w3 hown3 hg3 hbl3; have hX3 := hX2.grown hg3 hne2; have x1 := hX3.cell 1 rfl; have x2 := hX3.cell 2 rfl; have x3 := hX3.cell 3 rfl; clear hX2 hown2 hbl2 hne2 hg3 hr2)
     have hvk := vbytes_any (some ⟨w3.heap.size, 0, none⟩) 1 [n] (by intro y hy; obtain rfl := List.mem_singleton.1 hy; omega) (by simp) _ (Rd.lit w3 _ [.int .u64 n] 70 rfl); rw [show vbs [n] = TB by rw [TBk.out]; simp [vbs, tail]] at hvk; have HVK := Lib.hid hvk; clear hvk; refine HVK.out.mono ?_; rintro e w4 ⟨v4, rfl, hv4, hb4⟩; obtain ⟨a4, e4, rfl, -, -, ha4, hr4, -⟩ := hv4.form; have hown4 := (hown3.below (Below.new w3 (.cells #[.int .u64 n] 70))).below hb4; have hbl4 := (hbl3.alloc hbl3.size (.cells #[.int .u64 n] 70)).trans (hb4.mono (by have := hbl3.size; simp; omega)); clear HVK hown3 hbl3 hb4 hv4
     go_wp2_with (at_builtin; go_must (refine wpList_app' w hbl4 rfl (.tmp 46) (.tmp 50) 31 rfl 5 (.int .u8 0) 1 1 Tryz.underlying31 Tryz.infoU8 rfl (by decide) v3 (A.length + KB.length) (A.map (Value.int .u8) ++ KB.map (Value.int .u8)) rfl hown4 a4 TB.length e4 (TB.map (Value.int .u8)) rfl ha4 hr4 (by simp) (ints_one .u8 _) (by omega) (by decide) ?_); intro v5 w5 hown5 hg5 hbl5; clear hown4 hbl4 hg5 hr4 hX3 x1 x2 x3)
     go_roundw
     case rel =>
      refine ⟨k + 1, A ++ KB ++ TB, by omega, by go_num, by simp only [List.length_append]; omega, HP.out.trans HF.out, ?_, hbl5⟩
      simpa [Nat.add_assoc] using hown5
     case measure => simp [intOf]; omega
    ·go_wp2_with (at_builtin; go_must (refine wpList_app' w hbl2 rfl (.tmp 19) (.tmp 29) 31 rfl 5 (.int .u8 0) 1 1 Tryz.underlying31 Tryz.infoU8 rfl (by decide) u4 A.length (A.map (Value.int .u8)) rfl hown2 a2 KB.length e2 (KB.map (Value.int .u8)) rfl ha2 hr2 (by simp) (ints_one .u8 _) (by omega) (by decide) ?_); intro v3 w3 hown3 hg3 hbl3; have hX3 := hX2.grown hg3 hne2; have x1 := hX3.cell 1 rfl; have x2 := hX3.cell 2 rfl; have x3 := hX3.cell 3 rfl; clear hX2 hown2 hbl2 hne2 hg3 hr2)
     have hvk := plow_any n 8 (by omega) ⟨hn0, hn1⟩ w3; rw [show low n 8 = TB by rw [TBk.out]; simp [tail], show (8 : Nat) = TB.length by rw [TBk.out]; simp [tail, low_len]] at hvk; have HVK := Lib.hid hvk; have hTl4 : TB.length = 8 := by rw [TBk.out]; simp [tail, low_len]
     rw [hTl4] at HVK; clear hvk; refine HVK.out.mono ?_; rintro e w4 ⟨v4, rfl, hv4, hb4⟩; rw [← hTl4] at hv4; obtain ⟨a4, e4, rfl, -, -, ha4, hr4, -⟩ := hv4.form; have hown4 := hown3.below hb4; have hbl4 := hbl3.trans (hb4.mono hbl3.size); clear HVK hown3 hbl3 hb4 hv4 hTl4
     go_wp2_with (at_builtin; go_must (refine wpList_app' w hbl4 rfl (.tmp 54) (.tmp 57) 31 rfl 5 (.int .u8 0) 1 1 Tryz.underlying31 Tryz.infoU8 rfl (by decide) v3 (A.length + KB.length) (A.map (Value.int .u8) ++ KB.map (Value.int .u8)) rfl hown4 a4 TB.length e4 (TB.map (Value.int .u8)) rfl ha4 hr4 (by simp) (ints_one .u8 _) (by omega) (by decide) ?_); intro v5 w5 hown5 hg5 hbl5; clear hown4 hbl4 hg5 hr4 hX3 x1 x2 x3)
     go_roundw
     case rel =>
      refine ⟨k + 1, A ++ KB ++ TB, by omega, by go_num, by simp only [List.length_append]; omega, HP.out.trans HF.out, ?_, hbl5⟩
      simpa [Nat.add_assoc] using hown5
     case measure => simp [intOf]; omega
    ·go_wp2_with (at_builtin; go_must (refine wpList_app' w hbl2 rfl (.tmp 19) (.tmp 29) 31 rfl 5 (.int .u8 0) 1 1 Tryz.underlying31 Tryz.infoU8 rfl (by decide) u4 A.length (A.map (Value.int .u8)) rfl hown2 a2 KB.length e2 (KB.map (Value.int .u8)) rfl ha2 hr2 (by simp) (ints_one .u8 _) (by omega) (by decide) ?_); intro v3 w3 hown3 hg3 hbl3; have hX3 := hX2.grown hg3 hne2; have x1 := hX3.cell 1 rfl; have x2 := hX3.cell 2 rfl; have x3 := hX3.cell 3 rfl; clear hX2 hown2 hbl2 hne2 hg3 hr2)
     have hvk := vbytes_any (some ⟨w3.heap.size, 0, none⟩) 1 [(bs.length : Int)] (by intro y hy; obtain rfl := List.mem_singleton.1 hy; omega) (by simp) (w3.drew.alloc (.cells #[.int .u64 (bs.length : Int)] 70)) (Rd.lit w3.drew _ [.int .u64 (bs.length : Int)] 70 rfl); obtain ⟨LB, hLB⟩ : ∃ LB, LB = vb (bs.length : Int) := ⟨_, rfl⟩; rw [show vbs [(bs.length : Int)] = LB by rw [hLB]; simp [vbs]] at hvk; have HVK := Lib.hid hvk; have hTB2 : TB = LB ++ bs := by rw [TBk.out, hLB]; simp [tail]
     have hLl : LB.length ≤ 10 := by rw [hLB]; exact vb_len10 _ (by omega)
     have HTB2 := Lib.hid hTB2; have hpc := HXO.out.2.2.2; dsimp only at hpc; clear hvk hTB2 hLB; refine wp_region_lit_txt [0, 1, 2, 3, 4, 8, 9, 11] (fun W => W.cell? ⟨wr.heap.size, 3, none⟩ = some (.slice p bs.length cx)) (by kernel_rfl) (by kernel_rfl) (by kernel_rfl) x3 ?_
     iterate 5 ((refine txt_light ?_ rfl rfl ?_ ?_; rotate_left; · (intro w' hS; (try dsimp only at hS); go_simp; with_reducible rfl)); try simp only [Act.put, List.setIfInBounds_toArray, List.set_cons_zero, List.set_cons_succ])
     refine txt_heavy rfl rfl (fun K hK => ?_); go_step; have hX4 := BlkT.keep (w := w3.drew) hX3 (Below.new w3.drew (.cells #[.int .u64 (bs.length : Int)] 70)); refine hK.out _ _ (hX4.cell 3 rfl) ?_; clear hK K
     try simp only [Act.put, List.setIfInBounds_toArray, List.set_cons_zero, List.set_cons_succ]
     refine txt_call [.slice (some ⟨w3.heap.size, 0, none⟩) 1 1] Tryz.f55 rfl rfl Tryz.func55 (by kernel_rfl) (by kernel_rfl) rfl (HVK.out.mono ?_); rintro e w4 ⟨v4, rfl, hv4, hb4⟩; obtain ⟨a4, e4, rfl, -, -, ha4, hr4, -⟩ := hv4.form; have hX5 := hX4.keep hb4; have hown4 := (World.ownsRow.below (w := w3.drew) hown3 (Below.new w3.drew (.cells #[.int .u64 (bs.length : Int)] 70))).below hb4; have hbl4 := (hbl3.drew.alloc hbl3.size (.cells #[.int .u64 (bs.length : Int)] 70)).trans (hb4.mono (by have := hbl3.size; simp; omega)); have hne4 := hX5.not_row (by decide) hown4; refine ⟨_, rfl, hX5.cell 3 rfl, ?_⟩; clear HVK hown3 hbl3 hb4 hv4 hX4 hX3
     try simp only [Act.put, List.setIfInBounds_toArray, List.set_cons_zero, List.set_cons_succ]
     refine txt_app w hbl4 rfl rfl (.tmp 33) (.tmp 39) 31 rfl 5 (.int .u8 0) 1 1 Tryz.underlying31 Tryz.infoU8 rfl (by decide) v3 (A.length + KB.length) (A.map (Value.int .u8) ++ KB.map (Value.int .u8)) rfl hown4 a4 LB.length e4 (LB.map (Value.int .u8)) rfl ha4 hr4 (by simp) (ints_one .u8 _) (by omega) (by decide) ?_; intro v5 w5 hown5 hg5 hbl5; have hX6 := hX5.grown hg5 hne4; refine ⟨hX6.cell 3 rfl, ?_⟩; have hr6 := HXO.out.1.keep hbl5; dsimp only at hr6; have hne6 := hX6.not_row (by decide) hown5; clear hown4 hbl4 hr4 hX5 hg5 hne4
     try simp only [Act.put, List.setIfInBounds_toArray, List.set_cons_zero, List.set_cons_succ]
     iterate 2 ((refine txt_light ?_ rfl rfl ?_ ?_; rotate_left; · (intro w' hS; (try dsimp only at hS); go_simp; with_reducible rfl)); try simp only [Act.put, List.setIfInBounds_toArray, List.set_cons_zero, List.set_cons_succ])
     refine txt_app w hbl5 rfl rfl (.tmp 40) (.tmp 42) 31 rfl 5 (.int .u8 0) 1 1 Tryz.underlying31 Tryz.infoU8 rfl (by decide) v5 (A.length + KB.length + LB.length) (A.map (Value.int .u8) ++ KB.map (Value.int .u8) ++ LB.map (Value.int .u8)) rfl hown5 p bs.length cx (bs.map (Value.int .u8)) rfl hpc hr6 (by simp) (ints_one .u8 _) (by omega) (by decide) ?_; intro v7 w7 hown7 hg7 hbl7; have hX8 := hX6.grown hg7 hne6; refine ⟨hX8.cell 3 rfl, ?_⟩; clear hown5 hbl5 hr6 hX6 hg7 hne6
     try simp only [Act.put, List.setIfInBounds_toArray, List.set_cons_zero, List.set_cons_succ]
     (refine txt_light ?_ rfl rfl ?_ ?_; rotate_left; · (intro w' hS; (try dsimp only at hS); go_simp; with_reducible rfl)); try simp only [Act.put, List.setIfInBounds_toArray, List.set_cons_zero, List.set_cons_succ]
     refine txt_nil ?_; clear hX8 x1 x2 x3; go_wp2; go_roundw
     case rel =>
      have hl2 : TB.length = LB.length + bs.length := by rw [HTB2.out]; simp
      refine ⟨k + 1, A ++ KB ++ TB, by omega, by go_num, by simp only [List.length_append]; omega, HP.out.trans HF.out, ?_, hbl7⟩; rw [HTB2.out]
      simpa [Nat.add_assoc] using hown7
     case measure => simp [intOf]; omega
    ·go_wp2_with (at_builtin; go_must (refine wpList_app' w hbl2 rfl (.tmp 19) (.tmp 29) 31 rfl 5 (.int .u8 0) 1 1 Tryz.underlying31 Tryz.infoU8 rfl (by decide) u4 A.length (A.map (Value.int .u8)) rfl hown2 a2 KB.length e2 (KB.map (Value.int .u8)) rfl ha2 hr2 (by simp) (ints_one .u8 _) (by omega) (by decide) ?_); intro v3 w3 hown3 hg3 hbl3; have hX3 := hX2.grown hg3 hne2; have x1 := hX3.cell 1 rfl; have x2 := hX3.cell 2 rfl; have x3 := hX3.cell 3 rfl; clear hX2 hown2 hbl2 hne2 hg3 hr2)
     have hvk := plow_any n 4 (by omega) ⟨hn0, hn1⟩ w3; rw [show low n 4 = TB by rw [TBk.out]; simp [tail], show (4 : Nat) = TB.length by rw [TBk.out]; simp [tail, low_len]] at hvk; have HVK := Lib.hid hvk; have hTl4 : TB.length = 4 := by rw [TBk.out]; simp [tail, low_len]
     rw [hTl4] at HVK; clear hvk; refine HVK.out.mono ?_; rintro e w4 ⟨v4, rfl, hv4, hb4⟩; rw [← hTl4] at hv4; obtain ⟨a4, e4, rfl, -, -, ha4, hr4, -⟩ := hv4.form; have hown4 := hown3.below hb4; have hbl4 := hbl3.trans (hb4.mono hbl3.size); clear HVK hown3 hbl3 hb4 hv4 hTl4
     go_wp2_with (at_builtin; go_must (refine wpList_app' w hbl4 rfl (.tmp 61) (.tmp 64) 31 rfl 5 (.int .u8 0) 1 1 Tryz.underlying31 Tryz.infoU8 rfl (by decide) v3 (A.length + KB.length) (A.map (Value.int .u8) ++ KB.map (Value.int .u8)) rfl hown4 a4 TB.length e4 (TB.map (Value.int .u8)) rfl ha4 hr4 (by simp) (ints_one .u8 _) (by omega) (by decide) ?_); intro v5 w5 hown5 hg5 hbl5; clear hown4 hbl4 hg5 hr4 hX3 x1 x2 x3)
     go_roundw
     case rel =>
      refine ⟨k + 1, A ++ KB ++ TB, by omega, by go_num, by simp only [List.length_append]; omega, HP.out.trans HF.out, ?_, hbl5⟩
      simpa [Nat.add_assoc] using hown5
     case measure => simp [intOf]; omega
   ·go_wp2_with fail
    refine (HCK.out _).mono ?_; rintro e w1 ⟨rfl, hb1⟩; have HE := Lib.hid (HP.out.trans (HER.out h0)); have hne : (ck != 0) = true := by simpa using h0
    have hbl1 := (hbl.alloc hbl.size _).trans (hb1.mono (by have := hbl.size; simp; omega)); clear hkin HST HER HFL HCK HXO hb1 hown; go_wp2; refine bodyPost_ret (v := .tuple #[.slice none 0 0, .int .i64 ck]) (by simp [results, Tryz.results26, go_sem]) rfl ⟨.slice none 0 0, ?_, ?_, hbl1⟩
    ·rw [HE.out]
    ·rw [HE.out]; exact World.ownsRow_nil _ _ _ _
  ·obtain rfl : k = xs.length := by omega
   have HE := Lib.hid HP.out; rw [List.drop_of_length_le (by simp)] at HE; go_wp2; refine bodyPost_ret (v := .tuple #[u4, .int .i64 0]) (by simp [results, Tryz.results26, go_sem]) rfl ⟨u4, ?_, ?_, hbl⟩
   ·rw [HE.out]; rfl
   ·rw [HE.out]; exact hown
end Go.Proofs.YtjggoajfilnfjaaGreat
namespace Go.Proto
open Go.Vint

theorem le_low (k : Nat) : ∀ (n : Int), 0 ≤ n → n < 256 ^ k → le (low n k) = n := by
 induction k with
 | zero => intro n h0 h1; simp at h1; simp [low, le]; omega
 | succ k ih =>
  intro n h0 h1; rw [low, le, ih (n / 256) (by omega) (by rw [Int.pow_succ] at h1; omega)]; omega

theorem prd_fby (f : Fld) (hc : chk f = 0) (h0 : 0 ≤ f.n) (h1 : f.n ≤ 18446744073709551615) (hl : f.bs.length ≤ 1000000) (t : List Int) : prd (fby f ++ t) = (f, ((fby f).length : Int), 0) := by
 obtain ⟨num, kind, n, bs⟩ := f; dsimp only at h0 h1 hl; unfold chk at hc; dsimp only at hc
 split at hc
 ·omega
 ·rename_i a1
  split at hc
  ·omega
  ·rename_i a2
   split at hc
   ·omega
   ·rename_i a3
    split at hc
    ·omega
    ·rename_i a4; have hkey : rd (vb (8 * num + kind) ++ (tail ⟨num, kind, n, bs⟩ ++ t)) = (8 * num + kind, ((vb (8 * num + kind)).length : Int), 0) := rd_vb _ (by omega) (by omega) _; unfold fby; dsimp only; rw [List.append_assoc]; unfold prd; rw [hkey]; obtain ⟨K, hK⟩ : ∃ K, vb (8 * num + kind) = K := ⟨_, rfl⟩; rw [hK]; have hd : (K ++ (tail ⟨num, kind, n, bs⟩ ++ t)).drop K.length = tail ⟨num, kind, n, bs⟩ ++ t := List.drop_left; simp only [if_true]; rw [if_neg (by omega)]; unfold body; simp only [Int.toNat_natCast]; rw [hd]; have hm : (8 * num + kind) % 8 = kind := by omega
     have hq : (8 * num + kind) / 8 = num := by omega
     rw [hm, hq]
     rcases (by omega : kind = 0 ∨ kind = 1 ∨ kind = 2 ∨ kind = 5) with rfl | rfl | rfl | rfl
     ·have hbs : bs = [] := by
       by_cases h : bs = []
       ·exact h
       ·exact absurd (Or.inr ⟨by decide, h⟩) a3
      subst hbs; simp only [tail, if_true, true_or]; rw [rd_vb n h0 h1]; simp
     ·have hbs : bs = [] := by
       by_cases h : bs = []
       ·exact h
       ·exact absurd (Or.inr ⟨by decide, h⟩) a3
      subst hbs; have ht : tail ⟨num, 1, n, []⟩ = low n 8 := by simp [tail]
      rw [ht, if_neg (by omega), if_pos rfl]; rw [if_neg (by simp [low_len]; omega)]; have : (low n 8 ++ t).take 8 = low n 8 := by rw [List.take_append_of_le_length (by rw [low_len]; omega), List.take_of_length_le (by rw [low_len]; omega)]
      rw [this, le_low 8 n h0 (by omega)]; simp [low_len]
     ·have hn : n = 0 := by
       by_cases h : 0 < n
       ·exact absurd (Or.inl ⟨rfl, h⟩) a3
       ·omega
      subst hn; have ht : tail ⟨num, 2, 0, bs⟩ = vb bs.length ++ bs := by simp [tail]
      rw [ht, if_pos (by omega), List.append_assoc, rd_vb (bs.length : Int) (by omega) (by omega)]; simp only [if_true]; rw [if_neg (by omega)]; simp only [Int.toNat_natCast]; rw [if_neg (by simp; omega)]; have hdd : (K ++ (vb (bs.length : Int) ++ (bs ++ t))).drop (K.length + (vb (bs.length : Int)).length) = bs ++ t := by
       rw [← List.drop_drop, List.drop_left, List.drop_left]
      rw [hdd, List.take_left]; simp; omega
     ·have hbs : bs = [] := by
       by_cases h : bs = []
       ·exact h
       ·exact absurd (Or.inr ⟨by decide, h⟩) a3
      subst hbs; have hn4 : n < 256 ^ 4 := by
       by_cases h : 4294967295 < n
       ·exact absurd ⟨rfl, h⟩ a4
       ·omega
      have ht : tail ⟨num, 5, n, []⟩ = low n 4 := by simp [tail]
      rw [ht, if_neg (by omega), if_neg (by omega), if_pos rfl]; rw [if_neg (by simp [low_len]; omega)]; have : (low n 4 ++ t).take 4 = low n 4 := by rw [List.take_append_of_le_length (by rw [low_len]; omega), List.take_of_length_le (by rw [low_len]; omega)]
      rw [this, le_low 4 n h0 hn4]; simp [low_len]

theorem fby_pos (f : Fld) : 1 ≤ (fby f).length := by
 unfold fby; rw [List.length_append]; have := vb_pos (8 * f.num + f.kind); omega

theorem fbys_len_ge (l : List Fld) : l.length ≤ (l.flatMap fby).length := by
 induction l with
 | nil => simp
 | cons f l ih => rw [List.flatMap_cons, List.length_append, List.length_cons]; have := fby_pos f; omega

theorem pallF_fby : ∀ (l acc : List Fld) (f : Nat), l.length < f → (∀ x ∈ l, chk x = 0 ∧ 0 ≤ x.n ∧ x.n ≤ 18446744073709551615 ∧ x.bs.length ≤ 1000000) →
  pallF f (acc.flatMap fby ++ l.flatMap fby) (acc.flatMap fby).length acc = (acc ++ l, 0, 0) := by
 intro l
 induction l with
 | nil =>
  intro acc f hf _; obtain ⟨f, rfl⟩ : ∃ g, f = g + 1 := ⟨f - 1, by simp at hf; omega⟩; rw [pallF_end _ _ _ _ (by simp)]; simp
 | cons x l ih =>
  intro acc f hf hx; obtain ⟨f, rfl⟩ : ∃ g, f = g + 1 := ⟨f - 1, by simp at hf; omega⟩; obtain ⟨c1, c2, c3, c4⟩ := hx x (by simp); have hd : (acc.flatMap fby ++ (x :: l).flatMap fby).drop (acc.flatMap fby).length = fby x ++ l.flatMap fby := by rw [List.drop_left, List.flatMap_cons]
  have hp := prd_fby x c1 c2 c3 c4 (l.flatMap fby); rw [pallF_step f _ _ _ (by rw [List.length_append, List.flatMap_cons, List.length_append]; have := fby_pos x; omega) (by rw [hd, hp])]; rw [hd, hp]; have := ih (acc ++ [x]) f (by simp at hf; omega) (fun y hy => hx y (by simp [hy])); simp only [List.flatMap_append, List.flatMap_cons, List.flatMap_nil, List.append_nil, List.length_append, List.append_assoc] at this; simp only [Int.toNat_natCast, List.flatMap_cons]; rw [this]; simp

theorem pall_fby (l : List Fld) (hx : ∀ x ∈ l, chk x = 0 ∧ 0 ≤ x.n ∧ x.n ≤ 18446744073709551615 ∧ x.bs.length ≤ 1000000) : pall (l.flatMap fby) = (l, 0, 0) := by
 have := pallF_fby l [] ((l.flatMap fby).length + 1) (by have := fbys_len_ge l; omega) hx
 simpa [pall] using this

theorem low_bd (k : Nat) : ∀ (n : Int), ∀ x ∈ low n k, 0 ≤ x ∧ x ≤ 255 := by
 induction k with
 | zero => intro n x hx; simp [low] at hx
 | succ k ih =>
  intro n x hx; rw [low] at hx
  rcases List.mem_cons.1 hx with rfl | hx
  ·omega
  ·exact ih _ x hx

theorem fby_bd (f : Fld) (hc : chk f = 0) (h0 : 0 ≤ f.n) (hb : ∀ x ∈ f.bs, 0 ≤ x ∧ x ≤ 255) : ∀ x ∈ fby f, 0 ≤ x ∧ x ≤ 255 := by
 have hk : 0 ≤ 8 * f.num + f.kind := by
  unfold chk at hc
  split at hc
  ·omega
  ·split at hc
   ·omega
   ·omega
 intro x hx; unfold fby tail at hx
 rcases List.mem_append.1 hx with hx | hx
 ·exact vb_bd _ hk x hx
 ·split at hx
  ·exact vb_bd _ h0 x hx
  ·split at hx
   ·exact low_bd _ _ x hx
   ·split at hx
    ·exact low_bd _ _ x hx
    ·rcases List.mem_append.1 hx with hx | hx
     ·exact vb_bd _ (by omega) x hx
     ·exact hb x hx

end Go.Proto
namespace Go.Proto
end Go.Proto
namespace Go.Proofs.YtjggoajfilnfjaaGreat
open Go.RowKit Go.Vint

theorem vzig_any (n : Int) (h0 : -9223372036854775808 ≤ n) (h1 : n ≤ 9223372036854775807) (w : World) :
  Calls Tryz.prog 82 #[.int .i64 n] w fun e w' => e = .returned (.int .u64 (zig n)) ∧ w = w' := by
 go_enter Tryz.func82, Tryz.ntmps82
 go_wp2; go_ret; refine ⟨ret_int ?_, rfl⟩; unfold zig
 split
 ·exact zig_neg n (by omega) h0
 ·exact zig_nonneg n (by omega) h1
end Go.Proofs.YtjggoajfilnfjaaGreat
