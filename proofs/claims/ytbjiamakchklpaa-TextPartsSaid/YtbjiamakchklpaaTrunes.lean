/-
  graticuleref09.Runes.
-/
import Derived.Test.YtbjiamakchklpaaTcount
import Derived.Test.YtbjiamakchklpaaTfirst
import Derived.Test.YtbjiamakchklpaaAppAt
import Derived.Test.YtbjiamakchklpaaAppL
set_option linter.unusedVariables false
set_option linter.unusedSimpArgs false
set_option maxRecDepth 100000
namespace Go
open Go.RowKit
def rns (l : List (Nat × Nat)) : List Value := l.map (fun x => .int .i64 (x.1 : Int))
def rps (l : List (Nat × Nat)) : List Value := l.map (fun x => .int .i64 (x.2 : Int))
/-- The document's runes: none where a text isn't right. -/
def runesT (s : ByteArray) : List (Nat × Nat) := if rightF s then runesF s else []
end Go
namespace Go.Proofs.Ytbjiamakchklpaa
open Go.RowKit
theorem Try.infoI64 : (Try.prog.info? 3).map (fun i => (i.zero, i.size, i.bytes)) = some (some (.int .i64 0), 1, 8) := by kernel_rfl

set_option maxHeartbeats 1600000 in
theorem rrunes_any (s : ByteArray) (hs : s.size ≤ 100000) (w : World) :
    Calls Try.prog 8 #[.string s] w fun e w' => ∃ vo va, e = .returned (.tuple #[vo, va, .bool (rightF s)]) ∧ w'.ownsRow w.heap.size 3 1 vo (runesT s).length (rns (runesT s)) ∧ w'.ownsRow w.heap.size 3 1 va (runesT s).length (rps (runesT s)) ∧ Below w.heap.size w w' := by
  have hF : Hid (runesT s = if rightF s then runesF s else []) := Lib.hid rfl
  generalize runesT s = L at *
  obtain ⟨T, hT⟩ : ∃ T : Bool, rightF s = T := ⟨_, rfl⟩
  rw [hT] at hF ⊢
  have HT := Lib.hid hT
  clear hT
  go_enter Try.func8, Try.ntmps8
  go_wp2
  go_loopw [5, 6, 7] (fun o a i wr => ∃ (p f : Nat) (pre : List (Nat × Nat)), i = .int .i64 (p : Int) ∧ wr.ownsRow w.heap.size 3 1 o pre.length (rns pre) ∧ wr.ownsRow w.heap.size 3 1 a pre.length (rps pre) ∧ Hid (Disj o a) ∧ Below w.heap.size w wr ∧ Hid (runesF s = pre ++ rl s f p) ∧ Hid (pre.all (fun x => !badAt s x.2) = true) ∧ s.size ≤ p + f ∧ pre.length ≤ p ∧ p ≤ s.size) (fun _ _ i _ => s.size - (intOf i).toNat)
  case atStart => exact ⟨0, s.size, [], rfl, World.ownsRow_nil _ _ _ _, World.ownsRow_nil _ _ _ _, Lib.hid (fun k h => by simp [Value.ownBlock] at h), Below.refl _ _, Lib.hid rfl, Lib.hid rfl, by omega, by simp, by omega⟩
  case round =>
    obtain ⟨p, f, pre, rfl, hoo, hoa, HD, hbl, HR, HA, hpf, hpl, hps⟩ := hrel
    by_cases hp : p < s.size
    · obtain ⟨f, rfl⟩ : ∃ g, f = g + 1 := ⟨f - 1, by omega⟩
      have hwd := decode_wid hp
      rw [rl_step s f p hp] at HR
      have hfi := first_any (s.extract p s.size) (by rw [ext_size]; unfold maxLen; omega)
      have hft : firstT (s.extract p s.size) = firstF s p := by
        unfold firstT
        rw [if_neg (by rw [ext_size]; omega), ext_first]; rfl
      rw [hft] at hfi
      have hff : firstF s p = if badAt s p then (0, 0) else Utf8.decode s p := rfl
      rw [hff] at hfi
      have HRT : Hid (badAt s p = true → T = false) := Lib.hid (fun h => by
        rw [← HT.out]; unfold rightF
        rw [HR.out, List.all_append, List.all_cons]
        simp [h])
      obtain ⟨B, hB⟩ : ∃ B, badAt s p = B := ⟨_, rfl⟩
      have HBB := Lib.hid hB
      rw [hB] at hfi HRT
      clear hB hff hft
      obtain ⟨D, hD⟩ : ∃ D, Utf8.decode s p = D := ⟨_, rfl⟩
      rw [hD] at hfi HR hwd
      obtain ⟨R, Wd⟩ := D
      dsimp only at HR hwd
      have hpi : (p : Int) ≤ (s.size : Int) := by omega
      have hpi2 : (p : Int) < (s.size : Int) := by omega
      cases B with
      | true =>
        have hz := HRT.out rfl
        subst hz
        have hLz := hF.out
        rw [if_neg (by decide)] at hLz
        subst hLz
        rw [if_pos rfl] at hfi
        have HFI := Lib.hid hfi
        clear hfi hF HRT HR HA HT HD
        go_wp2_with fail
        refine (HFI.out _).mono ?_
        rintro e w1 ⟨rfl, rfl⟩
        go_wp2
        refine bodyPost_ret (v := .tuple #[.slice none 0 0, .slice none 0 0, .bool false]) (by simp [results, Try.results8, go_sem]) rfl ⟨_, _, rfl, World.ownsRow_nil _ _ _ _, World.ownsRow_nil _ _ _ _, hbl⟩
      | false =>
        rw [if_neg (by decide)] at hfi
        have HFI := Lib.hid hfi
        clear hfi hD HRT
        have hwz : ((Wd : Int) == 0) = false := by rw [beq_eq_false_iff_ne]; omega
        have hw0 : IntKind.i64.wrap ((p : Int) + (Wd : Int)) = ((p + Wd : Nat) : Int) := by rw [IntWalk.i64_in _ (by omega)]; omega
        go_wp2_with fail
        refine (HFI.out _).mono ?_
        rintro e w1 ⟨rfl, rfl⟩
        dsimp only
        have hoa1 : ∀ k, u6.ownBlock = some k → k < w1.heap.size := fun k hk => (hoa.lt k hk).2
        go_wp2_with (at_builtin; first
          | (refine wpList_appLitAt w hbl rfl (.tmp 23) (.tmp 25) 23 rfl 3 (.int .i64 0) 1 8 Try.underlying23 Try.infoI64 rfl (by decide) (by decide) u5 pre.length (rns pre) rfl hoo 1 1 w1.heap.size rfl [.int .i64 (R : Int)] _ rfl rfl (by simp [Value.oneCell']) (by omega) ?_
             intro v2 w2 ho2 hg2 hb2 hl2
             have hoa2 := hoa.kept hg2 HD.out.kept
             have hd2 : Disj v2 u6 := HD.out.left hl2 (fun k hk => by have := hoa1 k hk; omega)
             have hob2 := ho2.lt
             have hsz2 := hg2.size)
          | (refine wpList_appLitAt w hb2 rfl (.tmp 27) (.tmp 29) 23 rfl 3 (.int .i64 0) 1 8 Try.underlying23 Try.infoI64 rfl (by decide) (by decide) u6 pre.length (rps pre) rfl hoa2 1 1 w2.heap.size rfl [.int .i64 (p : Int)] _ rfl rfl (by simp [Value.oneCell']) (by omega) ?_
             intro v3 w3 ho3 hg3 hb3 hl3
             have ho4 := ho2.kept hg3 hd2.symm.kept
             have hd3 : Disj v3 v2 := hd2.symm.left hl3 (fun k hk => by have := (hob2 k hk).2; omega)))
        have hlen : (pre ++ [(R, p)]).length = pre.length + 1 := by simp
        have e1 : rns (pre ++ [(R, p)]) = rns pre ++ [.int .i64 (R : Int)] := by simp [rns]
        have e2 : rps (pre ++ [(R, p)]) = rps pre ++ [.int .i64 (p : Int)] := by simp [rps]
        refine ⟨⟨p + Wd, f, pre ++ [(R, p)], val_int (by omega), ?_, ?_, Lib.hid hd3.symm, hb3, Lib.hid (by rw [HR.out, List.append_assoc]; rfl), Lib.hid (by rw [List.all_append, HA.out]; simp [HBB.out]), by omega, by rw [hlen]; omega, by omega⟩, by simp [intOf]; omega⟩
        · rw [e1, hlen]; exact ho4
        · rw [e2, hlen]; exact ho3
    · have hlt : ¬ (p : Int) < (s.size : Int) := by omega
      rw [rl_end s f p hp, List.append_nil] at HR
      have hF1 : T = true := by rw [← HT.out]; unfold rightF; rw [HR.out]; exact HA.out
      subst hF1
      have hL := hF.out
      rw [if_pos rfl, HR.out] at hL
      subst hL
      clear HR HA hF HT HD
      go_wp2
      refine bodyPost_ret (v := .tuple #[u5, u6, .bool true]) (by simp [results, Try.results8, go_sem]) rfl ⟨_, _, rfl, hoo, hoa, hbl⟩
end Go.Proofs.Ytbjiamakchklpaa
