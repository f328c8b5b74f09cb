/-
  scan: piece, the token at the beginning of a text.
-/
import Derived.Test.YtbklijcdmiffaaaGreatDoorProg
import Derived.Test.YtbklijcdmiffaaaGreatDoorBase
import Derived.Test.YtbklijcdmiffaaaGreatDoorScanH
import Derived.WalkKit
import Derived.WalkSpells
import Derived.WalkLawsBesides
import Derived.Deep.QuietTactic
import Derived.BigQuiet
import Derived.Lib.Hide
import Derived.Deep.LoopGhost
namespace Go.Proofs.YtbklijcdmiffaaaGreatDoor
open Go.RowKit

/-- what piece answers of a text that is not empty -/
def PieceOk (s : ByteArray) (k z o c : Int) : Prop :=
  (letterAt s 0 → NameRes s k z o c) ∧ (¬ letterAt s 0 → k ≠ 3) ∧ (c = 0 → 1 ≤ z ∧ z ≤ s.size) ∧ 0 ≤ o ∧ o ≤ s.size
theorem name_size {s : ByteArray} {k z o c : Int} (h : NameRes s k z o c) (hl : letterAt s 0) : (c = 0 → 1 ≤ z ∧ z ≤ s.size) ∧ 0 ≤ o ∧ o ≤ s.size := by
  obtain ⟨f, hf, h⟩ := h
  have hf0 : f ≠ 0 := fun e => hf.2.2 (by subst e; exact ⟨hl.1, .inl hl.2⟩)
  have hfs := hf.1
  rcases h with ⟨_, rfl, rfl, rfl, rfl⟩ | ⟨_, _, rfl, rfl, rfl, rfl⟩ | ⟨_, hd, g, hg, h⟩
  · exact ⟨fun h => by omega, by omega, by omega⟩
  · exact ⟨fun _ => by omega, by omega, by omega⟩
  · have hgs := hg.1
    simp only [ByteArray.size_extract] at hgs
    have hd1 := hd.1.1
    rcases h with ⟨_, rfl, rfl, rfl, rfl⟩ | ⟨_, rfl, rfl, rfl, rfl⟩
    · exact ⟨fun h => by omega, by omega, by omega⟩
    · exact ⟨fun _ => by omega, by omega, by omega⟩
theorem sign_at (k : Nat) (hk : k < 16) : ∃ s : ByteArray, signsL[k]? = some s ∧ 1 ≤ s.size ∧ s.size ≤ 2 ∧ ∀ w, (Instr.index 119 (.agg #[.string ⟨#[33, 61]⟩, .string ⟨#[60, 61]⟩, .string ⟨#[62, 61]⟩, .string ⟨#[46, 46]⟩, .string ⟨#[45, 62]⟩, .string ⟨#[40]⟩, .string ⟨#[41]⟩, .string ⟨#[33]⟩, .string ⟨#[61]⟩, .string ⟨#[60]⟩, .string ⟨#[62]⟩, .string ⟨#[38]⟩, .string ⟨#[124]⟩, .string ⟨#[44]⟩, .string ⟨#[58]⟩, .string ⟨#[47]⟩]) (.int .i64 k)).run Tryz.prog w = .ok (.string s) w := by
  rcases (by omega : k = 0 ∨ k = 1 ∨ k = 2 ∨ k = 3 ∨ k = 4 ∨ k = 5 ∨ k = 6 ∨ k = 7 ∨ k = 8 ∨ k = 9 ∨ k = 10 ∨ k = 11 ∨ k = 12 ∨ k = 13 ∨ k = 14 ∨ k = 15) with rfl | rfl | rfl | rfl | rfl | rfl | rfl | rfl | rfl | rfl | rfl | rfl | rfl | rfl | rfl | rfl
  all_goals exact ⟨_, rfl, by decide, by decide, fun w => by kernel_rfl⟩
set_option maxRecDepth 100000 in
set_option maxHeartbeats 4000000 in
theorem piece_any (s : ByteArray) (w : World) (hv : Vars w) (hs : s.size ≤ 1048576) (h1 : 1 ≤ s.size) :
    Calls Tryz.prog 53 #[.string s] w fun e w' => Four (PieceOk s) e ∧ Below w.heap.size w w' := by
  have HV := Lib.hid hv
  have g0 := hv.signs 0 _ rfl
  have g1 := hv.signs 1 _ rfl
  have g2 := hv.signs 2 _ rfl
  have g3 := hv.signs 3 _ rfl
  have g4 := hv.signs 4 _ rfl
  have g5 := hv.signs 5 _ rfl
  have g6 := hv.signs 6 _ rfl
  have g7 := hv.signs 7 _ rfl
  have g8 := hv.signs 8 _ rfl
  have g9 := hv.signs 9 _ rfl
  have g10 := hv.signs 10 _ rfl
  have g11 := hv.signs 11 _ rfl
  have g12 := hv.signs 12 _ rfl
  have g13 := hv.signs 13 _ rfl
  have g14 := hv.signs 14 _ rfl
  have g15 := hv.signs 15 _ rfl
  clear hv
  have HC := Lib.hid (class_any s 0 w)
  have HL5 := Lib.hid (@classAt_letter s 0)
  have HL6 := Lib.hid (@classAt_digit s 0)
  simp only [Int.cast_ofNat_Int] at HC
  generalize classAt s 0 = c0 at *
  by_cases e5 : c0 = 5
  · have HLA : Hid (letterAt s 0) := HL5.out.1 e5
    subst e5
    have HNM := Lib.hid (sname_any s w hs)
    go_enter Tryz.func53, Tryz.ntmps53
    go_wp2_with fail
    refine HC.out.mono ?_
    rintro e w1 ⟨rfl, rfl⟩
    go_wp2_with fail
    refine HNM.out.mono ?_
    rintro e w1 ⟨⟨k, z, o, c, rfl, hr⟩, rfl⟩
    have HR := Lib.hid hr
    clear hr
    go_wp2
    refine bodyPost_ret (v := .tuple #[.int .i64 (k), .int .i64 (z), .int .i64 (o), .int .i64 (c)]) (by simp [results, Tryz.results53, go_sem]) rfl ?_
    exact ⟨⟨_, _, _, _, rfl, fun _ => HR.out, fun h => absurd HLA.out h, (name_size HR.out HLA.out).1, (name_size HR.out HLA.out).2⟩, Below.refl _ _⟩
  have HNL : Hid (¬ letterAt s 0) := fun h => e5 (HL5.out.2 h)
  have e5' : (c0 == 5) = false := by rw [beq_eq_false_iff_ne]; exact e5
  have HFIN : Hid (∀ k z o c : Int, k ≠ 3 → (c = 0 → 1 ≤ z ∧ z ≤ s.size) → 0 ≤ o → o ≤ s.size → Four (PieceOk s) (.returned (.tuple #[.int .i64 k, .int .i64 z, .int .i64 o, .int .i64 c]))) :=
    fun k z o c hk hc ho1 ho2 => ⟨_, _, _, _, rfl, fun h => absurd h HNL.out, fun _ => hk, hc, ho1, ho2⟩
  clear e5
  by_cases e6 : c0 = 6
  · have HD : Hid (digitAt s 0) := HL6.out.1 e6
    subst e6
    have HN := Lib.hid (num_any s w hs)
    go_enter Tryz.func53, Tryz.ntmps53
    go_wp2_with fail
    refine HC.out.mono ?_
    rintro e w1 ⟨rfl, rfl⟩
    go_wp2_with fail
    refine HN.out.mono ?_
    rintro e w1 ⟨⟨n, rfl, hn1, hn2, hn3⟩, rfl⟩
    have hn0 : 1 ≤ n := by
      rcases Nat.eq_zero_or_pos n with h0 | h0
      · subst h0
        exact absurd (Or.inl ⟨HD.out.1, .inr HD.out.2⟩) hn3
      · exact h0
    clear hn2 hn3
    have HB := Lib.hid (number_any (s.extract 0 n) w HV.out (by simp; omega))
    go_wp2_with fail
    refine HB.out.mono ?_
    rintro e w2 ⟨⟨y, b, rfl⟩, hb⟩
    have HBB := Lib.hid hb
    clear hb HB
    cases b with
    | true =>
      go_wp2
      refine bodyPost_ret (v := .tuple #[.int .i64 (4), .int .i64 (n), .int .i64 (0), .int .i64 (0)]) (by simp [results, Tryz.results53, go_sem]) rfl ⟨HFIN.out _ _ _ _ (by decide) (fun _ => by omega) (by omega) (by omega), HBB.out⟩
    | false =>
      go_wp2
      refine bodyPost_ret (v := .tuple #[.int .i64 (0), .int .i64 (0), .int .i64 (0), .int .i64 (31)]) (by simp [results, Tryz.results53, go_sem]) rfl ⟨HFIN.out _ _ _ _ (by decide) (fun h => by omega) (by omega) (by omega), HBB.out⟩
  have e6' : (c0 == 6) = false := by rw [beq_eq_false_iff_ne]; exact e6
  clear e6
  by_cases e7 : c0 = 7
  · subst e7
    have HN := Lib.hid (run_any (s.extract 1 s.size) w (by simp; omega))
    go_enter Tryz.func53, Tryz.ntmps53
    go_wp2_with fail
    refine HC.out.mono ?_
    rintro e w1 ⟨rfl, rfl⟩
    go_wp2_with fail
    refine HN.out.mono ?_
    rintro e w1 ⟨⟨n, rfl, hn1, -, -⟩, rfl⟩
    have hn2 : n ≤ s.size - 1 := by simpa using hn1
    clear hn1 HN
    go_wp2_with fail
    refine (pattern_any _ _).mono ?_
    rintro e w2 ⟨⟨b, rfl⟩, hb⟩
    have HBB := Lib.hid hb
    clear hb
    cases b with
    | true =>
      go_wp2
      refine bodyPost_ret (v := .tuple #[.int .i64 (5), .int .i64 (1 + n), .int .i64 (0), .int .i64 (0)]) (by simp [results, Tryz.results53, go_sem]) rfl ⟨HFIN.out _ _ _ _ (by decide) (fun _ => by omega) (by omega) (by omega), HBB.out⟩
    | false =>
      go_wp2
      refine bodyPost_ret (v := .tuple #[.int .i64 (0), .int .i64 (0), .int .i64 (0), .int .i64 (44)]) (by simp [results, Tryz.results53, go_sem]) rfl ⟨HFIN.out _ _ _ _ (by decide) (fun h => by omega) (by omega) (by omega), HBB.out⟩
  have e7' : (c0 == 7) = false := by rw [beq_eq_false_iff_ne]; exact e7
  clear e7
  by_cases e8 : c0 = 8
  · subst e8
    have HN := Lib.hid (speak_any s w HV.out hs h1)
    go_enter Tryz.func53, Tryz.ntmps53
    go_wp2_with fail
    refine HC.out.mono ?_
    rintro e w1 ⟨rfl, rfl⟩
    go_wp2_with fail
    refine HN.out.mono ?_
    rintro e w2 ⟨⟨a, n, cap, z, c, rfl, hn, hz⟩, hb⟩
    have HBB := Lib.hid hb
    have hnm : n ≤ 9223372036854775807 := hn
    clear hb HN hn
    rcases hz with ⟨rfl, hz1, hz2⟩ | ⟨hc, hz1, hz2⟩
    · by_cases h256 : 256 < n
      · go_wp2
        refine bodyPost_ret (v := .tuple #[.int .i64 (0), .int .i64 (0), .int .i64 (0), .int .i64 (37)]) (by simp [results, Tryz.results53, go_sem]) rfl ⟨HFIN.out _ _ _ _ (by decide) (fun h => by omega) (by omega) (by omega), HBB.out⟩
      · go_wp2
        refine bodyPost_ret (v := .tuple #[.int .i64 (6), .int .i64 (z), .int .i64 (0), .int .i64 (0)]) (by simp [results, Tryz.results53, go_sem]) rfl ⟨HFIN.out _ _ _ _ (by decide) (fun _ => by omega) (by omega) (by omega), HBB.out⟩
    · have hc' : (c != 0) = true := by rw [bne_iff_ne]; exact hc
      have HCC := Lib.hid hc
      clear hc
      go_wp2
      refine bodyPost_ret (v := .tuple #[.int .i64 (0), .int .i64 (0), .int .i64 (z), .int .i64 (c)]) (by simp [results, Tryz.results53, go_sem]) rfl ⟨HFIN.out _ _ _ _ (by decide) (fun h => absurd h HCC.out) (by omega) (by omega), HBB.out⟩
  have e8' : (c0 == 8) = false := by rw [beq_eq_false_iff_ne]; exact e8
  clear e8
  go_enter Tryz.func53, Tryz.ntmps53
  go_wp2_with fail
  refine HC.out.mono ?_
  rintro e w1 ⟨rfl, rfl⟩
  go_wp2
  go_loop [12, 66] (fun _ i => ∃ k : Nat, k ≤ 16 ∧ i = .int .i64 k) (fun _ i => 16 - (intOf i).toNat)
  case atStart => exact ⟨0, by omega, rfl⟩
  case round =>
    obtain ⟨k, hk, rfl⟩ := hrel
    by_cases hlt : k < 16
    · obtain ⟨sg, -, hsg1, hsg2, hix⟩ := sign_at k hlt
      by_cases hsz : sg.size ≤ s.size
      · by_cases heq : (s.extract 0 sg.size).toList = sg.toList
        · have heq' : ((s.extract 0 sg.size).toList == sg.toList) = true := by rw [heq]; simp
          clear heq
          go_wp2
          refine bodyPost_ret (v := .tuple #[.int .i64 (7), .int .i64 (sg.size), .int .i64 (0), .int .i64 (0)]) (by simp [results, Tryz.results53, go_sem]) rfl ⟨HFIN.out _ _ _ _ (by decide) (fun _ => by omega) (by omega) (by omega), Below.refl _ _⟩
        · have heq' : ((s.extract 0 sg.size).toList == sg.toList) = false := by rw [beq_eq_false_iff_ne]; exact heq
          clear heq
          go_wp2
          go_round
          case rel => exact ⟨k + 1, by omega, by go_num⟩
          case measure => simp [intOf]; omega
      · go_wp2
        go_round
        case rel => exact ⟨k + 1, by omega, by go_num⟩
        case measure => simp [intOf]; omega
    · go_wp2
      refine bodyPost_ret (v := .tuple #[.int .i64 (0), .int .i64 (0), .int .i64 (0), .int .i64 (30)]) (by simp [results, Tryz.results53, go_sem]) rfl ⟨HFIN.out _ _ _ _ (by decide) (fun h => by omega) (by omega) (by omega), Below.refl _ _⟩
end Go.Proofs.YtbklijcdmiffaaaGreatDoor
