/-
  scan: names.
-/
import Derived.Test.YtbklijcdmiffaaaGreatDoorProg
import Derived.Test.YtbklijcdmiffaaaGreatDoorBase
import Derived.Test.YtbklijcdmiffaaaGreatDoorScanA
import Derived.StillTailTactics
import Derived.WalkKit
import Derived.WalkSpells
import Derived.WalkLawsBesides
import Derived.Deep.QuietTactic
import Derived.BigQuiet
import Derived.Lib.Hide
import Derived.Deep.LoopGhost
namespace Go.Proofs.YtbklijcdmiffaaaGreatDoor
open Go.RowKit

def dotAt (s : ByteArray) (f : Nat) : Prop := (∃ h : f < s.size, s[f].toNat = 46) ∧ letterAt s (f + 1)
def NameRes (s : ByteArray) (k z o c : Int) : Prop :=
  ∃ f, RunIs s f ∧ ((24 < f ∧ k = 0 ∧ z = 0 ∧ o = 0 ∧ c = 36) ∨ (f ≤ 24 ∧ ¬ dotAt s f ∧ k = 2 ∧ z = f ∧ o = 0 ∧ c = 0) ∨
    (f ≤ 24 ∧ dotAt s f ∧ ∃ g, RunIs (s.extract (f + 1) s.size) g ∧ ((24 < g ∧ k = 0 ∧ z = 0 ∧ o = 0 ∧ c = 36) ∨ (g ≤ 24 ∧ k = 3 ∧ z = f + 1 + g ∧ o = 0 ∧ c = 0))))
/-- four numbers are answered, of which P holds -/
def Four (P : Int → Int → Int → Int → Prop) (e : Ending) : Prop := ∃ k z o c, e = .returned (.tuple #[.int .i64 k, .int .i64 z, .int .i64 o, .int .i64 c]) ∧ P k z o c
set_option maxHeartbeats 1000000 in
theorem sname_any (s : ByteArray) (w : World) (hs : s.size ≤ 1048576) : Calls Tryz.prog 67 #[.string s] w fun e w' => Four (NameRes s) e ∧ w = w' := by
  have HR := Lib.hid (run_any s w hs)
  go_enter Tryz.func67, Tryz.ntmps67
  go_wp2_with fail
  refine HR.out.mono ?_
  rintro e w' ⟨⟨f, rfl, hf⟩, rfl⟩
  have hfs : f ≤ s.size := hf.1
  have HF := Lib.hid hf
  clear hf HR
  by_cases h24 : 24 < f
  · go_wp2
    refine bodyPost_ret (v := .tuple #[.int .i64 0, .int .i64 0, .int .i64 0, .int .i64 36]) (by simp [results, Tryz.results67, go_sem]) rfl ⟨⟨_, _, _, _, rfl, f, HF.out, .inl ⟨h24, rfl, rfl, rfl, rfl⟩⟩, rfl⟩
  by_cases hlt : f < s.size
  · have hlt' : ((f : Int) == (s.size : Int)) = false := by rw [beq_eq_false_iff_ne]; omega
    by_cases h46 : s[f].toNat = 46
    · have h46' : ((s[f].toNat : Int) != 46) = false := by rw [bne_eq_false_iff_eq]; omega
      have HC2 := Lib.hid (class_any s (f + 1) w)
      have HD := Lib.hid (@classAt_letter s (f + 1))
      simp only [Int.natCast_add, Int.natCast_one] at HC2
      generalize classAt s (f + 1) = c at *
      by_cases h5 : c = 5
      · have hn : Hid (dotAt s f) := ⟨⟨hlt, h46⟩, HD.out.1 h5⟩
        have h5' : (c != 5) = false := by simp [h5]
        have hsz : (s.extract (f + 1) s.size).size ≤ 1048576 := by simp; omega
        have HR2 := Lib.hid (run_any (s.extract (f + 1) s.size) w hsz)
        clear h46 h5 hsz
        go_wp2_with fail
        refine HC2.out.mono ?_
        rintro e w' ⟨rfl, rfl⟩
        go_wp2_with fail
        refine HR2.out.mono ?_
        rintro e w' ⟨⟨g, rfl, hg⟩, rfl⟩
        have hgs : g ≤ (s.extract (f + 1) s.size).size := hg.1
        simp only [ByteArray.size_extract] at hgs
        have HG := Lib.hid hg
        clear hg HR2 HC2
        by_cases g24 : 24 < g
        · go_wp2
          refine bodyPost_ret (v := .tuple #[.int .i64 0, .int .i64 0, .int .i64 0, .int .i64 36]) (by simp [results, Tryz.results67, go_sem]) rfl ⟨⟨_, _, _, _, rfl, f, HF.out, .inr (.inr ⟨by omega, hn.out, g, HG.out, .inl ⟨g24, rfl, rfl, rfl, rfl⟩⟩)⟩, rfl⟩
        · go_wp2
          refine bodyPost_ret (v := .tuple #[.int .i64 3, .int .i64 (f + 1 + g), .int .i64 0, .int .i64 0]) (by simp [results, Tryz.results67, go_sem]) rfl ⟨⟨_, _, _, _, rfl, f, HF.out, .inr (.inr ⟨by omega, hn.out, g, HG.out, .inr ⟨by omega, rfl, rfl, rfl, rfl⟩⟩)⟩, rfl⟩
      · have hn : Hid (¬ dotAt s f) := fun h => h5 (HD.out.2 h.2)
        have h5' : (c != 5) = true := by simpa using h5
        clear h46 h5
        go_wp2_with fail
        refine HC2.out.mono ?_
        rintro e w' ⟨rfl, rfl⟩
        go_wp2
        refine bodyPost_ret (v := .tuple #[.int .i64 2, .int .i64 f, .int .i64 0, .int .i64 0]) (by simp [results, Tryz.results67, go_sem]) rfl ⟨⟨_, _, _, _, rfl, f, HF.out, .inr (.inl ⟨by omega, hn.out, rfl, rfl, rfl, rfl⟩)⟩, rfl⟩
    · have h46' : ((s[f].toNat : Int) != 46) = true := by rw [bne_iff_ne]; omega
      have hn : Hid (¬ dotAt s f) := fun ⟨⟨_, h⟩, _⟩ => h46 h
      clear h46
      go_wp2
      refine bodyPost_ret (v := .tuple #[.int .i64 2, .int .i64 f, .int .i64 0, .int .i64 0]) (by simp [results, Tryz.results67, go_sem]) rfl ⟨⟨_, _, _, _, rfl, f, HF.out, .inr (.inl ⟨by omega, hn.out, rfl, rfl, rfl, rfl⟩)⟩, rfl⟩
  · have hlt' : ((f : Int) == (s.size : Int)) = true := by rw [beq_iff_eq]; omega
    have hn : Hid (¬ dotAt s f) := fun ⟨⟨h, _⟩, _⟩ => hlt h
    go_wp2
    refine bodyPost_ret (v := .tuple #[.int .i64 2, .int .i64 f, .int .i64 0, .int .i64 0]) (by simp [results, Tryz.results67, go_sem]) rfl ⟨⟨_, _, _, _, rfl, f, HF.out, .inr (.inl ⟨by omega, hn.out, rfl, rfl, rfl, rfl⟩)⟩, rfl⟩
end Go.Proofs.YtbklijcdmiffaaaGreatDoor
