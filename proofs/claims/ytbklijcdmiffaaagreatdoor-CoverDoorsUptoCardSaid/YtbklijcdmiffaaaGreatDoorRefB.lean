/-
  Single cubes and names of the reference: what each call answers, said of the text.
-/
import Derived.Test.YtbklijcdmiffaaaGreatDoorProg
import Derived.Test.YtbklijcdmiffaaaGreatDoorBase
import Derived.WalkKit
import Derived.WalkSpells
import Derived.WalkLawsBesides
import Derived.Deep.QuietTactic
import Derived.BigQuiet
import Derived.Lib.Hide
import Derived.Deep.LoopGhost
namespace Go.Proofs.YtbklijcdmiffaaaGreatDoor
open Go.RowKit

set_option maxHeartbeats 400000 in
theorem cube_any (s : ByteArray) (w : World) (hs : s.size ≤ 1048576) : Calls Tryz.prog 39 #[.string s] w fun e w' => Tells (cubeOk s) e ∧ w = w' := by
  by_cases h1 : s.size < 1
  · have HN : Hid (¬ cubeOk s) := fun h => by have := h.1; omega
    go_enter Tryz.func39, Tryz.ntmps39
    go_wp2
    go_ret
    exact ⟨.no HN.out, rfl⟩
  by_cases h2 : 256 < s.size
  · have HN : Hid (¬ cubeOk s) := fun h => by have := h.2.1; omega
    go_enter Tryz.func39, Tryz.ntmps39
    go_wp2
    go_ret
    exact ⟨.no HN.out, rfl⟩
  go_enter Tryz.func39, Tryz.ntmps39
  go_wp2
  go_loop [3] (fun i => ∃ k : Nat, k ≤ s.size ∧ i = .int .i64 k ∧ Hid (∀ j (h : j < s.size), j < k → s[j].toNat = 48 ∨ s[j].toNat = 49 ∨ s[j].toNat = 120)) (fun i => s.size - (intOf i).toNat)
  case atStart => exact ⟨0, Nat.zero_le _, rfl, fun j _ h => absurd h (by omega)⟩
  case round =>
    obtain ⟨k, hk, rfl, hq⟩ := hrel
    by_cases hlt : k < s.size
    · by_cases hb : s[k].toNat = 48 ∨ s[k].toNat = 49 ∨ s[k].toNat = 120
      · have HQ : Hid (∀ j (h : j < s.size), j < k + 1 → s[j].toNat = 48 ∨ s[j].toNat = 49 ∨ s[j].toNat = 120) := by
          intro j h hj
          by_cases e : j = k
          · subst e; exact hb
          · exact hq.out j h (by omega)
        rcases hb with hb | hb | hb
        all_goals
          go_wp2
          go_round
          case rel => exact ⟨k + 1, by omega, by go_num, HQ⟩
          case measure => simp [intOf]; omega
      · have HN : Hid (¬ cubeOk s) := fun h => hb (h.2.2 k hlt)
        have hb1 : ((s[k].toNat : Int) != 48) = true := by simp; omega
        have hb2 : ((s[k].toNat : Int) != 49) = true := by simp; omega
        have hb3 : ((s[k].toNat : Int) != 120) = true := by simp; omega
        clear hb
        go_wp2
        go_ret
        exact ⟨.no HN.out, rfl⟩
    · have HY : Hid (cubeOk s) := ⟨by omega, by omega, fun j h => hq.out j h (by omega)⟩
      go_wp2
      go_ret
      exact ⟨.yes HY.out, rfl⟩

set_option maxHeartbeats 800000 in
theorem name_any (s : ByteArray) (w : World) (hs : s.size ≤ 1048576) : Calls Tryz.prog 38 #[.string s] w fun e w' => Tells (nameOk s) e ∧ w = w' := by
  by_cases h1 : s.size < 1
  · have HN : Hid (¬ nameOk s) := fun h => by have := h.1; omega
    go_enter Tryz.func38, Tryz.ntmps38
    go_wp2
    go_ret
    exact ⟨.no HN.out, rfl⟩
  by_cases h2 : 24 < s.size
  · have HN : Hid (¬ nameOk s) := fun h => by have := h.2.1; omega
    go_enter Tryz.func38, Tryz.ntmps38
    go_wp2
    go_ret
    exact ⟨.no HN.out, rfl⟩
  go_enter Tryz.func38, Tryz.ntmps38
  go_wp2
  go_loop [3, 4, 5] (fun i _ _ => ∃ k : Nat, k ≤ s.size ∧ i = .int .i64 k ∧ Hid (∀ j (h : j < s.size), j < k → letterN s[j].toNat ∨ (j ≠ 0 ∧ digitN s[j].toNat))) (fun i _ _ => s.size - (intOf i).toNat)
  case atStart => exact ⟨0, Nat.zero_le _, rfl, fun j _ h => absurd h (by omega)⟩
  case round =>
    obtain ⟨k, hk, rfl, hq⟩ := hrel
    by_cases hlt : k < s.size
    · by_cases hb : letterN s[k].toNat ∨ (k ≠ 0 ∧ digitN s[k].toNat)
      · have HQ : Hid (∀ j (h : j < s.size), j < k + 1 → letterN s[j].toNat ∨ (j ≠ 0 ∧ digitN s[j].toNat)) := by
          intro j h hj
          by_cases e : j = k
          · subst e; exact hb
          · exact hq.out j h (by omega)
        have hb' : s[k].toNat = 95 ∨ (s[k].toNat ≠ 95 ∧ 97 ≤ s[k].toNat ∧ s[k].toNat ≤ 122) ∨ (s[k].toNat < 95 ∧ 65 ≤ s[k].toNat ∧ s[k].toNat ≤ 90) ∨ (s[k].toNat < 65 ∧ 1 ≤ k ∧ 48 ≤ s[k].toNat ∧ s[k].toNat ≤ 57) := by
          unfold letterN digitN at hb
          omega
        clear hb
        rcases hb' with hb | ⟨h3, h4, h5⟩ | ⟨h3, h4, h5⟩ | ⟨h3, h6, h4, h5⟩
        · go_wp2
          go_round
          case rel => exact ⟨k + 1, by omega, by go_num, HQ⟩
          case measure => simp [intOf]; omega
        · have h3' : ((s[k].toNat : Int) == 95) = false := by simp; omega
          go_wp2
          go_round
          case rel => exact ⟨k + 1, by omega, by go_num, HQ⟩
          case measure => simp [intOf]; omega
        · have h3' : ((s[k].toNat : Int) == 95) = false := by simp; omega
          go_wp2
          go_round
          case rel => exact ⟨k + 1, by omega, by go_num, HQ⟩
          case measure => simp [intOf]; omega
        · have h3' : ((s[k].toNat : Int) == 95) = false := by simp; omega
          have hk0 : ((k : Int) == 0) = false := by simp; omega
          go_wp2
          go_round
          case rel => exact ⟨k + 1, by omega, by go_num, HQ⟩
          case measure => simp [intOf]; omega
      · have HN : Hid (¬ nameOk s) := fun h => hb (h.2.2 k hlt)
        have hb' : s[k].toNat ≠ 95 ∧ (s[k].toNat < 65 ∨ (90 < s[k].toNat ∧ s[k].toNat < 97) ∨ 122 < s[k].toNat) ∧ (k = 0 ∨ (1 ≤ k ∧ (s[k].toNat < 48 ∨ 57 < s[k].toNat))) := by
          unfold letterN digitN at hb
          omega
        obtain ⟨h3, h4, h5⟩ := hb'
        have h3' : ((s[k].toNat : Int) == 95) = false := by simp; omega
        clear hb
        rcases h5 with h5 | ⟨h5, h6⟩
        · subst h5
          rcases h4 with h4 | ⟨h4, h4'⟩ | h4
          · go_wp2
            go_ret
            exact ⟨.no HN.out, rfl⟩
          · have hd : decide ((s[0].toNat : Int) ≤ 90) = false := by simp; omega
            go_wp2
            go_ret
            exact ⟨.no HN.out, rfl⟩
          · have hd : decide ((s[0].toNat : Int) ≤ 90) = false := by simp; omega
            have hd2 : decide ((s[0].toNat : Int) ≤ 122) = false := by simp; omega
            go_wp2
            go_ret
            exact ⟨.no HN.out, rfl⟩
        · have hk0 : ((k : Int) == 0) = false := by simp; omega
          have hk1 : k ≠ 0 := by omega
          rcases h4 with h4 | ⟨h4, h4'⟩ | h4
          · have hd : decide ((s[k].toNat : Int) < 48) = true ∨ (decide ((s[k].toNat : Int) < 48) = false ∧ decide ((57 : Int) < (s[k].toNat : Int)) = true) := by simp; omega
            rcases hd with hd | ⟨hd, hd'⟩
            all_goals
              go_wp2
              go_ret
              exact ⟨.no HN.out, rfl⟩
          · have hd : decide ((s[k].toNat : Int) ≤ 90) = false := by simp; omega
            have hd3 : decide ((s[k].toNat : Int) < 48) = false := by simp; omega
            have hd4 : decide ((57 : Int) < (s[k].toNat : Int)) = true := by simp; omega
            go_wp2
            go_ret
            exact ⟨.no HN.out, rfl⟩
          · have hd : decide ((s[k].toNat : Int) ≤ 90) = false := by simp; omega
            have hd2 : decide ((s[k].toNat : Int) ≤ 122) = false := by simp; omega
            have hd3 : decide ((s[k].toNat : Int) < 48) = false := by simp; omega
            have hd4 : decide ((57 : Int) < (s[k].toNat : Int)) = true := by simp; omega
            go_wp2
            go_ret
            exact ⟨.no HN.out, rfl⟩
    · have HY : Hid (nameOk s) := ⟨by omega, by omega, fun j h => hq.out j h (by omega)⟩
      go_wp2
      go_ret
      exact ⟨.yes HY.out, rfl⟩
end Go.Proofs.YtbklijcdmiffaaaGreatDoor
