/-
  lower: cubes of a network.
-/
import Derived.Test.YtbklijcdmiffaaaGreatDoorProg
import Derived.Test.YtbklijcdmiffaaaGreatDoorBase
import Derived.Test.YtbklijcdmiffaaaGreatDoorTernB
import Derived.StillTailTactics
import Derived.WalkKit
import Derived.WalkSpells
import Derived.WalkLawsBesides
import Derived.Deep.QuietTactic
import Derived.BigQuiet
import Derived.Lib.Hide
import Derived.Deep.LoopGhost
namespace Go.Proofs.YtbklijcdmiffaaaGreatDoor
open Go.RowKit

set_option maxRecDepth 100000 in
set_option maxHeartbeats 1000000 in
theorem vcube_any (cs : List Value) (n : NetD) (s : ByteArray) (w : World) (hn : netE w cs n) (hs : s.size ≤ 1048576) :
    Calls Tryz.prog 37 #[.agg cs.toArray, .string s] w fun e w' => Tells (cubeOk s ∧ (s.size : Int) = n.bits) e ∧ Below w.heap.size w w' := by
  obtain ⟨vp, vt, vg, rfl, -, -, -, -⟩ := hn
  have hz := Lib.hid (Boxes.one w [.int .i64 n.bits, vp, vt, vg] 26)
  have HP := Lib.hid (parse_any s (w.alloc (.cells [.int .i64 n.bits, vp, vt, vg].toArray 26)) hs)
  go_enter Tryz.func37, Tryz.ntmps37
  go_wp2_with fail
  refine HP.out.mono ?_
  rintro e w1 ⟨hr, hb⟩
  have hz1 := Lib.hid (hz.out.next hb)
  clear hb hz HP
  rcases hr with ⟨hok, rfl⟩ | ⟨hok, c, hc, -, rfl⟩
  · have HOK := Lib.hid hok
    clear hok
    have hz2 := Lib.hid (hz1.out.next ((Below.refl _ w1).alloc (Nat.le_refl _) (.cells (cubeCells s).toArray 86)))
    have c0 := hz2.out.cell 0 0 _ _ rfl rfl
    simp only [Nat.add_zero] at c0
    unfold cubeCells at c0 ⊢
    unfold cubeCells at hz2
    by_cases hb : (s.size : Int) = n.bits
    · have hb' : ((s.size : Int) == n.bits) = true := by simp [hb]
      have HY : Hid (cubeOk s ∧ (s.size : Int) = n.bits) := ⟨HOK.out, hb⟩
      clear hb
      go_wp2
      go_ret
      exact ⟨.yes HY.out, hz2.out.2.1⟩
    · have hb' : ((s.size : Int) == n.bits) = false := by simpa using hb
      have HN : Hid (¬ (cubeOk s ∧ (s.size : Int) = n.bits)) := fun h => hb h.2
      clear hb
      go_wp2
      go_ret
      exact ⟨.no HN.out, hz2.out.2.1⟩
  · have HN : Hid (¬ (cubeOk s ∧ (s.size : Int) = n.bits)) := fun h => hok h.1
    clear hok
    have hz2 := Lib.hid (hz1.out.next ((Below.refl _ w1).alloc (Nat.le_refl _) (.cells zeroCube.toArray 86)))
    unfold zeroCube at hz2 ⊢
    rcases hc with rfl | rfl
    all_goals
      go_wp2
      go_ret
      exact ⟨.no HN.out, hz2.out.2.1⟩

set_option maxRecDepth 100000 in
set_option maxHeartbeats 1000000 in
theorem vcubes_any (cs : List Value) (n : NetD) (A : Value) (l : List ByteArray) (w : World) (hn : netE w cs n) (ha : Sl 1 strE w A l) :
    Calls Tryz.prog 29 #[.agg cs.toArray, A] w fun e w' => Tells (cubesOk n.bits l 64) e ∧ Below w.heap.size w w' := by
  have HN := Lib.hid hn
  obtain ⟨vp, vt, vg, rfl, -, -, -, -⟩ := hn
  obtain ⟨a, ca, rfl, -, ha⟩ := ha
  have hla := ha.1
  have Ha := Lib.hid ha
  clear ha
  have hz := Lib.hid (Boxes.one w [.int .i64 n.bits, vp, vt, vg] 26)
  by_cases h : 64 < l.length
  · have HF : Hid (¬ cubesOk n.bits l 64) := fun e => by have := e.1; omega
    go_enter Tryz.func29, Tryz.ntmps29
    go_wp2
    go_ret
    exact ⟨.no HF.out, hz.out.2.1⟩
  go_enter Tryz.func29, Tryz.ntmps29
  go_wp2
  go_loopw [6, 12] (fun _ i wr => ∃ k : Nat, k ≤ l.length ∧ i = .int .i64 k ∧ Hid (∀ j (h : j < l.length), j < k → cubeOk l[j] ∧ (l[j].size : Int) = n.bits) ∧ Hid (Boxes w wr [[.int .i64 n.bits, vp, vt, vg]])) (fun _ i _ => l.length - (intOf i).toNat)
  case atStart => exact ⟨0, Nat.zero_le _, rfl, fun j _ h => absurd h (by omega), hz⟩
  case round =>
    clear hz
    obtain ⟨k, hk, rfl, hq, hz⟩ := hrel
    by_cases hlt : k < l.length
    · obtain ⟨b, o, rfl, h1, hsz⟩ := strs_at Ha.out hlt
      have h1' := hz.out.keeps _ _ h1
      have n0 := hz.out.cell 0 0 _ _ rfl rfl
      have n1 := hz.out.cell 0 1 _ _ rfl rfl
      have n2 := hz.out.cell 0 2 _ _ rfl rfl
      have n3 := hz.out.cell 0 3 _ _ rfl rfl
      simp only [Nat.add_zero] at n0 n1 n2 n3
      have HC := Lib.hid (vcube_any _ n l[k] wr (netE_keep hz.out.keeps _ _ HN.out) hsz)
      go_wp2_with fail
      refine HC.out.mono ?_
      rintro e w' ⟨ht, hb⟩
      have hz2 := Lib.hid (hz.out.next hb)
      clear hb HC
      rcases ht.cases with ⟨rfl, hc⟩ | ⟨rfl, hc⟩
      · have HQ : Hid (∀ j (h : j < l.length), j < k + 1 → cubeOk l[j] ∧ (l[j].size : Int) = n.bits) := by
          intro j h hj
          by_cases e : j = k
          · subst e; exact hc
          · exact hq.out j h (by omega)
        clear hc
        go_wp2
        go_roundw
        case rel => exact ⟨k + 1, by omega, by go_num, HQ, hz2⟩
        case measure => simp [intOf]; omega
      · have HF : Hid (¬ cubesOk n.bits l 64) := fun h => hc (h.2 k hlt)
        clear hc
        go_wp2
        go_ret
        exact ⟨.no HF.out, hz2.out.2.1⟩
    · have HY : Hid (cubesOk n.bits l 64) := ⟨by omega, fun j h => hq.out j h (by omega)⟩
      go_wp2
      go_ret
      exact ⟨.yes HY.out, hz.out.2.1⟩
end Go.Proofs.YtbklijcdmiffaaaGreatDoor
