/-
  The small comparisons of the statement and of the reference: what each call answers, said of what its lists hold.
-/
import Derived.Test.YtbklijcdmiffaaaGreatDoorProg
import Derived.Test.YtbklijcdmiffaaaGreatDoorBase
import Derived.WalkKit
import Derived.WalkSpells
import Derived.WalkLawsBesides
import Derived.Deep.QuietTactic
import Derived.BigQuiet
import Derived.Lib.Hide
import Derived.Deep.LoopGhost
namespace Go.Proofs.YtbklijcdmiffaaaGreatDoor
open Go.RowKit

set_option maxHeartbeats 400000 in
theorem sameInts_any (A B : Value) (l m : List Int) (w : World) (ha : Sl 1 intE w A l) (hb : Sl 1 intE w B m) :
    Calls Tryz.prog 26 #[A, B] w fun e w' => Tells (l = m) e ∧ Quiet w w' := by
  obtain ⟨a, ca, rfl, -, ha⟩ := ha
  obtain ⟨b, cb, rfl, -, hb⟩ := hb
  have hla := ha.1
  have hlb := hb.1
  have Ha := Lib.hid ha
  have Hb := Lib.hid hb
  clear ha hb
  by_cases h : l.length = m.length
  · have hne : ((l.length : Int) != (m.length : Int)) = false := by simp [h]
    have H := Lib.hid h
    clear h
    go_enter Tryz.func26, Tryz.ntmps26
    go_wp2
    go_loopw [5] (fun i wr => ∃ k : Nat, k ≤ l.length ∧ i = .int .i64 k ∧ Hid (l.take k = m.take k) ∧ Quiet w wr) (fun i _ => l.length - (intOf i).toNat)
    case atStart => exact ⟨0, Nat.zero_le _, rfl, by simp [Hid], Quiet.refl _⟩
    case round =>
      obtain ⟨k, hk, rfl, hq, n, rfl⟩ := hrel
      by_cases hlt : k < l.length
      · have hkm : k < m.length := by have := H.out; omega
        obtain ⟨ba, oa, rfl, h1, -⟩ := ints_at Ha.out hlt
        obtain ⟨bb, ob, rfl, h2, -⟩ := ints_at Hb.out hkm
        by_cases he : l[k] = m[k]
        · have he' : (l[k] != m[k]) = false := by simp [he]
          have HE : Hid (l.take (k + 1) = m.take (k + 1)) := by rw [take_snoc l k hlt, take_snoc m k hkm, hq.out, he]; rfl
          clear he
          go_wp2
          go_quiet (fail)
          go_wp2
          go_roundw
          case rel => exact ⟨k + 1, by omega, by go_num, HE, Quiet.drewN _⟩
          case measure => simp [intOf]; omega
        · have he' : (l[k] != m[k]) = true := by simpa using he
          have HN : Hid (¬ l = m) := fun e => he (by subst e; rfl)
          clear he
          go_wp2
          go_quiet (fail)
          go_wp2
          go_ret
          exact ⟨.no HN.out, (by first | exact Quiet.refl _ | exact Quiet.drewN _ | exact (Quiet.drewN _).trans (Quiet.drewN _))⟩
      · have hkl : k = l.length := by omega
        have HN : Hid (l = m) := by
          have := hq.out
          rw [List.take_of_length_le (by omega), List.take_of_length_le (by have := H.out; omega)] at this
          exact this
        clear hkl
        go_wp2
        go_ret
        exact ⟨.yes HN.out, Quiet.drewN _⟩
  · have hne : ((l.length : Int) != (m.length : Int)) = true := by simpa using (by omega : (l.length : Int) ≠ m.length)
    have HN : Hid (¬ l = m) := fun e => h (by rw [e])
    clear h
    go_enter Tryz.func26, Tryz.ntmps26
    go_wp2
    go_ret
    exact ⟨.no HN.out, Quiet.refl _⟩

set_option maxHeartbeats 400000 in
theorem eqInts_any (A B : Value) (l m : List Int) (w : World) (ha : Sl 1 intE w A l) (hb : Sl 1 intE w B m) :
    Calls Tryz.prog 7 #[A, B] w fun e w' => Tells (l = m) e ∧ Quiet w w' := by
  obtain ⟨a, ca, rfl, -, ha⟩ := ha
  obtain ⟨b, cb, rfl, -, hb⟩ := hb
  have hla := ha.1
  have hlb := hb.1
  have Ha := Lib.hid ha
  have Hb := Lib.hid hb
  clear ha hb
  by_cases h : l.length = m.length
  · have hne : ((l.length : Int) != (m.length : Int)) = false := by simp [h]
    have H := Lib.hid h
    clear h
    go_enter Tryz.func7, Tryz.ntmps7
    go_wp2
    go_loopw [5] (fun i wr => ∃ k : Nat, k ≤ l.length ∧ i = .int .i64 k ∧ Hid (l.take k = m.take k) ∧ Quiet w wr) (fun i _ => l.length - (intOf i).toNat)
    case atStart => exact ⟨0, Nat.zero_le _, rfl, by simp [Hid], Quiet.refl _⟩
    case round =>
      obtain ⟨k, hk, rfl, hq, n, rfl⟩ := hrel
      by_cases hlt : k < l.length
      · have hkm : k < m.length := by have := H.out; omega
        obtain ⟨ba, oa, rfl, h1, -⟩ := ints_at Ha.out hlt
        obtain ⟨bb, ob, rfl, h2, -⟩ := ints_at Hb.out hkm
        by_cases he : l[k] = m[k]
        · have he' : (l[k] != m[k]) = false := by simp [he]
          have HE : Hid (l.take (k + 1) = m.take (k + 1)) := by rw [take_snoc l k hlt, take_snoc m k hkm, hq.out, he]; rfl
          clear he
          go_wp2
          go_quiet (fail)
          go_wp2
          go_roundw
          case rel => exact ⟨k + 1, by omega, by go_num, HE, Quiet.drewN _⟩
          case measure => simp [intOf]; omega
        · have he' : (l[k] != m[k]) = true := by simpa using he
          have HN : Hid (¬ l = m) := fun e => he (by subst e; rfl)
          clear he
          go_wp2
          go_quiet (fail)
          go_wp2
          go_ret
          exact ⟨.no HN.out, (by first | exact Quiet.refl _ | exact Quiet.drewN _ | exact (Quiet.drewN _).trans (Quiet.drewN _))⟩
      · have hkl : k = l.length := by omega
        have HN : Hid (l = m) := by
          have := hq.out
          rw [List.take_of_length_le (by omega), List.take_of_length_le (by have := H.out; omega)] at this
          exact this
        clear hkl
        go_wp2
        go_ret
        exact ⟨.yes HN.out, Quiet.drewN _⟩
  · have hne : ((l.length : Int) != (m.length : Int)) = true := by simpa using (by omega : (l.length : Int) ≠ m.length)
    have HN : Hid (¬ l = m) := fun e => h (by rw [e])
    clear h
    go_enter Tryz.func7, Tryz.ntmps7
    go_wp2
    go_ret
    exact ⟨.no HN.out, Quiet.refl _⟩

set_option maxHeartbeats 400000 in
theorem sameTexts_any (A B : Value) (l m : List ByteArray) (w : World) (ha : Sl 1 strE w A l) (hb : Sl 1 strE w B m) :
    Calls Tryz.prog 27 #[A, B] w fun e w' => Tells (l = m) e ∧ Quiet w w' := by
  obtain ⟨a, ca, rfl, -, ha⟩ := ha
  obtain ⟨b, cb, rfl, -, hb⟩ := hb
  have hla := ha.1
  have hlb := hb.1
  have Ha := Lib.hid ha
  have Hb := Lib.hid hb
  clear ha hb
  by_cases h : l.length = m.length
  · have hne : ((l.length : Int) != (m.length : Int)) = false := by simp [h]
    have H := Lib.hid h
    clear h
    go_enter Tryz.func27, Tryz.ntmps27
    go_wp2
    go_loopw [5] (fun i wr => ∃ k : Nat, k ≤ l.length ∧ i = .int .i64 k ∧ Hid (l.take k = m.take k) ∧ Quiet w wr) (fun i _ => l.length - (intOf i).toNat)
    case atStart => exact ⟨0, Nat.zero_le _, rfl, by simp [Hid], Quiet.refl _⟩
    case round =>
      obtain ⟨k, hk, rfl, hq, n, rfl⟩ := hrel
      by_cases hlt : k < l.length
      · have hkm : k < m.length := by have := H.out; omega
        obtain ⟨ba, oa, rfl, h1, -⟩ := strs_at Ha.out hlt
        obtain ⟨bb, ob, rfl, h2, -⟩ := strs_at Hb.out hkm
        by_cases he : l[k] = m[k]
        · have he' : (l[k].toList == m[k].toList) = true := str_same he
          have HE : Hid (l.take (k + 1) = m.take (k + 1)) := by rw [take_snoc l k hlt, take_snoc m k hkm, hq.out, he]; rfl
          clear he
          go_wp2
          go_quiet (fail)
          go_wp2
          go_roundw
          case rel => exact ⟨k + 1, by omega, by go_num, HE, Quiet.drewN _⟩
          case measure => simp [intOf]; omega
        · have he' : (l[k].toList == m[k].toList) = false := str_other he
          have HN : Hid (¬ l = m) := fun e => he (by subst e; rfl)
          clear he
          go_wp2
          go_quiet (fail)
          go_wp2
          go_ret
          exact ⟨.no HN.out, (by first | exact Quiet.refl _ | exact Quiet.drewN _ | exact (Quiet.drewN _).trans (Quiet.drewN _))⟩
      · have hkl : k = l.length := by omega
        have HN : Hid (l = m) := by
          have := hq.out
          rw [List.take_of_length_le (by omega), List.take_of_length_le (by have := H.out; omega)] at this
          exact this
        clear hkl
        go_wp2
        go_ret
        exact ⟨.yes HN.out, Quiet.drewN _⟩
  · have hne : ((l.length : Int) != (m.length : Int)) = true := by simpa using (by omega : (l.length : Int) ≠ m.length)
    have HN : Hid (¬ l = m) := fun e => h (by rw [e])
    clear h
    go_enter Tryz.func27, Tryz.ntmps27
    go_wp2
    go_ret
    exact ⟨.no HN.out, Quiet.refl _⟩
end Go.Proofs.YtbklijcdmiffaaaGreatDoor
