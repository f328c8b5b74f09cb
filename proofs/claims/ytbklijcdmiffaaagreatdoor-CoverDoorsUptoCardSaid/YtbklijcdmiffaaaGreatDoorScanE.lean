/-
  scan: based, decimal, quad, number.
-/
import Derived.Test.YtbklijcdmiffaaaGreatDoorProg
import Derived.Test.YtbklijcdmiffaaaGreatDoorBase
import Derived.Test.YtbklijcdmiffaaaGreatDoorScanD
import Derived.WalkKit
import Derived.WalkSpells
import Derived.WalkLawsBesides
import Derived.Deep.QuietTactic
import Derived.BigQuiet
import Derived.Lib.Hide
import Derived.Deep.LoopGhost
namespace Go.Proofs.YtbklijcdmiffaaaGreatDoor
open Go.RowKit

theorem hex_of (b : UInt8) (h : (#[48, 49, 50, 51, 52, 53, 54, 55, 56, 57, 97, 98, 99, 100, 101, 102, 65, 66, 67, 68, 69, 70] : Array UInt8).toList.contains b = true) : hexN b.toNat := by
  simp only [List.contains_iff_mem, List.mem_cons, List.not_mem_nil, or_false] at h
  unfold hexN
  rcases h with rfl | rfl | rfl | rfl | rfl | rfl | rfl | rfl | rfl | rfl | rfl | rfl | rfl | rfl | rfl | rfl | rfl | rfl | rfl | rfl | rfl | rfl <;> decide
theorem madeOf_hex {s : ByteArray} (h : madeOf s (#[48, 49, 50, 51, 52, 53, 54, 55, 56, 57, 97, 98, 99, 100, 101, 102, 65, 66, 67, 68, 69, 70] : Array UInt8).toList) : hexOk s := fun k hk => hex_of _ (h _ (by
  show s.data[k] ∈ s.data.toList
  exact Array.mem_toList_iff.2 (Array.getElem_mem hk)))
/-- a number and a bool -/
def NumBool (e : Ending) : Prop := ∃ (v : Int) (b : Bool), e = .returned (.tuple #[.int .i64 v, .bool b])
theorem ascii_hex : ∀ (j : Nat) (b : UInt8), (#[48, 49, 50, 51, 52, 53, 54, 55, 56, 57, 97, 98, 99, 100, 101, 102, 65, 66, 67, 68, 69, 70] : Array UInt8).toList[j]? = some b → b.toNat < 128 := fun j b hb => by
  have := List.mem_of_getElem? hb
  simp only [List.mem_cons, List.not_mem_nil, or_false] at this
  rcases this with rfl | rfl | rfl | rfl | rfl | rfl | rfl | rfl | rfl | rfl | rfl | rfl | rfl | rfl | rfl | rfl | rfl | rfl | rfl | rfl | rfl | rfl <;> decide
theorem ascii_dec : ∀ (j : Nat) (b : UInt8), (#[48, 49, 50, 51, 52, 53, 54, 55, 56, 57] : Array UInt8).toList[j]? = some b → b.toNat < 128 := fun j b hb => by
  have := List.mem_of_getElem? hb
  simp only [List.mem_cons, List.not_mem_nil, or_false] at this
  rcases this with rfl | rfl | rfl | rfl | rfl | rfl | rfl | rfl | rfl | rfl <;> decide
theorem empty_of {s : ByteArray} (h : s.size = 0) : s.toList.isEmpty = true := by
  rw [ByteArray.toList_eq]
  cases hh : s.data.toList with
  | nil => rfl
  | cons x l => exact absurd (show s.data.toList.length = 0 from h) (by rw [hh]; simp)
theorem full_of {s : ByteArray} (h : s.size ≠ 0) : s.toList.isEmpty = false := by
  rw [ByteArray.toList_eq]
  cases hh : s.data.toList with
  | nil => exact absurd (show s.data.toList.length = 0 by rw [hh]; rfl) h
  | cons => rfl

set_option maxHeartbeats 1000000 in
theorem based16_8 (s : ByteArray) (w : World) (hv : Vars w) (hs : s.size ≤ 1048576) :
    Calls Tryz.prog 79 #[.string s, .int .i64 16, .int .i64 8] w fun e w' => NumBool e ∧ Below w.heap.size w w' := by
  have HV := Lib.hid hv
  clear hv
  by_cases h0 : s.size = 0
  · have h0' := empty_of h0
    clear h0
    go_enter Tryz.func79, Tryz.ntmps79
    go_wp2
    go_ret2
    exact ⟨⟨_, _, rfl⟩, Below.refl _ _⟩
  have h0' := full_of h0
  have H0 := Lib.hid h0
  clear h0
  by_cases h1 : 8 < s.size
  · go_enter Tryz.func79, Tryz.ntmps79
    go_wp2
    go_ret2
    exact ⟨⟨_, _, rfl⟩, Below.refl _ _⟩
  have HP := Lib.hid (plain_any s ⟨#[48, 49, 50, 51, 52, 53, 54, 55, 56, 57, 97, 98, 99, 100, 101, 102, 65, 66, 67, 68, 69, 70]⟩ w hs (by decide) ascii_hex)
  go_enter Tryz.func79, Tryz.ntmps79
  go_wp2_with fail
  refine HP.out.mono ?_
  rintro e w1 ⟨⟨b, rfl, hb1⟩, hb⟩
  have HB := Lib.hid hb
  have HV1 := Lib.hid (HV.out.keep hb)
  have HM := Lib.hid hb1
  clear hb hb1 HP
  cases b with
  | false =>
    go_wp2
    go_ret2
    exact ⟨⟨_, _, rfl⟩, HB.out⟩
  | true =>
    have HX := Lib.hid (madeOf_hex (HM.out (by trivial)))
    have HPU := Lib.hid (puint_of s 16 w1 HV1.out (by omega) (uint16_any s (by have := H0.out; omega) (by omega) HX.out w1))
    go_wp2_with fail
    refine HPU.out.mono ?_
    rintro e w2 ⟨⟨v, ev, rfl, hev⟩, hb2⟩
    have HB2 := Lib.hid (below_after HB.out HB.out.size hb2)
    clear hb2 HPU
    rcases hev with rfl | ⟨tt, p, rfl⟩
    all_goals
      go_wp2
      go_quiet (fail)
      go_wp2
      go_ret2
      exact ⟨⟨_, _, rfl⟩, below_drewN HB2.out _⟩

set_option maxHeartbeats 1000000 in
theorem based2_32 (s : ByteArray) (w : World) (hv : Vars w) (hs : s.size ≤ 1048576) :
    Calls Tryz.prog 79 #[.string s, .int .i64 2, .int .i64 32] w fun e w' => NumBool e ∧ Below w.heap.size w w' := by
  have HV := Lib.hid hv
  clear hv
  by_cases h0 : s.size = 0
  · have h0' := empty_of h0
    clear h0
    go_enter Tryz.func79, Tryz.ntmps79
    go_wp2
    go_ret2
    exact ⟨⟨_, _, rfl⟩, Below.refl _ _⟩
  have h0' := full_of h0
  have H0 := Lib.hid h0
  clear h0
  by_cases h1 : 32 < s.size
  · go_enter Tryz.func79, Tryz.ntmps79
    go_wp2
    go_ret2
    exact ⟨⟨_, _, rfl⟩, Below.refl _ _⟩
  have HP := Lib.hid (plain_any s ⟨#[48, 49, 50, 51, 52, 53, 54, 55, 56, 57, 97, 98, 99, 100, 101, 102, 65, 66, 67, 68, 69, 70]⟩ w hs (by decide) ascii_hex)
  go_enter Tryz.func79, Tryz.ntmps79
  go_wp2_with fail
  refine HP.out.mono ?_
  rintro e w1 ⟨⟨b, rfl, hb1⟩, hb⟩
  have HB := Lib.hid hb
  have HV1 := Lib.hid (HV.out.keep hb)
  have HM := Lib.hid hb1
  clear hb hb1 HP
  cases b with
  | false =>
    go_wp2
    go_ret2
    exact ⟨⟨_, _, rfl⟩, HB.out⟩
  | true =>
    have HX := Lib.hid (madeOf_hex (HM.out (by trivial)))
    have HPU := Lib.hid (puint_of s 2 w1 HV1.out (by omega) (uint2_any s (by have := H0.out; omega) (by omega) HX.out w1))
    go_wp2_with fail
    refine HPU.out.mono ?_
    rintro e w2 ⟨⟨v, ev, rfl, hev⟩, hb2⟩
    have HB2 := Lib.hid (below_after HB.out HB.out.size hb2)
    clear hb2 HPU
    rcases hev with rfl | ⟨tt, p, rfl⟩
    all_goals
      go_wp2
      go_quiet (fail)
      go_wp2
      go_ret2
      exact ⟨⟨_, _, rfl⟩, below_drewN HB2.out _⟩

set_option maxHeartbeats 1000000 in
theorem based16_2 (s : ByteArray) (w : World) (hv : Vars w) (hs : s.size ≤ 1048576) :
    Calls Tryz.prog 79 #[.string s, .int .i64 16, .int .i64 2] w fun e w' => NumBool e ∧ Below w.heap.size w w' := by
  have HV := Lib.hid hv
  clear hv
  by_cases h0 : s.size = 0
  · have h0' := empty_of h0
    clear h0
    go_enter Tryz.func79, Tryz.ntmps79
    go_wp2
    go_ret2
    exact ⟨⟨_, _, rfl⟩, Below.refl _ _⟩
  have h0' := full_of h0
  have H0 := Lib.hid h0
  clear h0
  by_cases h1 : 2 < s.size
  · go_enter Tryz.func79, Tryz.ntmps79
    go_wp2
    go_ret2
    exact ⟨⟨_, _, rfl⟩, Below.refl _ _⟩
  have HP := Lib.hid (plain_any s ⟨#[48, 49, 50, 51, 52, 53, 54, 55, 56, 57, 97, 98, 99, 100, 101, 102, 65, 66, 67, 68, 69, 70]⟩ w hs (by decide) ascii_hex)
  go_enter Tryz.func79, Tryz.ntmps79
  go_wp2_with fail
  refine HP.out.mono ?_
  rintro e w1 ⟨⟨b, rfl, hb1⟩, hb⟩
  have HB := Lib.hid hb
  have HV1 := Lib.hid (HV.out.keep hb)
  have HM := Lib.hid hb1
  clear hb hb1 HP
  cases b with
  | false =>
    go_wp2
    go_ret2
    exact ⟨⟨_, _, rfl⟩, HB.out⟩
  | true =>
    have HX := Lib.hid (madeOf_hex (HM.out (by trivial)))
    have HPU := Lib.hid (puint_of s 16 w1 HV1.out (by omega) (uint16_any s (by have := H0.out; omega) (by omega) HX.out w1))
    go_wp2_with fail
    refine HPU.out.mono ?_
    rintro e w2 ⟨⟨v, ev, rfl, hev⟩, hb2⟩
    have HB2 := Lib.hid (below_after HB.out HB.out.size hb2)
    clear hb2 HPU
    rcases hev with rfl | ⟨tt, p, rfl⟩
    all_goals
      go_wp2
      go_quiet (fail)
      go_wp2
      go_ret2
      exact ⟨⟨_, _, rfl⟩, below_drewN HB2.out _⟩

set_option maxHeartbeats 1000000 in
theorem based16_6 (s : ByteArray) (w : World) (hv : Vars w) (hs : s.size ≤ 1048576) :
    Calls Tryz.prog 79 #[.string s, .int .i64 16, .int .i64 6] w fun e w' => NumBool e ∧ Below w.heap.size w w' := by
  have HV := Lib.hid hv
  clear hv
  by_cases h0 : s.size = 0
  · have h0' := empty_of h0
    clear h0
    go_enter Tryz.func79, Tryz.ntmps79
    go_wp2
    go_ret2
    exact ⟨⟨_, _, rfl⟩, Below.refl _ _⟩
  have h0' := full_of h0
  have H0 := Lib.hid h0
  clear h0
  by_cases h1 : 6 < s.size
  · go_enter Tryz.func79, Tryz.ntmps79
    go_wp2
    go_ret2
    exact ⟨⟨_, _, rfl⟩, Below.refl _ _⟩
  have HP := Lib.hid (plain_any s ⟨#[48, 49, 50, 51, 52, 53, 54, 55, 56, 57, 97, 98, 99, 100, 101, 102, 65, 66, 67, 68, 69, 70]⟩ w hs (by decide) ascii_hex)
  go_enter Tryz.func79, Tryz.ntmps79
  go_wp2_with fail
  refine HP.out.mono ?_
  rintro e w1 ⟨⟨b, rfl, hb1⟩, hb⟩
  have HB := Lib.hid hb
  have HV1 := Lib.hid (HV.out.keep hb)
  have HM := Lib.hid hb1
  clear hb hb1 HP
  cases b with
  | false =>
    go_wp2
    go_ret2
    exact ⟨⟨_, _, rfl⟩, HB.out⟩
  | true =>
    have HX := Lib.hid (madeOf_hex (HM.out (by trivial)))
    have HPU := Lib.hid (puint_of s 16 w1 HV1.out (by omega) (uint16_any s (by have := H0.out; omega) (by omega) HX.out w1))
    go_wp2_with fail
    refine HPU.out.mono ?_
    rintro e w2 ⟨⟨v, ev, rfl, hev⟩, hb2⟩
    have HB2 := Lib.hid (below_after HB.out HB.out.size hb2)
    clear hb2 HPU
    rcases hev with rfl | ⟨tt, p, rfl⟩
    all_goals
      go_wp2
      go_quiet (fail)
      go_wp2
      go_ret2
      exact ⟨⟨_, _, rfl⟩, below_drewN HB2.out _⟩

set_option maxHeartbeats 2000000 in
theorem decimal_any (s : ByteArray) (top : Int) (w : World) (hv : Vars w) (hs : s.size ≤ 1048576) (ht : I64 top) :
    Calls Tryz.prog 80 #[.string s, .int .i64 top] w fun e w' => NumBool e ∧ Below w.heap.size w w' := by
  have HV := Lib.hid hv
  have HTOP := Lib.hid ht
  clear hv ht
  by_cases h0 : s.size = 0
  · have h0' := empty_of h0
    clear h0
    go_enter Tryz.func80, Tryz.ntmps80
    go_wp2
    go_ret2
    exact ⟨⟨_, _, rfl⟩, Below.refl _ _⟩
  have h0' := full_of h0
  have hpos : 0 < s.size := by omega
  clear h0
  by_cases h1 : 10 < s.size
  · go_enter Tryz.func80, Tryz.ntmps80
    go_wp2
    go_ret2
    exact ⟨⟨_, _, rfl⟩, Below.refl _ _⟩
  have HP := Lib.hid (plain_any s ⟨#[48, 49, 50, 51, 52, 53, 54, 55, 56, 57]⟩ w hs (by decide) ascii_dec)
  go_enter Tryz.func80, Tryz.ntmps80
  go_wp2_with fail
  refine HP.out.mono ?_
  rintro e w1 ⟨⟨b, rfl, -⟩, hb⟩
  have HB := Lib.hid hb
  have HV1 := Lib.hid (HV.out.keep hb)
  clear hb HP
  cases b with
  | false =>
    go_wp2
    go_ret2
    exact ⟨⟨_, _, rfl⟩, HB.out⟩
  | true =>
    have HA : Hid (Calls Tryz.prog 88 #[.string s] w1 fun e w' => PubRes .i64 e ∧ Below w1.heap.size w1 w') := by
      rcases hat : Lib.atoiAll s.data.toList with v | _ | _
      · refine (Tryz.strconv_Atoi_ok s (by omega) v hat w1).mono ?_
        rintro e w' ⟨rfl, h⟩
        refine ⟨⟨_, _, rfl, .inl rfl⟩, ?_⟩
        rcases h with rfl | ⟨t, rfl⟩
        · exact Below.refl _ _
        · exact Lib.bytesWorld_below _ _ _
      · obtain ⟨ev, he, hev⟩ := HV1.out.errS
        refine (Tryz.strconv_Atoi_syntax s (by omega) hat ev w1 he hev).mono ?_
        rintro e w' ⟨N, rfl, -, -, h⟩
        exact ⟨⟨_, _, rfl, .inr ⟨_, _, rfl⟩⟩, h⟩
      · obtain ⟨ev, he, hev⟩ := HV1.out.errR
        refine (Tryz.strconv_Atoi_range s (by omega) hat ev w1 he hev).mono ?_
        rintro e w' ⟨N, rfl, -, -, h⟩
        exact ⟨⟨_, _, rfl, .inr ⟨_, _, rfl⟩⟩, h⟩
    by_cases h48 : s[0].toNat = 48
    · have h48' : ((s[0].toNat : Int) == 48) = true := by rw [beq_iff_eq]; omega
      clear h48
      by_cases hz : s.toList = [48]
      · have hz' : (s.toList == [48]) = true := by rw [hz]; rfl
        clear hz
        go_wp2_with fail
        refine HA.out.mono ?_
        rintro e w2 ⟨⟨v, ev, rfl, hev⟩, hb2⟩
        have HB2 := Lib.hid (below_after HB.out HB.out.size hb2)
        clear hb2
        rcases hev with rfl | ⟨tt, p, rfl⟩
        · by_cases hv : top < v
          all_goals
            go_wp2
            go_ret2
            exact ⟨⟨_, _, rfl⟩, HB2.out⟩
        · go_wp2
          go_ret2
          exact ⟨⟨_, _, rfl⟩, HB2.out⟩
      · have hz' : (s.toList == [48]) = false := by rw [beq_eq_false_iff_ne]; exact hz
        clear hz
        go_wp2
        go_ret2
        exact ⟨⟨_, _, rfl⟩, HB.out⟩
    · have h48' : ((s[0].toNat : Int) == 48) = false := by rw [beq_eq_false_iff_ne]; omega
      clear h48
      go_wp2_with fail
      refine HA.out.mono ?_
      rintro e w2 ⟨⟨v, ev, rfl, hev⟩, hb2⟩
      have HB2 := Lib.hid (below_after HB.out HB.out.size hb2)
      clear hb2
      rcases hev with rfl | ⟨tt, p, rfl⟩
      · by_cases hv : top < v
        all_goals
          go_wp2
          go_ret2
          exact ⟨⟨_, _, rfl⟩, HB2.out⟩
      · go_wp2
        go_ret2
        exact ⟨⟨_, _, rfl⟩, HB2.out⟩
end Go.Proofs.YtbklijcdmiffaaaGreatDoor
