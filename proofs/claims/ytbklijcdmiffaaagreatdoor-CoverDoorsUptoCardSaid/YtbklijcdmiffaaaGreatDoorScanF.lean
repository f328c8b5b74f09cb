/-
  scan: quad, number.
-/
import Derived.Test.YtbklijcdmiffaaaGreatDoorProg
import Derived.Test.YtbklijcdmiffaaaGreatDoorBase
import Derived.Test.YtbklijcdmiffaaaGreatDoorScanE
import Derived.Lib.Split
import Derived.Lib.CountLaws
import Derived.WalkKit
import Derived.WalkSpells
import Derived.WalkLawsBesides
import Derived.Deep.QuietTactic
import Derived.BigQuiet
import Derived.Lib.Hide
import Derived.Deep.LoopGhost
namespace Go.Proofs.YtbklijcdmiffaaaGreatDoor
open Go.RowKit

theorem split_len (sep : ByteArray) (h1 : 1 ≤ sep.size) : ∀ (c : Nat) (s : ByteArray), Lib.countB s sep = c → (Lib.splitB sep 0 c s).length = c + 1 ∧ ∀ x ∈ Lib.splitB sep 0 c s, x.size ≤ s.size := by
  intro c
  induction c with
  | zero =>
    intro s _
    rw [Lib.splitB_zero]
    exact ⟨rfl, fun x hx => by simp at hx; subst hx; exact Nat.le_refl _⟩
  | succ c ih =>
    intro s hs
    have hne : Lib.indexB s sep ≠ -1 := fun h => by rw [Lib.countB_miss s sep h] at hs; omega
    have hge : 0 ≤ Lib.indexB s sep := by
      have : -1 ≤ Lib.indexB s sep := Lib.index_ge _ _
      omega
    obtain ⟨i, hi⟩ := Int.eq_ofNat_of_zero_le hge
    have hc := Lib.countB_hit s sep i h1 hi
    rw [Lib.splitB_hit sep 0 c s i hi]
    obtain ⟨h2, h3⟩ := ih (s.extract (i + sep.size) s.size) (by omega)
    refine ⟨by simp [h2], fun x hx => ?_⟩
    rcases List.mem_cons.1 hx with rfl | hx
    · simp; omega
    · have := h3 x hx
      simp at this
      omega
set_option maxHeartbeats 2000000 in
theorem quad_any (s : ByteArray) (w : World) (hv : Vars w) (hs : s.size ≤ 1048576) :
    Calls Tryz.prog 77 #[.string s] w fun e w' => NumBool e ∧ Below w.heap.size w w' := by
  obtain ⟨m, hm⟩ := hv.maxlen
  have HS := Lib.hid (Tryz.strings_Split s ⟨#[46]⟩ m w (by omega) hm (by decide))
  have HV := Lib.hid hv
  clear hv hm
  obtain ⟨hl, hp⟩ := split_len ⟨#[46]⟩ (by decide) (Lib.countB s ⟨#[46]⟩) s rfl
  generalize hc : Lib.countB s ⟨#[46]⟩ = c at *
  clear hc
  generalize Lib.splitB ⟨#[46]⟩ 0 c s = L at *
  have hp' : ∀ k (h : k < L.length), L[k].size ≤ 1048576 := fun k h => by have := hp _ (List.getElem_mem h); omega
  have HP := Lib.hid hp'
  clear hp hp'
  have HZ := Lib.hid (At.new w (L.map Value.string) 9)
  have HB := Lib.hid ((Below.refl w.heap.size w).alloc (Nat.le_refl _) (.cells (L.map Value.string).toArray 9))
  have HV1 := Lib.hid (HV.out.keep HB.out)
  obtain ⟨W1, hW1⟩ : ∃ W1, W1 = w.alloc (.cells (L.map Value.string).toArray 9) := ⟨_, rfl⟩
  rw [← hW1] at HS HZ HB HV1
  clear hW1
  by_cases h4 : c = 3
  · subst h4
    have hl4 : L.length = 4 := hl
    have HL := Lib.hid hl4
    clear hl hl4
    go_enter Tryz.func77, Tryz.ntmps77
    go_wp2_with fail
    refine HS.out.mono ?_
    rintro e w1 ⟨rfl, rfl⟩
    go_wp2
    go_loopw [5, 7, 8, 9, 17] (fun v _ _ _ i wr => ∃ (k : Nat) (x : Int), k ≤ 4 ∧ i = .int .i64 k ∧ v = .int .i64 x ∧ Hid (Below w1.heap.size w1 wr)) (fun _ _ _ _ i _ => 4 - (intOf i).toNat)
    case atStart => exact ⟨0, 0, by omega, rfl, rfl, Below.refl _ _⟩
    case round =>
      obtain ⟨k, x, hk, rfl, rfl, hb⟩ := hrel
      by_cases hlt : k < 4
      · have hkl : k < L.length := by have := HL.out; omega
        have hcell : wr.cell? ⟨w.heap.size, k, none⟩ = some (.string L[k]) := Keeps.of_below hb.out _ _ (HZ.out k _ (by simp [hkl]))
        have HD := Lib.hid (decimal_any L[k] 255 wr (HV1.out.keep hb.out) (HP.out k hkl) (by unfold I64; omega))
        go_wp2_with fail
        refine HD.out.mono ?_
        rintro e w2 ⟨⟨y, b, rfl⟩, hb2⟩
        have hb3 := Lib.hid (below_after hb.out hb.out.size hb2)
        clear hb2 HD
        cases b with
        | true =>
          go_wp2
          go_roundw
          case rel => exact ⟨k + 1, _, by omega, by go_num, rfl, hb3⟩
          case measure => simp [intOf]; omega
        | false =>
          go_wp2
          go_ret2
          exact ⟨⟨_, _, rfl⟩, HB.out.trans (hb3.out.mono HB.out.size)⟩
      · go_wp2
        go_ret2
        exact ⟨⟨_, _, rfl⟩, HB.out.trans (hb.out.mono HB.out.size)⟩
  · have h4' : (((c : Int) + 1) != 4) = true := by rw [bne_iff_ne]; omega
    clear h4 hl
    go_enter Tryz.func77, Tryz.ntmps77
    go_wp2_with fail
    refine HS.out.mono ?_
    rintro e w1 ⟨rfl, rfl⟩
    go_wp2
    go_ret2
    exact ⟨⟨_, _, rfl⟩, HB.out⟩

theorem size_toArray (l : List UInt8) : (⟨l.toArray⟩ : ByteArray).size = l.length := rfl
theorem trimPrefix_le (l p : List UInt8) : (Lib.trimPrefix l p).length ≤ l.length := by
  unfold Lib.trimPrefix
  split <;> simp
set_option maxHeartbeats 2000000 in
theorem number_any (s : ByteArray) (w : World) (hv : Vars w) (hs : s.size ≤ 1048576) :
    Calls Tryz.prog 69 #[.string s] w fun e w' => NumBool e ∧ Below w.heap.size w w' := by
  have HV := Lib.hid hv
  clear hv
  have H1 := Lib.hid (Tryz.strings_Contains_one s 46 w)
  have hp1 := trimPrefix_le s.data.toList (⟨#[48, 120]⟩ : ByteArray).data.toList
  have hp2 := trimPrefix_le s.data.toList (⟨#[48, 98]⟩ : ByteArray).data.toList
  have hsz : s.data.toList.length = s.size := rfl
  rw [hsz] at hp1 hp2
  have H2 := Lib.hid (Tryz.strings_CutPrefix s ⟨#[48, 120]⟩ w)
  have H3 := Lib.hid (Tryz.strings_CutPrefix s ⟨#[48, 98]⟩ w)
  generalize Lib.trimPrefix s.data.toList (⟨#[48, 120]⟩ : ByteArray).data.toList = P1 at *
  generalize Lib.trimPrefix s.data.toList (⟨#[48, 98]⟩ : ByteArray).data.toList = P2 at *
  generalize Lib.hasPrefix s.data.toList (⟨#[48, 120]⟩ : ByteArray).data.toList = b1 at *
  generalize Lib.hasPrefix s.data.toList (⟨#[48, 98]⟩ : ByteArray).data.toList = b2 at *
  generalize decide (0 ≤ Lib.indexByte s.data.toList 46) = b0 at *
  clear hsz
  have HQ := Lib.hid (quad_any s w HV.out hs)
  have HX := Lib.hid (based16_8 ⟨P1.toArray⟩ w HV.out (by rw [size_toArray]; omega))
  have HY := Lib.hid (based2_32 ⟨P2.toArray⟩ w HV.out (by rw [size_toArray]; omega))
  have HD := Lib.hid (decimal_any s 4294967295 w HV.out hs (by unfold I64; omega))
  cases b0 with
  | true =>
    go_enter Tryz.func69, Tryz.ntmps69
    go_wp2_with fail
    refine H1.out.mono ?_
    rintro e w1 ⟨rfl, rfl⟩
    go_wp2_with fail
    refine HQ.out.mono ?_
    rintro e w2 ⟨⟨y, b, rfl⟩, hb2⟩
    have HB := Lib.hid hb2
    clear hb2
    go_wp2
    go_ret2
    exact ⟨⟨_, _, rfl⟩, HB.out⟩
  | false =>
    cases b1 with
    | true =>
      go_enter Tryz.func69, Tryz.ntmps69
      go_wp2_with fail
      refine H1.out.mono ?_
      rintro e w1 ⟨rfl, rfl⟩
      go_wp2_with fail
      refine H2.out.mono ?_
      rintro e w1 ⟨rfl, rfl⟩
      go_wp2_with fail
      refine HX.out.mono ?_
      rintro e w2 ⟨⟨y, b, rfl⟩, hb2⟩
      have HB := Lib.hid hb2
      clear hb2
      go_wp2
      go_ret2
      exact ⟨⟨_, _, rfl⟩, HB.out⟩
    | false =>
      cases b2 with
      | true =>
        go_enter Tryz.func69, Tryz.ntmps69
        go_wp2_with fail
        refine H1.out.mono ?_
        rintro e w1 ⟨rfl, rfl⟩
        go_wp2_with fail
        refine H2.out.mono ?_
        rintro e w1 ⟨rfl, rfl⟩
        go_wp2_with fail
        refine H3.out.mono ?_
        rintro e w1 ⟨rfl, rfl⟩
        go_wp2_with fail
        refine HY.out.mono ?_
        rintro e w2 ⟨⟨y, b, rfl⟩, hb2⟩
        have HB := Lib.hid hb2
        clear hb2
        go_wp2
        go_ret2
        exact ⟨⟨_, _, rfl⟩, HB.out⟩
      | false =>
        go_enter Tryz.func69, Tryz.ntmps69
        go_wp2_with fail
        refine H1.out.mono ?_
        rintro e w1 ⟨rfl, rfl⟩
        go_wp2_with fail
        refine H2.out.mono ?_
        rintro e w1 ⟨rfl, rfl⟩
        go_wp2_with fail
        refine H3.out.mono ?_
        rintro e w1 ⟨rfl, rfl⟩
        go_wp2_with fail
        refine HD.out.mono ?_
        rintro e w2 ⟨⟨y, b, rfl⟩, hb2⟩
        have HB := Lib.hid hb2
        clear hb2
        go_wp2
        go_ret2
        exact ⟨⟨_, _, rfl⟩, HB.out⟩
end Go.Proofs.YtbklijcdmiffaaaGreatDoor
