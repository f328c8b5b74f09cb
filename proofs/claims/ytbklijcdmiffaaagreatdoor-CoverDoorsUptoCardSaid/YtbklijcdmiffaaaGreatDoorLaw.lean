/-
  The law: it answers true.
-/
import Derived.Test.YtbklijcdmiffaaaGreatDoorProg
import Derived.Test.YtbklijcdmiffaaaGreatDoorBase
import Derived.Test.YtbklijcdmiffaaaGreatDoorRoomD
import Derived.Test.YtbklijcdmiffaaaGreatDoorRoomF
import Derived.Test.YtbklijcdmiffaaaGreatDoorLowF
import Derived.StillTailTactics
import Derived.WalkKit
import Derived.WalkSpells
import Derived.WalkLawsBesides
import Derived.Deep.QuietTactic
import Derived.BigQuiet
import Derived.Lib.Hide
import Derived.Deep.LoopGhost
namespace Go.Proofs.YtbklijcdmiffaaaGreatDoor
open Go.RowKit

/-- the little network -/
def net0 : NetD := ⟨1, [⟨⟨#[97, 46, 98]⟩, 0, true, -1⟩], [[]], [[]]⟩
theorem net0_name : fullOk ⟨#[97, 46, 98]⟩ := by
  refine ⟨1, by decide, by decide, ?_, ?_, ?_⟩
  · intro j hj
    obtain rfl : j = 0 := by omega
    show ((⟨#[97, 46, 98]⟩ : ByteArray)[0]'(by decide)).toNat ≠ 46
    decide
  · refine ⟨by decide, by decide, fun k hk => ?_⟩
    have hk' : k < 1 := hk
    obtain rfl : k = 0 := by omega
    left
    right
    left
    show 97 ≤ ((ByteArray.extract ⟨#[97, 46, 98]⟩ 0 1)[0]'(by decide)).toNat ∧ ((ByteArray.extract ⟨#[97, 46, 98]⟩ 0 1)[0]'(by decide)).toNat ≤ 122
    decide
  · refine ⟨by decide, by decide, fun k hk => ?_⟩
    have hk' : k < 1 := hk
    obtain rfl : k = 0 := by omega
    left
    right
    left
    show 97 ≤ ((ByteArray.extract ⟨#[97, 46, 98]⟩ 2 3)[0]'(by decide)).toNat ∧ ((ByteArray.extract ⟨#[97, 46, 98]⟩ 2 3)[0]'(by decide)).toNat ≤ 122
    decide
theorem net0_ok : netOk net0 := by
  refine ⟨by decide, by decide, by decide, by decide, by decide, fun i hi => ?_, ⟨fun b hb => ?_, by decide⟩, ⟨fun b hb => ?_, by decide⟩⟩
  · have hi' : i < 1 := hi
    obtain rfl : i = 0 := by omega
    exact ⟨net0_name, (show (0 : Int) ≤ 0 by decide), (show (0 : Int) < 1 by decide), (show (-1 : Int) ≤ -1 by decide), (show (-1 : Int) < 1 by decide), fun h => absurd (show (0 : Int) ≤ -1 from h) (by decide), fun k hk => absurd hk (by omega)⟩
  · have hb' : b < 1 := hb
    obtain rfl : b = 0 := by omega
    exact ⟨(show cubesOfG [] ≤ 512 by decide), fun i hi => absurd hi (by simp [net0])⟩
  · have hb' : b < 1 := hb
    obtain rfl : b = 0 := by omega
    exact ⟨(show cubesOf [] ≤ 512 by decide), fun i hi => absurd hi (by simp [net0])⟩
theorem net0_doors : doorsTo net0 net0.ports.length = [0] := by decide
theorem box_sl {α : Type} {sz : Nat} {E : World → List Value → α → Prop} (w : World) (t : TypeId) (cs : List Value) (x : α) (hcs : cs.length = sz) (hx : E (w.alloc (.cells cs.toArray t)) cs x) : Sl sz E (w.alloc (.cells cs.toArray t)) (.slice (some ⟨w.heap.size, 0, none⟩) 1 1) [x] := by
  refine ⟨_, _, rfl, Nat.le_refl _, by simp, fun i y hy => ?_⟩
  cases i with
  | succ i => simp at hy
  | zero =>
    simp at hy
    subst hy
    refine ⟨_, 0, cs, rfl, hcs, hx, fun j u hu => ?_⟩
    have := At.new w cs t j u hu
    simpa using this

theorem net0_at (w : World) : netE (((w.alloc (.cells #[.slice none 0 0] 42)).alloc (.cells #[.string ⟨#[97, 46, 98]⟩, .int .i64 0, .bool true, .int .i64 (-1)] 32)).alloc (.cells #[.slice none 0 0] 47)) [.int .i64 1, .slice (some ⟨w.heap.size + 1, 0, none⟩) 1 1, .slice (some ⟨w.heap.size, 0, none⟩) 1 1, .slice (some ⟨w.heap.size + 1 + 1, 0, none⟩) 1 1] net0 := by
  have h1 := box_sl (E := tableE) (sz := 1) w 42 [.slice none 0 0] [] rfl ⟨_, rfl, sl_nil _ _ _⟩
  have h2 := box_sl (E := portE) (sz := 4) (w.alloc (.cells #[.slice none 0 0] 42)) 32 [.string ⟨#[97, 46, 98]⟩, .int .i64 0, .bool true, .int .i64 (-1)] ⟨⟨#[97, 46, 98]⟩, 0, true, -1⟩ rfl ⟨rfl, by decide, by unfold I64; decide, by unfold I64; decide⟩
  have h3 := box_sl (E := guardsE) (sz := 1) ((w.alloc (.cells #[.slice none 0 0] 42)).alloc (.cells #[.string ⟨#[97, 46, 98]⟩, .int .i64 0, .bool true, .int .i64 (-1)] 32)) 47 [.slice none 0 0] [] rfl ⟨_, rfl, sl_nil _ _ _⟩
  refine ⟨_, _, _, rfl, by unfold I64 net0; decide, ?_, ?_, ?_⟩
  · have := ports_keep (Keeps.alloc _ (.cells #[.slice none 0 0] 47)) h2
    show Sl 4 portE _ _ [⟨⟨#[97, 46, 98]⟩, 0, true, -1⟩]
    simpa using this
  · exact tables_keep ((Keeps.alloc _ _).trans (Keeps.alloc _ _)) h1
  · show Sl 1 guardsE _ _ [[]]
    simpa using h3
set_option maxRecDepth 100000 in
set_option maxHeartbeats 8000000 in
theorem law_any (cs : List Value) (n : NetD) (w : World) (hv : Vars w) (hn : netE w cs n) :
    Calls Tryz.prog 3 #[.agg cs.toArray] w fun e w' => e = .returned (.bool true) ∧ Below w.heap.size w w' := by
  have HN := Lib.hid hn
  have HV := Lib.hid hv
  obtain ⟨vp, vt, vg, rfl, -, ⟨ap, cp, rfl, -⟩, ⟨at_, ct, rfl, -⟩, ⟨ag, cg, rfl, -⟩⟩ := hn
  clear hv
  have HB0 : Hid (Boxes w ((((w.alloc (.cells #[.int .i64 n.bits, .slice ap n.ports.length cp, .slice at_ n.tables.length ct, .slice ag n.guards.length cg] 26)).alloc (.cells #[.slice none 0 0] 42)).alloc (.cells #[.string ⟨#[97, 46, 98]⟩, .int .i64 0, .bool true, .int .i64 (-1)] 32)).alloc (.cells #[.slice none 0 0] 47)) [[.int .i64 n.bits, .slice ap n.ports.length cp, .slice at_ n.tables.length ct, .slice ag n.guards.length cg]]) := (Boxes.one w [.int .i64 n.bits, .slice ap n.ports.length cp, .slice at_ n.tables.length ct, .slice ag n.guards.length cg] 26).next (((((Below.refl _ _).alloc (Nat.le_refl _) _).alloc (by simp <;> omega) _).alloc (by simp <;> omega) _))
  have HN0 : Hid (netE ((((w.alloc (.cells #[.int .i64 n.bits, .slice ap n.ports.length cp, .slice at_ n.tables.length ct, .slice ag n.guards.length cg] 26)).alloc (.cells #[.slice none 0 0] 42)).alloc (.cells #[.string ⟨#[97, 46, 98]⟩, .int .i64 0, .bool true, .int .i64 (-1)] 32)).alloc (.cells #[.slice none 0 0] 47)) [.int .i64 1, .slice (some ⟨w.heap.size + 1 + 1, 0, none⟩) 1 1, .slice (some ⟨w.heap.size + 1, 0, none⟩) 1 1, .slice (some ⟨w.heap.size + 1 + 1 + 1, 0, none⟩) 1 1] net0) := by
    have := net0_at (w.alloc (.cells #[.int .i64 n.bits, .slice ap n.ports.length cp, .slice at_ n.tables.length ct, .slice ag n.guards.length cg] 26))
    simpa [Hid] using this
  go_enter Tryz.func3, Tryz.ntmps3
  go_wp2_with fail
  refine (doors_any _ net0 _ (HV.out.keep HB0.out.2.1) HN0.out).mono ?_
  rintro e w1 ⟨⟨v0, c0, rfl, hd⟩, hb1⟩
  have hd0 : c0 = 0 ∧ Sl 1 intE w1 v0 [0] := by
    rcases hd with ⟨h1, -, h3⟩ | ⟨-, h2, -⟩
    · rw [net0_doors] at h3
      exact ⟨h1, h3⟩
    · exact absurd net0_ok h2
  obtain ⟨rfl, hs0⟩ := hd0
  have HS0 := Lib.hid hs0
  have HB1 := Lib.hid (HB0.out.next hb1)
  clear hd hs0 hb1 HB0 HN0
  have x0 := HB1.out.cell 0 0 _ _ rfl rfl
  have x1 := HB1.out.cell 0 1 _ _ rfl rfl
  have x2 := HB1.out.cell 0 2 _ _ rfl rfl
  have x3 := HB1.out.cell 0 3 _ _ rfl rfl
  simp only [Nat.add_zero] at x0 x1 x2 x3
  go_wp2_with fail
  refine (roomy_any _ n w1 (netE_keep HB1.out.keeps _ _ HN.out)).mono ?_
  rintro e w2 ⟨⟨c1, c2, rfl, hr, hk⟩, hb2⟩
  have HR := Lib.hid hr
  have HK := Lib.hid hk
  obtain ⟨vp1, vt1, vg1, rfl, -, ⟨p1, pc1, rfl, -⟩, ⟨t1, tc1, rfl, -⟩, ⟨g1, gc1, rfl, -⟩⟩ := hr
  obtain ⟨vp2, vt2, vg2, rfl, -, ⟨p2, pc2, rfl, -⟩, ⟨t2, tc2, rfl, -⟩, ⟨g2, gc2, rfl, -⟩⟩ := hk
  have HB2 := Lib.hid (HB1.out.next hb2)
  have HS2 := Lib.hid (ints_keep (Keeps.of_below hb2) HS0.out)
  have HBX := Lib.hid (Boxes.two w2 [.int .i64 n.bits, .slice p1 n.ports.length pc1, .slice t1 n.tables.length tc1, .slice g1 n.guards.length gc1] [.int .i64 n.bits, .slice p2 n.ports.length pc2, .slice t2 n.tables.length tc2, .slice g2 n.guards.length gc2] 26 26)
  have HB3 := Lib.hid (HB2.out.next HBX.out.2.1)
  clear hb2 HS0 HB1 x0 x1 x2 x3
  go_wp2_with fail
  refine (doors_any _ n _ (HV.out.keep HB3.out.2.1) (netE_keep HBX.out.keeps _ _ (netR_plain HR.out))).mono ?_
  rintro e w3 ⟨⟨v3, c3, rfl, hd3⟩, hb3⟩
  have HBY := Lib.hid (HBX.out.next hb3)
  have HB4 := Lib.hid (HB3.out.next hb3)
  have HD3 := Lib.hid hd3
  clear hd3 hb3 HBX HB3
  have x0 := HB4.out.cell 0 0 _ _ rfl rfl
  have x1 := HB4.out.cell 0 1 _ _ rfl rfl
  have x2 := HB4.out.cell 0 2 _ _ rfl rfl
  have x3 := HB4.out.cell 0 3 _ _ rfl rfl
  simp only [Nat.add_zero] at x0 x1 x2 x3
  go_wp2_with fail
  refine (refDoors_any _ n w3 (netE_keep HB4.out.keeps _ _ HN.out)).mono ?_
  rintro e w4 ⟨⟨v4, c4, rfl, hd4⟩, hb4⟩
  have HBZ := Lib.hid (HBY.out.next hb4)
  have HB5 := Lib.hid (HB4.out.next hb4)
  have HSAME : Hid (c3 = c4 ∧ ∃ l, Sl 1 intE w4 v3 l ∧ Sl 1 intE w4 v4 l) := by
    rcases HD3.out with ⟨h1, h2, h3⟩ | ⟨h1, h2, h3⟩
    · rcases hd4 with ⟨q1, q2, q3⟩ | ⟨q1, q2, q3⟩
      · exact ⟨by rw [h1, q1], _, ints_keep (Keeps.of_below hb4) h3, q3⟩
      · exact absurd h2 q2
    · rcases hd4 with ⟨q1, q2, q3⟩ | ⟨q1, q2, q3⟩
      · exact absurd q2 h2
      · exact ⟨by rw [h1, q1], [], by rw [h3]; exact sl_nil _ _ _, by rw [q3]; exact sl_nil _ _ _⟩
  obtain ⟨rfl, l, hl3, hl4⟩ := HSAME.out
  have HL3 := Lib.hid hl3
  have HL4 := Lib.hid hl4
  have HS4 := Lib.hid (ints_keep HBZ.out.keeps HS2.out)
  clear HSAME hd4 hb4 hl3 hl4 HD3 HB4 HBY HS2 x0 x1 x2 x3
  have hcc : (c3 == c3) = true := by simp
  have HNEW : Hid (Sl 1 intE (w4.alloc (.cells #[.int .i64 0] 3)) (.slice (some ⟨w4.heap.size, 0, none⟩) 1 1) [0]) := box_sl (E := intE) (sz := 1) w4 3 [.int .i64 0] 0 rfl ⟨rfl, by unfold I64; decide⟩
  have HKA := Lib.hid (Keeps.alloc w4 (.cells #[.int .i64 0] 3))
  have HBA : Hid (Below w4.heap.size w4 (w4.alloc (.cells #[.int .i64 0] 3))) := (Below.refl _ _).alloc (Nat.le_refl _) _
  go_wp2_with fail
  refine (eqInts_any _ _ [0] [0] _ (ints_keep HKA.out HS4.out) HNEW.out).mono ?_
  rintro e w5 ⟨⟨b, rfl, hb⟩, hq⟩
  obtain rfl : b = true := hb.2 rfl
  have HBB := Lib.hid (below_quiet HBA.out hq)
  clear hb hq HNEW HKA HBA HS4
  go_wp2_with fail
  refine (eqInts_any _ _ l l _ (ints_keep (Keeps.of_below HBB.out) HL3.out) (ints_keep (Keeps.of_below HBB.out) HL4.out)).mono ?_
  rintro e w6 ⟨⟨b, rfl, hb⟩, hq⟩
  obtain rfl : b = true := hb.2 rfl
  have HBC := Lib.hid (below_quiet HBB.out hq)
  have HB6 := Lib.hid (HB5.out.next HBC.out)
  have HB7 := Lib.hid (HBZ.out.next HBC.out)
  clear hb hq HBB HL3 HL4
  have x0 := HB6.out.cell 0 0 _ _ rfl rfl
  have x1 := HB6.out.cell 0 1 _ _ rfl rfl
  have x2 := HB6.out.cell 0 2 _ _ rfl rfl
  have x3 := HB6.out.cell 0 3 _ _ rfl rfl
  simp only [Nat.add_zero] at x0 x1 x2 x3
  have y0 := HB7.out.cell 0 0 _ _ rfl rfl
  have y1 := HB7.out.cell 0 1 _ _ rfl rfl
  have y2 := HB7.out.cell 0 2 _ _ rfl rfl
  have y3 := HB7.out.cell 0 3 _ _ rfl rfl
  have z0 := HB7.out.cell 1 0 _ _ rfl rfl
  have z1 := HB7.out.cell 1 1 _ _ rfl rfl
  have z2 := HB7.out.cell 1 2 _ _ rfl rfl
  have z3 := HB7.out.cell 1 3 _ _ rfl rfl
  try simp only [Nat.add_zero] at y0 y1 y2 y3
  go_wp2_with fail
  refine (marked_any _ _ _ n w6 (netR_stays _ _ HB7.out.keeps _ _ HR.out) (netK_stays _ _ HB7.out.keeps _ _ HK.out) (netE_keep HB6.out.keeps _ _ HN.out)).mono ?_
  rintro e w7 ⟨rfl, hb7⟩
  have HB8 := Lib.hid (HB6.out.next hb7)
  clear hb7 x0 x1 x2 x3 y0 y1 y2 y3 z0 z1 z2 z3
  go_wp2
  go_ret
  exact ⟨rfl, HB8.out.2.1⟩

end Go.Proofs.YtbklijcdmiffaaaGreatDoor
