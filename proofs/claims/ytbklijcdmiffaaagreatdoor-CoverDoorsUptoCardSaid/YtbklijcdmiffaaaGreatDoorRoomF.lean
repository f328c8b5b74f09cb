/-
  Marked: do all marks stand, and is nothing written over?
-/
import Derived.Test.YtbklijcdmiffaaaGreatDoorProg
import Derived.Test.YtbklijcdmiffaaaGreatDoorBase
import Derived.Test.YtbklijcdmiffaaaGreatDoorRoomE
import Derived.StillTailTactics
import Derived.IntWalk
import Derived.WalkKit
import Derived.WalkSpells
import Derived.WalkLawsBesides
import Derived.Deep.QuietTactic
import Derived.BigQuiet
import Derived.Lib.Hide
import Derived.Deep.LoopGhost
namespace Go.Proofs.YtbklijcdmiffaaaGreatDoor
open Go.RowKit

theorem Boxes.three (w : World) (c d f : List Value) (t u v : TypeId) : Boxes w (((w.alloc (.cells c.toArray t)).alloc (.cells d.toArray u)).alloc (.cells f.toArray v)) [c, d, f] := (Boxes.two w c d t u).push (by simp) f v
set_option maxRecDepth 100000 in
set_option maxHeartbeats 8000000 in
theorem marked_any (A B C : List Value) (n : NetD) (w : World) (ha : netR w A n) (hb : netK w B n) (hc : netE w C n) :
    Calls Tryz.prog 8 #[.agg A.toArray, .agg B.toArray, .agg C.toArray] w fun e w' => e = .returned (.bool true) ∧ Below w.heap.size w w' := by
  have HA := Lib.hid ha
  have HB := Lib.hid hb
  have HC := Lib.hid hc
  have HEA := Lib.hid (netR_plain ha)
  have HEB := Lib.hid (netK_plain hb)
  obtain ⟨vp, vt, vg, rfl, -, ⟨ap, apc, rfl, hap, hlp_, hap2⟩, ⟨at_, atc, rfl, hat, hlt_, hat2⟩, ⟨ag, agc, rfl, hag, hlg_, hag2⟩⟩ := ha
  obtain ⟨vp, vt, vg, rfl, -, ⟨bp, bpc, rfl, -⟩, ⟨bt, btc, rfl, -, hbt⟩, ⟨bg, bgc, rfl, -, hbg⟩⟩ := hb
  obtain ⟨vp, vt, vg, rfl, -, ⟨cp, cpc, rfl, -⟩, ⟨ct, ctc, rfl, -⟩, ⟨cg, cgc, rfl, -⟩⟩ := hc
  have HRP : Hid (RoomS 4 portE portE w (.slice ap n.ports.length apc) n.ports [pm1]) := ⟨_, _, rfl, hap, hlp_, hap2⟩
  have HRT : Hid (RoomS 1 tableR tableE w (.slice at_ n.tables.length atc) n.tables [[em1]]) := ⟨_, _, rfl, hat, hlt_, hat2⟩
  have HRG : Hid (RoomS 1 guardsR guardsE w (.slice ag n.guards.length agc) n.guards [[gm1]]) := ⟨_, _, rfl, hag, hlg_, hag2⟩
  have HBT := Lib.hid hbt
  have HBG := Lib.hid hbg
  clear hap hap2 hat hat2 hag hag2 hbt hbg
  have hz := Lib.hid (Boxes.three w [.int .i64 n.bits, .slice ap n.ports.length apc, .slice at_ n.tables.length atc, .slice ag n.guards.length agc] [.int .i64 n.bits, .slice bp n.ports.length bpc, .slice bt n.tables.length btc, .slice bg n.guards.length bgc] [.int .i64 n.bits, .slice cp n.ports.length cpc, .slice ct n.tables.length ctc, .slice cg n.guards.length cgc] 26 26 26)
  go_enter Tryz.func8, Tryz.ntmps8
  go_wp2_with fail
  refine (equal_any _ _ n _ (netE_keep hz.out.keeps _ _ HEA.out) (netE_keep hz.out.keeps _ _ HC.out)).mono ?_
  rintro e w1 ⟨rfl, hb1⟩
  replace hz := Lib.hid (hz.out.next hb1)
  clear hb1
  have x0 := hz.out.cell 0 0 _ _ rfl rfl
  have x1 := hz.out.cell 0 1 _ _ rfl rfl
  have x2 := hz.out.cell 0 2 _ _ rfl rfl
  have x3 := hz.out.cell 0 3 _ _ rfl rfl
  have y0 := hz.out.cell 1 0 _ _ rfl rfl
  have y1 := hz.out.cell 1 1 _ _ rfl rfl
  have y2 := hz.out.cell 1 2 _ _ rfl rfl
  have y3 := hz.out.cell 1 3 _ _ rfl rfl
  have z0 := hz.out.cell 2 0 _ _ rfl rfl
  have z1 := hz.out.cell 2 1 _ _ rfl rfl
  have z2 := hz.out.cell 2 2 _ _ rfl rfl
  have z3 := hz.out.cell 2 3 _ _ rfl rfl
  simp only [Nat.add_zero] at x0 x1 x2 x3 y0 y1 y2 y3 z0 z1 z2 z3
  go_wp2_with fail
  refine (equal_any _ _ n _ (netE_keep hz.out.keeps _ _ HEB.out) (netE_keep hz.out.keeps _ _ HC.out)).mono ?_
  rintro e w2 ⟨rfl, hb1⟩
  replace hz := Lib.hid (hz.out.next hb1)
  clear hb1 x0 x1 x2 x3 y0 y1 y2 y3 z0 z1 z2 z3
  have x0 := hz.out.cell 0 0 _ _ rfl rfl
  have x1 := hz.out.cell 0 1 _ _ rfl rfl
  have x2 := hz.out.cell 0 2 _ _ rfl rfl
  have x3 := hz.out.cell 0 3 _ _ rfl rfl
  have y0 := hz.out.cell 1 0 _ _ rfl rfl
  have y1 := hz.out.cell 1 1 _ _ rfl rfl
  have y2 := hz.out.cell 1 2 _ _ rfl rfl
  have y3 := hz.out.cell 1 3 _ _ rfl rfl
  have z0 := hz.out.cell 2 0 _ _ rfl rfl
  have z1 := hz.out.cell 2 1 _ _ rfl rfl
  have z2 := hz.out.cell 2 2 _ _ rfl rfl
  have z3 := hz.out.cell 2 3 _ _ rfl rfl
  simp only [Nat.add_zero] at x0 x1 x2 x3 y0 y1 y2 y3 z0 z1 z2 z3
  go_wp2_with fail
  refine (markLists_any _ n _ (netR_stays _ _ hz.out.keeps _ _ HA.out)).mono ?_
  rintro e w3 ⟨rfl, hb1⟩
  replace hz := Lib.hid (hz.out.next hb1)
  clear hb1 x0 x1 x2 x3 y0 y1 y2 y3 z0 z1 z2 z3
  go_wp2
  go_loopw [7, 8, 9] (fun i _ _ wr => ∃ k : Nat, k ≤ n.tables.length ∧ i = .int .i64 k ∧ Hid (Boxes w wr [[.int .i64 n.bits, .slice ap n.ports.length apc, .slice at_ n.tables.length atc, .slice ag n.guards.length agc], [.int .i64 n.bits, .slice bp n.ports.length bpc, .slice bt n.tables.length btc, .slice bg n.guards.length bgc], [.int .i64 n.bits, .slice cp n.ports.length cpc, .slice ct n.tables.length ctc, .slice cg n.guards.length cgc]])) (fun i _ _ _ => n.tables.length - (intOf i).toNat)
  case atStart => exact ⟨0, Nat.zero_le _, rfl, hz⟩
  case round =>
    clear hz
    obtain ⟨k, hk, rfl, hz⟩ := hrel
    have y2 := hz.out.cell 1 2 _ _ rfl rfl
    try simp only [Nat.add_zero] at y2
    by_cases hlt : k < n.tables.length
    · obtain ⟨b1, o1, v, rfl, e1, a1, c1, rfl, -, s1⟩ := tablesK_at HBT.out hlt
      have E1 := Lib.hid e1
      have f1 := hz.out.keeps _ _ e1
      have S1 := Lib.hid s1
      have hl1 := s1.1
      clear e1 s1
      generalize n.tables[k] = T at *
      go_wp2
      go_loopw [8, 9] (fun i _ wr => ∃ m : Nat, m ≤ T.length ∧ i = .int .i64 m ∧ Hid (Boxes w wr [[.int .i64 n.bits, .slice ap n.ports.length apc, .slice at_ n.tables.length atc, .slice ag n.guards.length agc], [.int .i64 n.bits, .slice bp n.ports.length bpc, .slice (some ⟨b1, o1, none⟩) n.tables.length btc, .slice bg n.guards.length bgc], [.int .i64 n.bits, .slice cp n.ports.length cpc, .slice ct n.tables.length ctc, .slice cg n.guards.length cgc]])) (fun i _ _ => T.length - (intOf i).toNat)
      case atStart => exact ⟨0, Nat.zero_le _, rfl, hz⟩
      case round =>
        clear hz y2 f1
        obtain ⟨m, hm, rfl, hz⟩ := hrel
        have y2 := hz.out.cell 1 2 _ _ rfl rfl
        try simp only [Nat.add_zero] at y2
        have f1 := hz.out.keeps _ _ E1.out
        by_cases hml : m < T.length
        · obtain ⟨b2, o2, cs, rfl, -, ⟨vi, vc, vo, rfl, -, -, ri, rc, ro⟩, hcs⟩ := S1.out.get hml
          have g0 := hz.out.keeps _ _ (hcs 0 _ rfl)
          have g1 := hz.out.keeps _ _ (hcs 1 _ rfl)
          have g2 := hz.out.keeps _ _ (hcs 2 _ rfl)
          have g3 := hz.out.keeps _ _ (hcs 3 _ rfl)
          have g4 := hz.out.keeps _ _ (hcs 4 _ rfl)
          clear hcs
          have RI := Lib.hid (ri.keep hz.out.keeps intE_stays intE_stays)
          have RC := Lib.hid (rc.keep hz.out.keeps strE_stays strE_stays)
          have RO := Lib.hid (ro.keep hz.out.keeps intE_stays intE_stays)
          obtain ⟨a3, c3, rfl, -⟩ := ri
          obtain ⟨a4, c4, rfl, -⟩ := rc
          obtain ⟨a5, c5, rfl, -⟩ := ro
          simp only [Nat.add_zero] at g0
          generalize T[m] = x at *
          have hz2 := Lib.hid (hz.out.next ((Below.refl _ wr).alloc (Nat.le_refl _) (.cells #[.string x.name, .slice a3 x.ins.length c3, .slice a4 x.cubes.length c4, .string x.write, .slice a5 x.outs.length c5] 46)))
          have KA := Lib.hid (Keeps.alloc wr (.cells #[.string x.name, .slice a3 x.ins.length c3, .slice a4 x.cubes.length c4, .string x.write, .slice a5 x.outs.length c5] 46))
          go_wp2_with fail
          refine (markInts_any _ _ _ (RI.out.keep KA.out intE_stays intE_stays)).mono ?_
          rintro e w4 ⟨rfl, rfl⟩
          go_wp2_with fail
          refine (markInts_any _ _ _ (RO.out.keep KA.out intE_stays intE_stays)).mono ?_
          rintro e w4 ⟨rfl, rfl⟩
          go_wp2_with fail
          refine (markTexts_any _ _ _ (RC.out.keep KA.out strE_stays strE_stays)).mono ?_
          rintro e w4 ⟨rfl, rfl⟩
          go_wp2
          go_roundw
          case rel => exact ⟨m + 1, by omega, by go_num, hz2⟩
          case measure => simp [intOf]; omega
        · go_wp2
          go_roundw
          case rel => exact ⟨k + 1, by omega, by go_num, hz⟩
          case measure => simp [intOf]; omega
    · go_wp2
      clear hk hlt
      go_loopw [10, 11, 12] (fun i _ _ wr => ∃ k : Nat, k ≤ n.guards.length ∧ i = .int .i64 k ∧ Hid (Boxes w wr [[.int .i64 n.bits, .slice ap n.ports.length apc, .slice at_ n.tables.length atc, .slice ag n.guards.length agc], [.int .i64 n.bits, .slice bp n.ports.length bpc, .slice bt n.tables.length btc, .slice bg n.guards.length bgc], [.int .i64 n.bits, .slice cp n.ports.length cpc, .slice ct n.tables.length ctc, .slice cg n.guards.length cgc]])) (fun i _ _ _ => n.guards.length - (intOf i).toNat)
      case atStart => exact ⟨0, Nat.zero_le _, rfl, hz⟩
      case round =>
        clear hz y2
        obtain ⟨k, hk, rfl, hz⟩ := hrel
        have y3 := hz.out.cell 1 3 _ _ rfl rfl
        try simp only [Nat.add_zero] at y3
        by_cases hlt : k < n.guards.length
        · obtain ⟨b1, o1, v, rfl, e1, a1, c1, rfl, -, s1⟩ := guardsK_at HBG.out hlt
          have E1 := Lib.hid e1
          have f1 := hz.out.keeps _ _ e1
          have S1 := Lib.hid s1
          have hl1 := s1.1
          clear e1 s1
          generalize n.guards[k] = T at *
          go_wp2
          go_loopw [11, 12] (fun i _ wr => ∃ m : Nat, m ≤ T.length ∧ i = .int .i64 m ∧ Hid (Boxes w wr [[.int .i64 n.bits, .slice ap n.ports.length apc, .slice at_ n.tables.length atc, .slice ag n.guards.length agc], [.int .i64 n.bits, .slice bp n.ports.length bpc, .slice bt n.tables.length btc, .slice (some ⟨b1, o1, none⟩) n.guards.length bgc], [.int .i64 n.bits, .slice cp n.ports.length cpc, .slice ct n.tables.length ctc, .slice cg n.guards.length cgc]])) (fun i _ _ => T.length - (intOf i).toNat)
          case atStart => exact ⟨0, Nat.zero_le _, rfl, hz⟩
          case round =>
            clear hz y3 f1
            obtain ⟨m, hm, rfl, hz⟩ := hrel
            have y3 := hz.out.cell 1 3 _ _ rfl rfl
            try simp only [Nat.add_zero] at y3
            have f1 := hz.out.keeps _ _ E1.out
            by_cases hml : m < T.length
            · obtain ⟨b2, o2, cs, rfl, -, ⟨vc, rfl, rc⟩, hcs⟩ := S1.out.get hml
              have g0 := hz.out.keeps _ _ (hcs 0 _ rfl)
              have g1 := hz.out.keeps _ _ (hcs 1 _ rfl)
              clear hcs
              have RC := Lib.hid (rc.keep hz.out.keeps strE_stays strE_stays)
              obtain ⟨a4, c4, rfl, -⟩ := rc
              simp only [Nat.add_zero] at g0
              generalize T[m] = x at *
              go_wp2_with fail
              refine (markTexts_any _ _ _ RC.out).mono ?_
              rintro e w4 ⟨rfl, rfl⟩
              go_wp2
              go_roundw
              case rel => exact ⟨m + 1, by omega, by go_num, hz⟩
              case measure => simp [intOf]; omega
            · go_wp2
              go_roundw
              case rel => exact ⟨k + 1, by omega, by go_num, hz⟩
              case measure => simp [intOf]; omega
        · clear hk
          obtain ⟨-, hcp, b1, o1, cs, rfl, -, ⟨rfl, -⟩, hc1⟩ := HRP.out.mark (i := 0) rfl
          have p0 := hz.out.keeps _ _ (hc1 0 _ rfl)
          obtain ⟨-, hct, b2, o2, cs, rfl, -, ⟨v2, rfl, hv2⟩, hc2⟩ := HRT.out.mark (i := 0) rfl
          have p1 := hz.out.keeps _ _ (hc2 0 _ rfl)
          obtain ⟨a2, c2, rfl, -, hv2⟩ := hv2
          obtain ⟨b3, o3, _, _, _, rfl, q0, -⟩ := entries_at hv2 (k := 0) (by simp)
          replace q0 := hz.out.keeps _ _ q0
          obtain ⟨-, hcg, b4, o4, cs, rfl, -, ⟨v4, rfl, hv4⟩, hc4⟩ := HRG.out.mark (i := 0) rfl
          have p2 := hz.out.keeps _ _ (hc4 0 _ rfl)
          obtain ⟨a4, c4, rfl, -, hv4⟩ := hv4
          obtain ⟨b5, o5, vc, rfl, -, q1, hvc⟩ := guards_at hv4 (k := 0) (by simp)
          obtain ⟨b6, o6, c6, rfl, q2⟩ := one_text hvc
          replace q1 := hz.out.keeps _ _ q1
          replace q2 := hz.out.keeps _ _ q2
          clear hc1 hc2 hc4 hv2 hv4 hvc
          simp only [Nat.add_zero, Nat.mul_one, Nat.zero_mul] at p0 p1 p2 q0 q1
          have r0 : wr.cell? ⟨b1, o1 + n.ports.length * 4, none⟩ = some (.string ⟨#[98, 101, 104, 105, 110, 100, 32, 116, 104, 101, 32, 101, 110, 100]⟩) := p0
          have r1 : wr.cell? ⟨b3, o3, none⟩ = some (.string ⟨#[98, 101, 104, 105, 110, 100, 32, 116, 104, 101, 32, 101, 110, 100]⟩) := q0
          have r2 : wr.cell? ⟨b6, o6, none⟩ = some (.string ⟨#[98, 101, 104, 105, 110, 100, 32, 116, 104, 101, 32, 101, 110, 100]⟩) := q2
          clear p0 q0 q2
          have hI1 : (n.ports.length : Int) + 1 ≤ (apc : Int) := by simp at hcp; omega
          have hI2 : (n.tables.length : Int) + 1 ≤ (atc : Int) := by simp at hct; omega
          have hI3 : (n.guards.length : Int) + 1 ≤ (agc : Int) := by simp at hcg; omega
          have x1 := hz.out.cell 0 1 _ _ rfl rfl
          have x2 := hz.out.cell 0 2 _ _ rfl rfl
          have x3 := hz.out.cell 0 3 _ _ rfl rfl
          simp only [Nat.add_zero] at x1 x2 x3
          go_wp2
          go_ret
          exact ⟨rfl, hz.out.2.1⟩

end Go.Proofs.YtbklijcdmiffaaaGreatDoor
