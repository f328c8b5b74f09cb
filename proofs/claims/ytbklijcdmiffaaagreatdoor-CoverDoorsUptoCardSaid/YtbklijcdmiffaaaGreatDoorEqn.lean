/-
  The law: two networks that hold the same are called equal.
-/
import Derived.Test.YtbklijcdmiffaaaGreatDoorProg
import Derived.Test.YtbklijcdmiffaaaGreatDoorBase
import Derived.Test.YtbklijcdmiffaaaGreatDoorRefA
import Derived.StillTailTactics
import Derived.WalkKit
import Derived.WalkSpells
import Derived.WalkLawsBesides
import Derived.Deep.QuietTactic
import Derived.BigQuiet
import Derived.Lib.Hide
import Derived.Deep.LoopGhost
namespace Go.Proofs.YtbklijcdmiffaaaGreatDoor
open Go.RowKit

set_option maxRecDepth 100000 in
set_option maxHeartbeats 8000000 in
theorem equal_any (A B : List Value) (n : NetD) (w : World) (ha : netE w A n) (hb : netE w B n) :
    Calls Tryz.prog 14 #[.agg A.toArray, .agg B.toArray] w fun e w' => e = .returned (.bool true) ∧ Below w.heap.size w w' := by
  obtain ⟨vp, vt, vg, rfl, -, hp, ht, hg⟩ := ha
  obtain ⟨ap, cp, rfl, -, hp⟩ := hp
  obtain ⟨at_, ct, rfl, -, ht⟩ := ht
  obtain ⟨ag, cg, rfl, -, hg⟩ := hg
  obtain ⟨vp', vt', vg', rfl, -, hp', ht', hg'⟩ := hb
  obtain ⟨bp, dp, rfl, -, hp'⟩ := hp'
  obtain ⟨bt, dt, rfl, -, ht'⟩ := ht'
  obtain ⟨bg, dg, rfl, -, hg'⟩ := hg'
  have hlt_ := ht.1
  have hlp_ := hp.1
  have hlg_ := hg.1
  have HPA := Lib.hid hp
  have HTA := Lib.hid ht
  have HGA := Lib.hid hg
  have HPB := Lib.hid hp'
  have HTB := Lib.hid ht'
  have HGB := Lib.hid hg'
  clear hp ht hg hp' ht' hg'
  have HZ := Lib.hid (Boxes.two w [.int .i64 n.bits, .slice ap n.ports.length cp, .slice at_ n.tables.length ct, .slice ag n.guards.length cg] [.int .i64 n.bits, .slice bp n.ports.length dp, .slice bt n.tables.length dt, .slice bg n.guards.length dg] 26 26)
  go_enter Tryz.func14, Tryz.ntmps14
  go_wp2
  go_loopw [5] (fun i wr => ∃ k : Nat, k ≤ n.ports.length ∧ i = .int .i64 k ∧ Hid (Boxes w wr [[.int .i64 n.bits, .slice ap n.ports.length cp, .slice at_ n.tables.length ct, .slice ag n.guards.length cg], [.int .i64 n.bits, .slice bp n.ports.length dp, .slice bt n.tables.length dt, .slice bg n.guards.length dg]])) (fun i _ => n.ports.length - (intOf i).toNat)
  case atStart => exact ⟨0, Nat.zero_le _, rfl, HZ⟩
  case round =>
    obtain ⟨k, hk, rfl, hz⟩ := hrel
    have x1 := hz.out.cell 0 1 _ _ rfl rfl
    have x2 := hz.out.cell 0 2 _ _ rfl rfl
    have x3 := hz.out.cell 0 3 _ _ rfl rfl
    have y1 := hz.out.cell 1 1 _ _ rfl rfl
    have y2 := hz.out.cell 1 2 _ _ rfl rfl
    have y3 := hz.out.cell 1 3 _ _ rfl rfl
    simp only [Nat.add_zero] at x1 x2 x3 y1 y2 y3
    by_cases hlt : k < n.ports.length
    · obtain ⟨b1, o1, rfl, e0, e1, e2, e3, -⟩ := ports_at HPA.out hlt
      obtain ⟨b2, o2, rfl, d0, d1, d2, d3, -⟩ := ports_at HPB.out hlt
      have f0 := hz.out.keeps _ _ e0
      have f1 := hz.out.keeps _ _ e1
      have f2 := hz.out.keeps _ _ e2
      have f3 := hz.out.keeps _ _ e3
      have g0 := hz.out.keeps _ _ d0
      have g1 := hz.out.keeps _ _ d1
      have g2 := hz.out.keeps _ _ d2
      have g3 := hz.out.keeps _ _ d3
      clear e0 e1 e2 e3 d0 d1 d2 d3
      generalize n.ports[k] = p at *
      go_wp2
      go_quiet (fail)
      go_wp2
      go_roundw
      case rel => exact ⟨k + 1, by omega, by go_num, hz.out.quiet ⟨_, rfl⟩⟩
      case measure => simp [intOf]; omega
    · go_wp2
      clear hk hlt
      go_loopw [6, 7, 8, 9] (fun i _ _ _ wr => ∃ k : Nat, k ≤ n.tables.length ∧ i = .int .i64 k ∧ Hid (Boxes w wr [[.int .i64 n.bits, .slice ap n.ports.length cp, .slice at_ n.tables.length ct, .slice ag n.guards.length cg], [.int .i64 n.bits, .slice bp n.ports.length dp, .slice bt n.tables.length dt, .slice bg n.guards.length dg]])) (fun i _ _ _ _ => n.tables.length - (intOf i).toNat)
      case atStart => exact ⟨0, Nat.zero_le _, rfl, hz⟩
      case round =>
        clear x1 x2 x3 y1 y2 y3 hz
        obtain ⟨k, hk, rfl, hz⟩ := hrel
        have x1 := hz.out.cell 0 1 _ _ rfl rfl
        have x2 := hz.out.cell 0 2 _ _ rfl rfl
        have x3 := hz.out.cell 0 3 _ _ rfl rfl
        have y1 := hz.out.cell 1 1 _ _ rfl rfl
        have y2 := hz.out.cell 1 2 _ _ rfl rfl
        have y3 := hz.out.cell 1 3 _ _ rfl rfl
        simp only [Nat.add_zero] at x1 x2 x3 y1 y2 y3
        by_cases hlt : k < n.tables.length
        · obtain ⟨b1, o1, v1, rfl, e1, s1⟩ := tables_at HTA.out hlt
          obtain ⟨b2, o2, v2, rfl, e2, s2⟩ := tables_at HTB.out hlt
          obtain ⟨a1, c1, rfl, -, s1⟩ := s1
          obtain ⟨a2, c2, rfl, -, s2⟩ := s2
          have hl1 := s1.1
          have S1 := Lib.hid s1
          have S2 := Lib.hid s2
          have f1 := hz.out.keeps _ _ e1
          have f2 := hz.out.keeps _ _ e2
          have E1 := Lib.hid e1
          have E2 := Lib.hid e2
          clear e1 e2 s1 s2
          generalize hT : n.tables[k] = T at *
          clear hT
          go_wp2
          go_quiet (fail)
          go_wp2
          go_loopw [7, 8, 9] (fun i _ _ wr => ∃ m : Nat, m ≤ T.length ∧ i = .int .i64 m ∧ Hid (Boxes w wr [[.int .i64 n.bits, .slice ap n.ports.length cp, .slice (some ⟨b1, o1, none⟩) n.tables.length ct, .slice ag n.guards.length cg], [.int .i64 n.bits, .slice bp n.ports.length dp, .slice (some ⟨b2, o2, none⟩) n.tables.length dt, .slice bg n.guards.length dg]])) (fun i _ _ _ => T.length - (intOf i).toNat)
          case atStart => exact ⟨0, Nat.zero_le _, rfl, hz.out.quiet ⟨_, rfl⟩⟩
          case round =>
            clear x1 x2 x3 y1 y2 y3 hz f1 f2
            obtain ⟨m, hm, rfl, hz⟩ := hrel
            have x1 := hz.out.cell 0 1 _ _ rfl rfl
            have x2 := hz.out.cell 0 2 _ _ rfl rfl
            have x3 := hz.out.cell 0 3 _ _ rfl rfl
            have y1 := hz.out.cell 1 1 _ _ rfl rfl
            have y2 := hz.out.cell 1 2 _ _ rfl rfl
            have y3 := hz.out.cell 1 3 _ _ rfl rfl
            simp only [Nat.add_zero] at x1 x2 x3 y1 y2 y3
            have f1 := hz.out.keeps _ _ E1.out
            have f2 := hz.out.keeps _ _ E2.out
            by_cases hml : m < T.length
            · obtain ⟨q1, r1, vi1, vc1, vo1, rfl, e0, e1, e2, e3, e4, -, -, i1, t1, j1⟩ := entries_at S1.out hml
              obtain ⟨q2, r2, vi2, vc2, vo2, rfl, d0, d1, d2, d3, d4, -, -, i2, t2, j2⟩ := entries_at S2.out hml
              have HI1 := Lib.hid (ints_keep hz.out.keeps i1)
              have HI2 := Lib.hid (ints_keep hz.out.keeps i2)
              have HT1 := Lib.hid (strs_keep hz.out.keeps t1)
              have HT2 := Lib.hid (strs_keep hz.out.keeps t2)
              have HJ1 := Lib.hid (ints_keep hz.out.keeps j1)
              have HJ2 := Lib.hid (ints_keep hz.out.keeps j2)
              replace e0 := hz.out.keeps _ _ e0
              replace e1 := hz.out.keeps _ _ e1
              replace e2 := hz.out.keeps _ _ e2
              replace e3 := hz.out.keeps _ _ e3
              replace e4 := hz.out.keeps _ _ e4
              replace d0 := hz.out.keeps _ _ d0
              replace d1 := hz.out.keeps _ _ d1
              replace d2 := hz.out.keeps _ _ d2
              replace d3 := hz.out.keeps _ _ d3
              replace d4 := hz.out.keeps _ _ d4
              clear i1 i2 t1 t2 j1 j2
              generalize T[m] = x at *
              obtain ⟨z1, z2, rfl, z3, z4⟩ := HI1.out
              obtain ⟨z5, z6, rfl, z7, z8⟩ := HI2.out
              obtain ⟨z9, z10, rfl, z11, z12⟩ := HT1.out
              obtain ⟨y5, y6, rfl, y7, y8⟩ := HT2.out
              obtain ⟨y9, y10, rfl, y11, y12⟩ := HJ1.out
              obtain ⟨r5, r6, rfl, r7, r8⟩ := HJ2.out
              clear z3 z4 z7 z8 z11 z12 y7 y8 y11 y12 r7 r8
              have HS1 : Hid (∀ W, Keeps wr W → Calls Tryz.prog 26 #[.slice z1 x.ins.length z2, .slice z5 x.ins.length z6] W fun e w' => e = .returned (.bool true) ∧ Quiet W w') := fun W hk => by
                refine (sameInts_any _ _ _ _ W (ints_keep hk HI1.out) (ints_keep hk HI2.out)).mono ?_
                rintro e w' ⟨⟨b, rfl, hb⟩, hq'⟩
                obtain rfl : b = true := hb.2 rfl
                exact ⟨rfl, hq'⟩
              have HS2 : Hid (∀ W, Keeps wr W → Calls Tryz.prog 27 #[.slice z9 x.cubes.length z10, .slice y5 x.cubes.length y6] W fun e w' => e = .returned (.bool true) ∧ Quiet W w') := fun W hk => by
                refine (sameTexts_any _ _ _ _ W (strs_keep hk HT1.out) (strs_keep hk HT2.out)).mono ?_
                rintro e w' ⟨⟨b, rfl, hb⟩, hq'⟩
                obtain rfl : b = true := hb.2 rfl
                exact ⟨rfl, hq'⟩
              have HS3 : Hid (∀ W, Keeps wr W → Calls Tryz.prog 26 #[.slice y9 x.outs.length y10, .slice r5 x.outs.length r6] W fun e w' => e = .returned (.bool true) ∧ Quiet W w') := fun W hk => by
                refine (sameInts_any _ _ _ _ W (ints_keep hk HJ1.out) (ints_keep hk HJ2.out)).mono ?_
                rintro e w' ⟨⟨b, rfl, hb⟩, hq'⟩
                obtain rfl : b = true := hb.2 rfl
                exact ⟨rfl, hq'⟩
              have A1 : Hid (At ((wr.alloc (.cells #[.string x.name, .slice z1 x.ins.length z2, .slice z9 x.cubes.length z10, .string x.write, .slice y9 x.outs.length y10] 46)).alloc (.cells #[.string x.name, .slice z5 x.ins.length z6, .slice y5 x.cubes.length y6, .string x.write, .slice r5 x.outs.length r6] 46)) wr.heap.size [.string x.name, .slice z1 x.ins.length z2, .slice z9 x.cubes.length z10, .string x.write, .slice y9 x.outs.length y10]) := (At.new wr _ _).keep (Keeps.alloc _ _)
              have A2 : Hid (At ((wr.alloc (.cells #[.string x.name, .slice z1 x.ins.length z2, .slice z9 x.cubes.length z10, .string x.write, .slice y9 x.outs.length y10] 46)).alloc (.cells #[.string x.name, .slice z5 x.ins.length z6, .slice y5 x.cubes.length y6, .string x.write, .slice r5 x.outs.length r6] 46)) (wr.heap.size + 1) [.string x.name, .slice z5 x.ins.length z6, .slice y5 x.cubes.length y6, .string x.write, .slice r5 x.outs.length r6]) := by
                have := At.new (wr.alloc (.cells #[.string x.name, .slice z1 x.ins.length z2, .slice z9 x.cubes.length z10, .string x.write, .slice y9 x.outs.length y10] 46)) [.string x.name, .slice z5 x.ins.length z6, .slice y5 x.cubes.length y6, .string x.write, .slice r5 x.outs.length r6] 46
                simpa [Hid] using this
              have KA := Lib.hid (Keeps.alloc wr (.cells #[.string x.name, .slice z1 x.ins.length z2, .slice z9 x.cubes.length z10, .string x.write, .slice y9 x.outs.length y10] 46))
              have w2 := KA.out _ _ y2
              have k2 := KA.out _ _ f2
              have m0 := KA.out _ _ d0
              have m1 := KA.out _ _ d1
              have m2 := KA.out _ _ d2
              have m3 := KA.out _ _ d3
              have m4 := KA.out _ _ d4
              have HB2 : Hid (Below wr.heap.size wr ((wr.alloc (.cells #[.string x.name, .slice z1 x.ins.length z2, .slice z9 x.cubes.length z10, .string x.write, .slice y9 x.outs.length y10] 46)).alloc (.cells #[.string x.name, .slice z5 x.ins.length z6, .slice y5 x.cubes.length y6, .string x.write, .slice r5 x.outs.length r6] 46))) := ((Below.refl _ _).alloc (Nat.le_refl _) _).alloc (by simp) _
              go_wp2_with fail
              refine (HS1.out _ (Keeps.of_below HB2.out)).mono ?_
              rintro e w3 ⟨rfl, hq⟩
              have HB3 := Lib.hid (below_quiet HB2.out hq)
              have A13 := Lib.hid (A1.out.keep (Keeps.of_below (hq.below _)))
              have A23 := Lib.hid (A2.out.keep (Keeps.of_below (hq.below _)))
              clear hq A1 A2 HS1 HB2 KA w2 k2 m0 m1 m2 m3 m4 e0 e1 e2 e3 e4 d0 d1 d2 d3 d4
              have u1 := A13.out 2 _ rfl
              have u2 := A23.out 2 _ rfl
              have u3 := A13.out 4 _ rfl
              have u4 := A23.out 4 _ rfl
              go_wp2_with fail
              refine (HS2.out _ (Keeps.of_below HB3.out)).mono ?_
              rintro e w4 ⟨rfl, hq⟩
              have HB4 := Lib.hid (below_quiet HB3.out hq)
              have A14 := Lib.hid (A13.out.keep (Keeps.of_below (hq.below _)))
              have A24 := Lib.hid (A23.out.keep (Keeps.of_below (hq.below _)))
              clear hq A13 A23 HS2 HB3 u1 u2 u3 u4
              have u3 := A14.out 4 _ rfl
              have u4 := A24.out 4 _ rfl
              go_wp2_with fail
              refine (HS3.out _ (Keeps.of_below HB4.out)).mono ?_
              rintro e w5 ⟨rfl, hq⟩
              have HB5 := Lib.hid (below_quiet HB4.out hq)
              clear hq A14 A24 HS3 HB4 u3 u4
              go_wp2
              go_roundw
              case rel => exact ⟨m + 1, by omega, by go_num, hz.out.next HB5.out⟩
              case measure => simp [intOf]; omega
            · go_wp2
              go_roundw
              case rel => exact ⟨k + 1, by omega, by go_num, hz⟩
              case measure => simp [intOf]; omega
        · go_wp2
          clear hk hlt
          go_loopw [10, 11] (fun i _ wr => ∃ k : Nat, k ≤ n.guards.length ∧ i = .int .i64 k ∧ Hid (Boxes w wr [[.int .i64 n.bits, .slice ap n.ports.length cp, .slice at_ n.tables.length ct, .slice ag n.guards.length cg], [.int .i64 n.bits, .slice bp n.ports.length dp, .slice bt n.tables.length dt, .slice bg n.guards.length dg]])) (fun i _ _ => n.guards.length - (intOf i).toNat)
          case atStart => exact ⟨0, Nat.zero_le _, rfl, hz⟩
          case round =>
            clear x1 x2 x3 y1 y2 y3 hz
            obtain ⟨k, hk, rfl, hz⟩ := hrel
            have x1 := hz.out.cell 0 1 _ _ rfl rfl
            have x2 := hz.out.cell 0 2 _ _ rfl rfl
            have x3 := hz.out.cell 0 3 _ _ rfl rfl
            have y1 := hz.out.cell 1 1 _ _ rfl rfl
            have y2 := hz.out.cell 1 2 _ _ rfl rfl
            have y3 := hz.out.cell 1 3 _ _ rfl rfl
            simp only [Nat.add_zero] at x1 x2 x3 y1 y2 y3
            by_cases hlt : k < n.guards.length
            · obtain ⟨b1, o1, v1, rfl, e1, s1⟩ := guardss_at HGA.out hlt
              obtain ⟨b2, o2, v2, rfl, e2, s2⟩ := guardss_at HGB.out hlt
              obtain ⟨a1, c1, rfl, -, s1⟩ := s1
              obtain ⟨a2, c2, rfl, -, s2⟩ := s2
              have hl1 := s1.1
              have S1 := Lib.hid s1
              have S2 := Lib.hid s2
              have f1 := hz.out.keeps _ _ e1
              have f2 := hz.out.keeps _ _ e2
              have E1 := Lib.hid e1
              have E2 := Lib.hid e2
              clear e1 e2 s1 s2
              generalize hT : n.guards[k] = T at *
              clear hT
              go_wp2
              go_quiet (fail)
              go_wp2
              go_loopw [11] (fun i wr => ∃ m : Nat, m ≤ T.length ∧ i = .int .i64 m ∧ Hid (Boxes w wr [[.int .i64 n.bits, .slice ap n.ports.length cp, .slice at_ n.tables.length ct, .slice (some ⟨b1, o1, none⟩) n.guards.length cg], [.int .i64 n.bits, .slice bp n.ports.length dp, .slice bt n.tables.length dt, .slice (some ⟨b2, o2, none⟩) n.guards.length dg]])) (fun i _ => T.length - (intOf i).toNat)
              case atStart => exact ⟨0, Nat.zero_le _, rfl, hz.out.quiet ⟨_, rfl⟩⟩
              case round =>
                clear x1 x2 x3 y1 y2 y3 hz f1 f2
                obtain ⟨m, hm, rfl, hz⟩ := hrel
                have x1 := hz.out.cell 0 1 _ _ rfl rfl
                have x2 := hz.out.cell 0 2 _ _ rfl rfl
                have x3 := hz.out.cell 0 3 _ _ rfl rfl
                have y1 := hz.out.cell 1 1 _ _ rfl rfl
                have y2 := hz.out.cell 1 2 _ _ rfl rfl
                have y3 := hz.out.cell 1 3 _ _ rfl rfl
                simp only [Nat.add_zero] at x1 x2 x3 y1 y2 y3
                have f1 := hz.out.keeps _ _ E1.out
                have f2 := hz.out.keeps _ _ E2.out
                by_cases hml : m < T.length
                · obtain ⟨q1, r1, vc1, rfl, e0, e1, t1⟩ := guards_at S1.out hml
                  obtain ⟨q2, r2, vc2, rfl, d0, d1, t2⟩ := guards_at S2.out hml
                  have HT1 := Lib.hid (strs_keep hz.out.keeps t1)
                  have HT2 := Lib.hid (strs_keep hz.out.keeps t2)
                  replace e0 := hz.out.keeps _ _ e0
                  replace e1 := hz.out.keeps _ _ e1
                  replace d0 := hz.out.keeps _ _ d0
                  replace d1 := hz.out.keeps _ _ d1
                  clear t1 t2
                  generalize T[m] = x at *
                  have HS : Hid (∀ W, Quiet wr W → Calls Tryz.prog 27 #[vc1, vc2] W fun e w' => e = .returned (.bool true) ∧ ∃ n, w' = W.drewN n) := fun W hq => by
                    have hk : Keeps wr W := by
                      obtain ⟨nq, rfl⟩ := hq
                      exact Keeps.drewN wr nq
                    refine (sameTexts_any vc1 vc2 _ _ W (strs_keep hk HT1.out) (strs_keep hk HT2.out)).mono ?_
                    rintro e w' ⟨⟨b, rfl, hb⟩, hq'⟩
                    obtain rfl : b = true := hb.2 rfl
                    exact ⟨rfl, let ⟨n, h⟩ := hq'; ⟨n, h.symm⟩⟩
                  go_wp2
                  go_quiet ((go_at_call 27; exact Calls.quiet_of (HS.out _ ⟨_, rfl⟩)))
                  go_wp2
                  go_roundw
                  case rel => exact ⟨m + 1, by omega, by go_num, hz.out.quiet ⟨_, rfl⟩⟩
                  case measure => simp [intOf]; omega
                · go_wp2
                  go_roundw
                  case rel => exact ⟨k + 1, by omega, by go_num, hz⟩
                  case measure => simp [intOf]; omega
            · go_wp2
              go_ret
              exact ⟨rfl, hz.out.2.1⟩
end Go.Proofs.YtbklijcdmiffaaaGreatDoor
