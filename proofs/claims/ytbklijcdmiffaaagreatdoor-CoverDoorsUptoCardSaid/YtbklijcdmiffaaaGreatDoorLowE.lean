/-
  lower: are numbers a network?
-/
import Derived.Test.YtbklijcdmiffaaaGreatDoorProg
import Derived.Test.YtbklijcdmiffaaaGreatDoorBase
import Derived.Test.YtbklijcdmiffaaaGreatDoorLowD
import Derived.Test.YtbklijcdmiffaaaGreatDoorLowC
import Derived.StillTailTactics
import Derived.WalkKit
import Derived.WalkSpells
import Derived.WalkLawsBesides
import Derived.Deep.QuietTactic
import Derived.BigQuiet
import Derived.Lib.Hide
import Derived.Deep.LoopGhost
namespace Go.Proofs.YtbklijcdmiffaaaGreatDoor
open Go.RowKit

set_option maxRecDepth 100000 in
set_option maxHeartbeats 2000000 in
theorem lowValid_any (cs : List Value) (n : NetD) (w : World) (hv : Vars w) (hn : netE w cs n) :
    Calls Tryz.prog 9 #[.agg cs.toArray] w fun e w' => Errs (netOk n) 90 e ∧ Below w.heap.size w w' := by
  have HN := Lib.hid hn
  have HV := Lib.hid hv
  clear hv
  obtain ⟨vp, vt, vg, rfl, -, hp, ht, hg⟩ := hn
  obtain ⟨ap, cp, rfl, -, hp⟩ := hp
  obtain ⟨at_, ct, rfl, -, ht⟩ := ht
  obtain ⟨ag, cg, rfl, -, hg⟩ := hg
  have hlt_ := ht.1
  have hlp_ := hp.1
  have hlg_ := hg.1
  clear hp ht hg
  have HZ : Hid (∀ t, Boxes w (w.alloc (.cells #[.int .i64 n.bits, .slice ap n.ports.length cp, .slice at_ n.tables.length ct, .slice ag n.guards.length cg] t)) [[.int .i64 n.bits, .slice ap n.ports.length cp, .slice at_ n.tables.length ct, .slice ag n.guards.length cg]]) := fun t => Boxes.one w _ t
  by_cases hbad : n.bits < 1 ∨ 256 < n.bits ∨ 16 < n.tables.length ∨ 48 < n.ports.length ∨ n.guards.length ≠ n.ports.length
  · have HF : Hid (¬ netOk n) := fun h => by
      obtain ⟨h1, h2, h3, h4, h5, -⟩ := h
      omega
    have hbad' : n.bits < 1 ∨ (1 ≤ n.bits ∧ 256 < n.bits) ∨ (1 ≤ n.bits ∧ n.bits ≤ 256 ∧ 16 < n.tables.length) ∨ (1 ≤ n.bits ∧ n.bits ≤ 256 ∧ n.tables.length ≤ 16 ∧ 48 < n.ports.length) ∨
      (1 ≤ n.bits ∧ n.bits ≤ 256 ∧ n.tables.length ≤ 16 ∧ n.ports.length ≤ 48 ∧ ((n.guards.length : Int) != (n.ports.length : Int)) = true) := by simp only [bne_iff_ne]; omega
    clear hbad
    rcases hbad' with h | ⟨h, h'⟩ | ⟨h, h', h''⟩ | ⟨h, h', h'', h3⟩ | ⟨h, h', h'', h3, h4⟩
    all_goals
      go_enter Tryz.func9, Tryz.ntmps9
      go_wp2
      go_ret
      exact ⟨.no HF.out, (HZ.out _).2.1⟩
  · have hb1 : 1 ≤ n.bits := by omega
    have hb2 : n.bits ≤ 256 := by omega
    have hb3 : n.tables.length ≤ 16 := by omega
    have hb4 : n.ports.length ≤ 48 := by omega
    have hb5 : Hid (n.guards.length = n.ports.length) := by unfold Hid; omega
    have hb6 : ((n.guards.length : Int) != (n.ports.length : Int)) = false := by rw [hb5.out]; simp
    clear hbad
    have hz := Lib.hid (HZ.out 26)
    go_enter Tryz.func9, Tryz.ntmps9
    go_wp2_with fail
    have hs1 := Lib.hid (vports_any _ n _ (HV.out.keep hz.out.2.1) (netE_keep hz.out.keeps _ _ HN.out))
    refine hs1.out.mono ?_
    rintro e w1 ⟨ht1, hb⟩
    replace hz := Lib.hid (hz.out.next hb)
    clear hs1 hb
    have n0 := hz.out.cell 0 0 _ _ rfl rfl
    have n1 := hz.out.cell 0 1 _ _ rfl rfl
    have n2 := hz.out.cell 0 2 _ _ rfl rfl
    have n3 := hz.out.cell 0 3 _ _ rfl rfl
    simp only [Nat.add_zero] at n0 n1 n2 n3
    rcases ht1.cases with ⟨rfl, h1⟩ | ⟨rfl, h1⟩
    · have HK1 := Lib.hid h1
      clear h1 ht1
      go_wp2_with fail
      clear n0 n1 n2 n3
      have hs2 := Lib.hid (vguards_any _ n _ (netE_keep hz.out.keeps _ _ HN.out))
      refine hs2.out.mono ?_
      rintro e w2 ⟨ht2, hb⟩
      replace hz := Lib.hid (hz.out.next hb)
      clear hs2 hb
      have n0 := hz.out.cell 0 0 _ _ rfl rfl
      have n1 := hz.out.cell 0 1 _ _ rfl rfl
      have n2 := hz.out.cell 0 2 _ _ rfl rfl
      have n3 := hz.out.cell 0 3 _ _ rfl rfl
      simp only [Nat.add_zero] at n0 n1 n2 n3
      rcases ht2.cases with ⟨rfl, h2⟩ | ⟨rfl, h2⟩
      · have HK2 := Lib.hid h2
        clear h2 ht2
        go_wp2_with fail
        clear n0 n1 n2 n3
        have hs3 := Lib.hid (vtables_any _ n _ (netE_keep hz.out.keeps _ _ HN.out))
        refine hs3.out.mono ?_
        rintro e w3 ⟨ht3, hb⟩
        replace hz := Lib.hid (hz.out.next hb)
        clear hs3 hb
        have n0 := hz.out.cell 0 0 _ _ rfl rfl
        have n1 := hz.out.cell 0 1 _ _ rfl rfl
        have n2 := hz.out.cell 0 2 _ _ rfl rfl
        have n3 := hz.out.cell 0 3 _ _ rfl rfl
        simp only [Nat.add_zero] at n0 n1 n2 n3
        rcases ht3.cases with ⟨rfl, h3⟩ | ⟨rfl, h3⟩
        · have HK3 := Lib.hid h3
          clear h3 ht3
          have HY : Hid (netOk n) := ⟨hb1, hb2, hb3, hb4, hb5.out, HK1.out, HK2.out, HK3.out⟩
          go_wp2
          go_ret
          exact ⟨.yes HY.out, hz.out.2.1⟩
        · have HF : Hid (¬ netOk n) := fun h => h3 h.2.2.2.2.2.2.2
          clear h3
          go_wp2
          go_ret
          exact ⟨.no HF.out, hz.out.2.1⟩
      · have HF : Hid (¬ netOk n) := fun h => h2 h.2.2.2.2.2.2.1
        clear h2
        go_wp2
        go_ret
        exact ⟨.no HF.out, hz.out.2.1⟩
    · have HF : Hid (¬ netOk n) := fun h => h1 h.2.2.2.2.2.1
      clear h1
      go_wp2
      go_ret
      exact ⟨.no HF.out, hz.out.2.1⟩
end Go.Proofs.YtbklijcdmiffaaaGreatDoor
