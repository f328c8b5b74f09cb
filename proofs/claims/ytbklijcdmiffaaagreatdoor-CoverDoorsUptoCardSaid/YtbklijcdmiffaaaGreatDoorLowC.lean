/-
  lower: the tables and the guards of a network.
-/
import Derived.Test.YtbklijcdmiffaaaGreatDoorProg
import Derived.Test.YtbklijcdmiffaaaGreatDoorBase
import Derived.Test.YtbklijcdmiffaaaGreatDoorLowB
import Derived.StillTailTactics
import Derived.WalkKit
import Derived.WalkSpells
import Derived.WalkLawsBesides
import Derived.Deep.QuietTactic
import Derived.BigQuiet
import Derived.Lib.Hide
import Derived.Deep.LoopGhost
namespace Go.Proofs.YtbklijcdmiffaaaGreatDoor
open Go.RowKit

def sumUp {α : Type} (f : α → Nat) (l : List α) (k : Nat) : Nat := ((l.take k).map f).sum
theorem sumUp_zero {α : Type} (f : α → Nat) (l : List α) : sumUp f l 0 = 0 := by simp [sumUp]
theorem sumUp_succ {α : Type} (f : α → Nat) (l : List α) (k : Nat) (h : k < l.length) : sumUp f l (k + 1) = sumUp f l k + f l[k] := by
  unfold sumUp
  rw [take_snoc l k h, List.map_append, List.sum_append]
  rfl
theorem sumUp_all {α : Type} (f : α → Nat) (l : List α) : sumUp f l l.length = (l.map f).sum := by simp [sumUp]
theorem sumUp_le {α : Type} (f : α → Nat) (l : List α) (k : Nat) : sumUp f l k ≤ (l.map f).sum := by
  have h : (l.map f).sum = ((l.take k).map f).sum + ((l.drop k).map f).sum := by rw [← List.sum_append, ← List.map_append, List.take_append_drop]
  rw [h]
  exact Nat.le_add_right _ _

set_option maxRecDepth 100000 in
set_option maxHeartbeats 2000000 in
theorem vtables_any (cs : List Value) (n : NetD) (w : World) (hn : netE w cs n) :
    Calls Tryz.prog 20 #[.agg cs.toArray] w fun e w' => Tells (tablesOk n) e ∧ Below w.heap.size w w' := by
  have HN := Lib.hid hn
  obtain ⟨vp, vt, vg, rfl, -, -, ht, -⟩ := hn
  obtain ⟨at_, ct, rfl, -, ht⟩ := ht
  have hlt_ := ht.1
  have HT := Lib.hid ht
  clear ht
  have hz := Lib.hid (Boxes.one w [.int .i64 n.bits, vp, .slice at_ n.tables.length ct, vg] 26)
  go_enter Tryz.func20, Tryz.ntmps20
  go_wp2
  go_loopw [3, 4, 5, 6, 8, 12] (fun en _ _ _ _ b wr => ∃ (k E : Nat), k ≤ n.tables.length ∧ b = .int .i64 k ∧ en = .int .i64 E ∧ E ≤ 256 ∧ Hid (E = sumUp List.length n.tables k) ∧
    Hid (∀ b (hb : b < n.tables.length), b < k → cubesOf n.tables[b] ≤ 512 ∧ ∀ i (hi : i < n.tables[b].length), entryOk n b n.tables[b][i]) ∧ Hid (Boxes w wr [[.int .i64 n.bits, vp, .slice at_ n.tables.length ct, vg]])) (fun _ _ _ _ _ b _ => n.tables.length - (intOf b).toNat)
  case atStart => exact ⟨0, 0, Nat.zero_le _, rfl, rfl, Nat.zero_le _, (sumUp_zero _ _).symm, fun j _ h => absurd h (by omega), hz⟩
  case round =>
    clear hz
    obtain ⟨k, E, hk, rfl, rfl, hE, hsum, hq, hz⟩ := hrel
    by_cases hlt : k < n.tables.length
    · obtain ⟨b, o, v, rfl, hcell, hent⟩ := tables_at HT.out hlt
      obtain ⟨ae, ce, rfl, -, hent⟩ := hent
      have hlen := hent.1
      have HE := Lib.hid hent
      clear hent
      have hcell' := hz.out.keeps _ _ hcell
      have HSU := Lib.hid (sumUp_succ List.length n.tables k hlt)
      by_cases hbig : 256 < E + n.tables[k].length
      · have HF : Hid (¬ tablesOk n) := fun h => by
          have h1 := h.2
          have h2 := sumUp_le List.length n.tables (k + 1)
          have h3 := HSU.out
          have h4 := hsum.out
          omega
        go_wp2
        go_ret
        exact ⟨.no HF.out, hz.out.2.1⟩
      obtain ⟨wo, rfl⟩ : ∃ wo : World, wo = wr := ⟨_, rfl⟩
      go_wp2
      go_loopw [6, 8, 25] (fun al _ i wr => ∃ (m A : Nat), m ≤ n.tables[k].length ∧ i = .int .i64 m ∧ al = .int .i64 A ∧ A ≤ 512 ∧ Hid (A = sumUp (fun e => e.cubes.length) n.tables[k] m) ∧
        Hid (∀ i (hi : i < n.tables[k].length), i < m → entryOk n k n.tables[k][i]) ∧ Hid (Boxes w wr [[.int .i64 n.bits, vp, .slice (some ⟨b, o, none⟩) n.tables.length ct, vg]])) (fun _ _ i _ => n.tables[k].length - (intOf i).toNat)
      case atStart => exact ⟨0, 0, Nat.zero_le _, rfl, rfl, Nat.zero_le _, (sumUp_zero _ _).symm, fun j _ h => absurd h (by omega), hz⟩
      case round =>
        clear hz hcell'
        obtain ⟨m, A, hm, rfl, rfl, hA, hsumA, hqm, hz⟩ := hrel
        by_cases hltm : m < n.tables[k].length
        · obtain ⟨b2, o2, vi, vc, vo, rfl, e0, e1, e2, e3, e4, hs0, hs1, hvi, hvc, hvo⟩ := entries_at HE.out hltm
          have HX : Hid (entryE w [.string n.tables[k][m].name, vi, vc, .string n.tables[k][m].write, vo] n.tables[k][m]) := ⟨vi, vc, vo, rfl, hs0, hs1, hvi, hvc, hvo⟩
          obtain ⟨ac, cc, rfl, -, hvc⟩ := hvc
          have hcl := hvc.1
          obtain ⟨ai, ci, rfl, -, -⟩ := hvi
          obtain ⟨ao, co, rfl, -, -⟩ := hvo
          clear hvc hs0 hs1
          have f0 := hz.out.keeps _ _ e0
          have f1 := hz.out.keeps _ _ e1
          have f2 := hz.out.keeps _ _ e2
          have f3 := hz.out.keeps _ _ e3
          have f4 := hz.out.keeps _ _ e4
          clear e0 e1 e2 e3 e4
          have HSU2 := Lib.hid (sumUp_succ (fun e : EntryD => e.cubes.length) n.tables[k] m hltm)
          have hz2 := Lib.hid (hz.out.next ((Below.refl _ wr).alloc (Nat.le_refl _) (.cells [.string n.tables[k][m].name, .slice ai n.tables[k][m].ins.length ci, .slice ac n.tables[k][m].cubes.length cc, .string n.tables[k][m].write, .slice ao n.tables[k][m].outs.length co].toArray 46)))
          by_cases h512 : 512 < A + n.tables[k][m].cubes.length
          · have HF : Hid (¬ tablesOk n) := fun h => by
              have h1 := (h.1 k hlt).1
              have h2 := sumUp_le (fun e : EntryD => e.cubes.length) n.tables[k] (m + 1)
              have h3 := HSU2.out
              have h4 := hsumA.out
              unfold cubesOf at h1
              omega
            go_wp2
            go_ret
            exact ⟨.no HF.out, hz2.out.2.1⟩
          · have n0 := hz2.out.cell 0 0 _ _ rfl rfl
            have n1 := hz2.out.cell 0 1 _ _ rfl rfl
            have n2 := hz2.out.cell 0 2 _ _ rfl rfl
            have n3 := hz2.out.cell 0 3 _ _ rfl rfl
            simp only [Nat.add_zero, List.toArray] at n0 n1 n2 n3
            have HV := Lib.hid (ventry_any [.int .i64 n.bits, vp, .slice (some ⟨b, o, none⟩) n.tables.length ct, vg] _ n k n.tables[k][m] _ (netE_keep hz2.out.keeps _ _ HN.out) (entryE_keep hz2.out.keeps _ _ HX.out))
            go_wp2_with fail
            refine HV.out.mono ?_
            rintro e w3 ⟨ht, hb3⟩
            have hz3 := Lib.hid (hz2.out.next hb3)
            clear HV hb3 hz2 n0 n1 n2 n3 f0 f1 f2 f3 f4 hz
            rcases ht.cases with ⟨rfl, hok⟩ | ⟨rfl, hok⟩
            · have HQ : Hid (∀ i (hi : i < n.tables[k].length), i < m + 1 → entryOk n k n.tables[k][i]) := by
                intro i hi him
                by_cases e : i = m
                · subst e; exact hok
                · exact hqm.out i hi (by omega)
              have HS : Hid (A + n.tables[k][m].cubes.length = sumUp (fun e => e.cubes.length) n.tables[k] (m + 1)) := by unfold Hid; rw [HSU2.out, hsumA.out]
              clear hok
              go_wp2
              go_roundw
              case rel => exact ⟨m + 1, A + n.tables[k][m].cubes.length, by omega, by go_num, by go_num, by omega, HS, HQ, hz3⟩
              case measure => simp [intOf]; omega
            · have HF : Hid (¬ tablesOk n) := fun h => hok ((h.1 k hlt).2 m hltm)
              clear hok
              go_wp2
              go_ret
              exact ⟨.no HF.out, hz3.out.2.1⟩
        · obtain rfl : m = n.tables[k].length := by omega
          have HA : Hid (A = cubesOf n.tables[k]) := by rw [hsumA.out, sumUp_all]; rfl
          have HQ : Hid (∀ b (hb : b < n.tables.length), b < k + 1 → cubesOf n.tables[b] ≤ 512 ∧ ∀ i (hi : i < n.tables[b].length), entryOk n b n.tables[b][i]) := by
            intro j hj hjk
            by_cases e : j = k
            · subst e; exact ⟨by rw [← HA.out]; omega, fun i hi => hqm.out i hi hi⟩
            · exact hq.out j hj (by omega)
          have HS : Hid (E + n.tables[k].length = sumUp List.length n.tables (k + 1)) := by unfold Hid; rw [HSU.out, hsum.out]
          go_wp2
          go_roundw
          case rel => exact ⟨k + 1, E + n.tables[k].length, by omega, by go_num, by go_num, by omega, HS, HQ, hz⟩
          case measure => simp [intOf]; omega
    · obtain rfl : k = n.tables.length := by omega
      have HY : Hid (tablesOk n) := ⟨fun b hb => hq.out b hb hb, by have := hsum.out; rw [sumUp_all] at this; omega⟩
      go_wp2
      go_ret
      exact ⟨.yes HY.out, hz.out.2.1⟩

set_option maxRecDepth 100000 in
set_option maxHeartbeats 2000000 in
theorem vguards_any (cs : List Value) (n : NetD) (w : World) (hn : netE w cs n) :
    Calls Tryz.prog 19 #[.agg cs.toArray] w fun e w' => Tells (guardsOk n) e ∧ Below w.heap.size w w' := by
  have HN := Lib.hid hn
  obtain ⟨vp, vt, vg, rfl, -, -, -, ht⟩ := hn
  obtain ⟨at_, ct, rfl, -, ht⟩ := ht
  have hlt_ := ht.1
  have HT := Lib.hid ht
  clear ht
  have hz := Lib.hid (Boxes.one w [.int .i64 n.bits, vp, vt, .slice at_ n.guards.length ct] 26)
  go_enter Tryz.func19, Tryz.ntmps19
  go_wp2
  go_loopw [3, 5, 6, 8, 12] (fun en _ _ _ b wr => ∃ (k E : Nat), k ≤ n.guards.length ∧ b = .int .i64 k ∧ en = .int .i64 E ∧ E ≤ 64 ∧ Hid (E = sumUp List.length n.guards k) ∧
    Hid (∀ b (hb : b < n.guards.length), b < k → cubesOfG n.guards[b] ≤ 512 ∧ ∀ i (hi : i < n.guards[b].length), cubesOk n.bits n.guards[b][i].cubes 64) ∧ Hid (Boxes w wr [[.int .i64 n.bits, vp, vt, .slice at_ n.guards.length ct]])) (fun _ _ _ _ b _ => n.guards.length - (intOf b).toNat)
  case atStart => exact ⟨0, 0, Nat.zero_le _, rfl, rfl, Nat.zero_le _, (sumUp_zero _ _).symm, fun j _ h => absurd h (by omega), hz⟩
  case round =>
    clear hz
    obtain ⟨k, E, hk, rfl, rfl, hE, hsum, hq, hz⟩ := hrel
    by_cases hlt : k < n.guards.length
    · obtain ⟨b, o, v, rfl, hcell, hent⟩ := guardss_at HT.out hlt
      obtain ⟨ae, ce, rfl, -, hent⟩ := hent
      have hlen := hent.1
      have HE := Lib.hid hent
      clear hent
      have hcell' := hz.out.keeps _ _ hcell
      have HSU := Lib.hid (sumUp_succ List.length n.guards k hlt)
      by_cases hbig : 64 < E + n.guards[k].length
      · have HF : Hid (¬ guardsOk n) := fun h => by
          have h1 := h.2
          have h2 := sumUp_le List.length n.guards (k + 1)
          have h3 := HSU.out
          have h4 := hsum.out
          omega
        go_wp2
        go_ret
        exact ⟨.no HF.out, hz.out.2.1⟩
      obtain ⟨wo, rfl⟩ : ∃ wo : World, wo = wr := ⟨_, rfl⟩
      go_wp2
      go_loopw [6, 8, 24] (fun al _ i wr => ∃ (m A : Nat), m ≤ n.guards[k].length ∧ i = .int .i64 m ∧ al = .int .i64 A ∧ A ≤ 512 ∧ Hid (A = sumUp (fun e => e.cubes.length) n.guards[k] m) ∧
        Hid (∀ i (hi : i < n.guards[k].length), i < m → cubesOk n.bits n.guards[k][i].cubes 64) ∧ Hid (Boxes w wr [[.int .i64 n.bits, vp, vt, .slice (some ⟨b, o, none⟩) n.guards.length ct]])) (fun _ _ i _ => n.guards[k].length - (intOf i).toNat)
      case atStart => exact ⟨0, 0, Nat.zero_le _, rfl, rfl, Nat.zero_le _, (sumUp_zero _ _).symm, fun j _ h => absurd h (by omega), hz⟩
      case round =>
        clear hz hcell'
        obtain ⟨m, A, hm, rfl, rfl, hA, hsumA, hqm, hz⟩ := hrel
        by_cases hltm : m < n.guards[k].length
        · obtain ⟨b2, o2, vc, rfl, e0, e1, hvc⟩ := guards_at HE.out hltm
          have HVC := Lib.hid hvc
          obtain ⟨ac, cc, rfl, -, hvc⟩ := hvc
          have hcl := hvc.1
          clear hvc
          have f0 := hz.out.keeps _ _ e0
          have f1 := hz.out.keeps _ _ e1
          clear e0 e1
          have HSU2 := Lib.hid (sumUp_succ (fun e : GuardD => e.cubes.length) n.guards[k] m hltm)
          have hz2 := Lib.hid (hz.out.next ((Below.refl _ wr).alloc (Nat.le_refl _) (.cells [.bool n.guards[k][m].permit, .slice ac n.guards[k][m].cubes.length cc].toArray 50)))
          by_cases h512 : 512 < A + n.guards[k][m].cubes.length
          · have HF : Hid (¬ guardsOk n) := fun h => by
              have h1 := (h.1 k hlt).1
              have h2 := sumUp_le (fun e : GuardD => e.cubes.length) n.guards[k] (m + 1)
              have h3 := HSU2.out
              have h4 := hsumA.out
              unfold cubesOfG at h1
              omega
            go_wp2
            go_ret
            exact ⟨.no HF.out, hz2.out.2.1⟩
          · have n0 := hz2.out.cell 0 0 _ _ rfl rfl
            have n1 := hz2.out.cell 0 1 _ _ rfl rfl
            have n2 := hz2.out.cell 0 2 _ _ rfl rfl
            have n3 := hz2.out.cell 0 3 _ _ rfl rfl
            simp only [Nat.add_zero, List.toArray] at n0 n1 n2 n3
            have HV := Lib.hid (vcubes_any [.int .i64 n.bits, vp, vt, .slice (some ⟨b, o, none⟩) n.guards.length ct] n _ n.guards[k][m].cubes _ (netE_keep hz2.out.keeps _ _ HN.out) (strs_keep hz2.out.keeps HVC.out))
            go_wp2_with fail
            refine HV.out.mono ?_
            rintro e w3 ⟨ht, hb3⟩
            have hz3 := Lib.hid (hz2.out.next hb3)
            clear HV hb3 hz2 n0 n1 n2 n3 f0 f1 hz
            rcases ht.cases with ⟨rfl, hok⟩ | ⟨rfl, hok⟩
            · have HQ : Hid (∀ i (hi : i < n.guards[k].length), i < m + 1 → cubesOk n.bits n.guards[k][i].cubes 64) := by
                intro i hi him
                by_cases e : i = m
                · subst e; exact hok
                · exact hqm.out i hi (by omega)
              have HS : Hid (A + n.guards[k][m].cubes.length = sumUp (fun e => e.cubes.length) n.guards[k] (m + 1)) := by unfold Hid; rw [HSU2.out, hsumA.out]
              clear hok
              go_wp2
              go_roundw
              case rel => exact ⟨m + 1, A + n.guards[k][m].cubes.length, by omega, by go_num, by go_num, by omega, HS, HQ, hz3⟩
              case measure => simp [intOf]; omega
            · have HF : Hid (¬ guardsOk n) := fun h => hok ((h.1 k hlt).2 m hltm)
              clear hok
              go_wp2
              go_ret
              exact ⟨.no HF.out, hz3.out.2.1⟩
        · obtain rfl : m = n.guards[k].length := by omega
          have HA : Hid (A = cubesOfG n.guards[k]) := by rw [hsumA.out, sumUp_all]; rfl
          have HQ : Hid (∀ b (hb : b < n.guards.length), b < k + 1 → cubesOfG n.guards[b] ≤ 512 ∧ ∀ i (hi : i < n.guards[b].length), cubesOk n.bits n.guards[b][i].cubes 64) := by
            intro j hj hjk
            by_cases e : j = k
            · subst e; exact ⟨by rw [← HA.out]; omega, fun i hi => hqm.out i hi hi⟩
            · exact hq.out j hj (by omega)
          have HS : Hid (E + n.guards[k].length = sumUp List.length n.guards (k + 1)) := by unfold Hid; rw [HSU.out, hsum.out]
          go_wp2
          go_roundw
          case rel => exact ⟨k + 1, E + n.guards[k].length, by omega, by go_num, by go_num, by omega, HS, HQ, hz⟩
          case measure => simp [intOf]; omega
    · obtain rfl : k = n.guards.length := by omega
      have HY : Hid (guardsOk n) := ⟨fun b hb => hq.out b hb hb, by have := hsum.out; rw [sumUp_all] at this; omega⟩
      go_wp2
      go_ret
      exact ⟨.yes HY.out, hz.out.2.1⟩
end Go.Proofs.YtbklijcdmiffaaaGreatDoor
