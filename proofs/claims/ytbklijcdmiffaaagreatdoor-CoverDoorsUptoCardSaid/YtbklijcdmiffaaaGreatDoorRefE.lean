/-
  The tables and the guards of the reference: what the calls answer.
-/
import Derived.Test.YtbklijcdmiffaaaGreatDoorProg
import Derived.Test.YtbklijcdmiffaaaGreatDoorBase
import Derived.Test.YtbklijcdmiffaaaGreatDoorRefD
import Derived.StillTailTactics
import Derived.WalkKit
import Derived.WalkSpells
import Derived.WalkLawsBesides
import Derived.Deep.QuietTactic
import Derived.BigQuiet
import Derived.Lib.Hide
import Derived.Deep.LoopGhost
namespace Go.Proofs.YtbklijcdmiffaaaGreatDoor
open Go.RowKit

def sumTo {α : Type} (f : α → Nat) (l : List α) (k : Nat) : Nat := ((l.take k).map f).sum
theorem sumTo_zero {α : Type} (f : α → Nat) (l : List α) : sumTo f l 0 = 0 := by simp [sumTo]
theorem sumTo_succ {α : Type} (f : α → Nat) (l : List α) (k : Nat) (h : k < l.length) : sumTo f l (k + 1) = sumTo f l k + f l[k] := by
  unfold sumTo
  rw [take_snoc l k h, List.map_append, List.sum_append]
  rfl
theorem sumTo_all {α : Type} (f : α → Nat) (l : List α) : sumTo f l l.length = (l.map f).sum := by simp [sumTo]

set_option maxRecDepth 100000 in
set_option maxHeartbeats 2000000 in
theorem tables_any (cs : List Value) (n : NetD) (w : World) (hn : netE w cs n) :
    Calls Tryz.prog 25 #[.agg cs.toArray] w fun e w' => Tells (tablesOk n) e ∧ Below w.heap.size w w' := by
  have HN := Lib.hid hn
  obtain ⟨vp, vt, vg, rfl, -, -, ht, -⟩ := hn
  obtain ⟨at_, ct, rfl, -, ht⟩ := ht
  have hlt_ := ht.1
  have HT := Lib.hid ht
  clear ht
  have HZ : Hid (∀ t, Boxes w (w.alloc (.cells #[.int .i64 n.bits, vp, .slice at_ n.tables.length ct, vg] t)) [[.int .i64 n.bits, vp, .slice at_ n.tables.length ct, vg]]) := fun t => Boxes.one w _ t
  go_enter Tryz.func25, Tryz.ntmps25
  go_wp2
  go_loopw [3, 4, 5, 6, 7] (fun en b _ _ _ wr => ∃ (k E : Nat), k ≤ n.tables.length ∧ b = .int .i64 k ∧ en = .int .i64 E ∧ E ≤ k * 1048576 ∧ Hid (E = sumTo List.length n.tables k) ∧
    Hid (∀ b (hb : b < n.tables.length), b < k → cubesOf n.tables[b] ≤ 512 ∧ ∀ i (hi : i < n.tables[b].length), entryOk n b n.tables[b][i]) ∧ Hid (Boxes w wr [[.int .i64 n.bits, vp, .slice at_ n.tables.length ct, vg]])) (fun _ b _ _ _ _ => n.tables.length - (intOf b).toNat)
  case atStart => exact ⟨0, 0, Nat.zero_le _, rfl, rfl, Nat.zero_le _, (sumTo_zero _ _).symm, fun j _ h => absurd h (by omega), HZ.out _⟩
  case round =>
    obtain ⟨k, E, hk, rfl, rfl, hE, hsum, hq, hz⟩ := hrel
    have c2 := hz.out.cell 0 2 _ _ rfl rfl
    simp only [Nat.add_zero] at c2
    by_cases hlt : k < n.tables.length
    · obtain ⟨b, o, v, rfl, hcell, hent⟩ := tables_at HT.out hlt
      obtain ⟨ae, ce, rfl, -, hent⟩ := hent
      have hlen := hent.1
      have HE := Lib.hid hent
      clear hent
      have hcell' := hz.out.keeps _ _ hcell
      obtain ⟨wo, rfl⟩ : ∃ wo : World, wo = wr := ⟨_, rfl⟩
      go_wp2
      go_loopw [3, 5, 6, 7] (fun en al i _ wr => ∃ (m A : Nat), m ≤ n.tables[k].length ∧ i = .int .i64 m ∧ en = .int .i64 ((E + m : Nat) : Int) ∧ al = .int .i64 A ∧ A ≤ m * 1048576 ∧ Hid (A = sumTo (fun e => e.cubes.length) n.tables[k] m) ∧
        Hid (∀ i (hi : i < n.tables[k].length), i < m → entryOk n k n.tables[k][i]) ∧ Hid (Boxes w wr [[.int .i64 n.bits, vp, .slice (some ⟨b, o, none⟩) n.tables.length ct, vg]])) (fun _ _ i _ _ => n.tables[k].length - (intOf i).toNat)
      case atStart => exact ⟨0, 0, Nat.zero_le _, rfl, rfl, rfl, Nat.zero_le _, (sumTo_zero _ _).symm, fun j _ h => absurd h (by omega), hz⟩
      case round =>
        clear hz c2 hcell'
        obtain ⟨m, A, hm, rfl, rfl, rfl, hA, hsumA, hqm, hz⟩ := hrel
        have n0 := hz.out.cell 0 0 _ _ rfl rfl
        have n1 := hz.out.cell 0 1 _ _ rfl rfl
        have n2 := hz.out.cell 0 2 _ _ rfl rfl
        have n3 := hz.out.cell 0 3 _ _ rfl rfl
        simp only [Nat.add_zero] at n0 n1 n2 n3
        have hcell' := hz.out.keeps _ _ hcell
        by_cases hltm : m < n.tables[k].length
        · obtain ⟨b2, o2, vi, vc, vo, rfl, e0, e1, e2, e3, e4, hs0, hs1, hvi, hvc, hvo⟩ := entries_at HE.out hltm
          have hxe : entryE w [.string n.tables[k][m].name, vi, vc, .string n.tables[k][m].write, vo] n.tables[k][m] := ⟨vi, vc, vo, rfl, hs0, hs1, hvi, hvc, hvo⟩
          obtain ⟨ac, cc, rfl, -, hvc⟩ := hvc
          have hcl := hvc.1
          clear hvi hvc hvo hs0 hs1
          have HX := Lib.hid hxe
          clear hxe
          have f0 := hz.out.keeps _ _ e0
          have f1 := hz.out.keeps _ _ e1
          have f2 := hz.out.keeps _ _ e2
          have f3 := hz.out.keeps _ _ e3
          have f4 := hz.out.keeps _ _ e4
          go_wp2
          go_still_tail 10, (by kernel_rfl)
          change wpList _ _ _ _ _ wr.drew
          have hz2 := Lib.hid (hz.out.quiet (w' := wr.drew) ⟨1, rfl⟩)
          generalize wr.drew = w2 at hz2 ⊢
          have hs := Lib.hid (entry_any [.int .i64 n.bits, vp, .slice (some ⟨b, o, none⟩) n.tables.length ct, vg] _ n k n.tables[k][m] w2 (netE_keep hz2.out.keeps _ _ HN.out) (entryE_keep hz2.out.keeps _ _ HX.out))
          go_wp2_with fail
          refine hs.out.mono ?_
          rintro e w3 ⟨ht, hb3⟩
          have hz3 := Lib.hid (hz2.out.next hb3)
          clear hs hb3 hz2 f0 f1 f2 f3 f4 n0 n1 n2 n3 hcell' hz
          have g2 := hz3.out.cell 0 2 _ _ rfl rfl
          simp only [Nat.add_zero] at g2
          have g3 := hz3.out.keeps _ _ hcell
          have g4 := hz3.out.keeps _ _ e2
          rcases ht.cases with ⟨rfl, hok⟩ | ⟨rfl, hok⟩
          · have HQ : Hid (∀ i (hi : i < n.tables[k].length), i < m + 1 → entryOk n k n.tables[k][i]) := by
              intro i hi him
              by_cases e : i = m
              · subst e; exact hok
              · exact hqm.out i hi (by omega)
            have HS : Hid (A + n.tables[k][m].cubes.length = sumTo (fun e => e.cubes.length) n.tables[k] (m + 1)) := by rw [sumTo_succ _ _ _ hltm, hsumA.out]; rfl
            clear hok
            go_wp2
            go_roundw
            case rel => exact ⟨m + 1, A + n.tables[k][m].cubes.length, by omega, by go_num, by go_num, by go_num, by omega, HS, HQ, hz3⟩
            case measure => simp [intOf]; omega
          · have HF : Hid (¬ tablesOk n) := fun h => hok ((h.1 k hlt).2 m hltm)
            clear hok
            go_wp2
            go_ret
            exact ⟨.no HF.out, hz3.out.2.1⟩
        · obtain rfl : m = n.tables[k].length := by omega
          have HA : Hid (A = cubesOf n.tables[k]) := by rw [hsumA.out, sumTo_all]; rfl
          by_cases h512 : 512 < A
          · have HF : Hid (¬ tablesOk n) := fun h => by have := (h.1 k hlt).1; rw [← HA.out] at this; omega
            go_wp2
            go_ret
            exact ⟨.no HF.out, hz.out.2.1⟩
          · have HQ : Hid (∀ b (hb : b < n.tables.length), b < k + 1 → cubesOf n.tables[b] ≤ 512 ∧ ∀ i (hi : i < n.tables[b].length), entryOk n b n.tables[b][i]) := by
              intro j hj hjk
              by_cases e : j = k
              · subst e; exact ⟨by rw [← HA.out]; omega, fun i hi => hqm.out i hi hi⟩
              · exact hq.out j hj (by omega)
            have HS : Hid (E + n.tables[k].length = sumTo List.length n.tables (k + 1)) := by rw [sumTo_succ _ _ _ hlt, hsum.out]; rfl
            go_wp2
            go_roundw
            case rel => exact ⟨k + 1, E + n.tables[k].length, by omega, by go_num, by go_num, by omega, HS, HQ, hz⟩
            case measure => simp [intOf]; omega
    · obtain rfl : k = n.tables.length := by omega
      have HS : Hid (E = (n.tables.map List.length).sum) := by rw [hsum.out, sumTo_all]; rfl
      have HQ := Lib.hid (fun b (hb : b < n.tables.length) => hq.out b hb hb)
      go_wp2
      go_ret
      refine ⟨.of ?_, hz.out.2.1⟩
      have := HS.out
      have HQ' := HQ.out
      simp only [decide_eq_true_eq]
      exact ⟨fun h => ⟨HQ', by omega⟩, fun h => by have := h.2; omega⟩

set_option maxRecDepth 100000 in
set_option maxHeartbeats 2000000 in
theorem guards_any (cs : List Value) (n : NetD) (w : World) (hn : netE w cs n) :
    Calls Tryz.prog 24 #[.agg cs.toArray] w fun e w' => Tells (guardsOk n) e ∧ Below w.heap.size w w' := by
  obtain ⟨vp, vt, vg, rfl, hbits, -, -, ht⟩ := hn
  have HB := Lib.hid hbits
  clear hbits
  obtain ⟨ag, cg, rfl, -, ht⟩ := ht
  have hlt_ := ht.1
  have HT := Lib.hid ht
  clear ht
  have HZ : Hid (∀ t, Boxes w (w.alloc (.cells #[.int .i64 n.bits, vp, vt, .slice ag n.guards.length cg] t)) [[.int .i64 n.bits, vp, vt, .slice ag n.guards.length cg]]) := fun t => Boxes.one w _ t
  go_enter Tryz.func24, Tryz.ntmps24
  go_wp2
  go_loopw [3, 4, 5, 6, 7, 8] (fun en b _ _ _ _ wr => ∃ (k E : Nat), k ≤ n.guards.length ∧ b = .int .i64 k ∧ en = .int .i64 E ∧ E ≤ k * 1048576 ∧ Hid (E = sumTo List.length n.guards k) ∧
    Hid (∀ b (hb : b < n.guards.length), b < k → cubesOfG n.guards[b] ≤ 512 ∧ ∀ i (hi : i < n.guards[b].length), cubesOk n.bits n.guards[b][i].cubes 64) ∧ Hid (Boxes w wr [[.int .i64 n.bits, vp, vt, .slice ag n.guards.length cg]])) (fun _ b _ _ _ _ _ => n.guards.length - (intOf b).toNat)
  case atStart => exact ⟨0, 0, Nat.zero_le _, rfl, rfl, Nat.zero_le _, (sumTo_zero _ _).symm, fun j _ h => absurd h (by omega), HZ.out _⟩
  case round =>
    obtain ⟨k, E, hk, rfl, rfl, hE, hsum, hq, hz⟩ := hrel
    have c3 := hz.out.cell 0 3 _ _ rfl rfl
    simp only [Nat.add_zero] at c3
    by_cases hlt : k < n.guards.length
    · obtain ⟨b, o, v, rfl, hcell, hent⟩ := guardss_at HT.out hlt
      obtain ⟨ae, ce, rfl, -, hent⟩ := hent
      have hlen := hent.1
      have HE := Lib.hid hent
      clear hent
      have hcell' := hz.out.keeps _ _ hcell
      obtain ⟨wo, rfl⟩ : ∃ wo : World, wo = wr := ⟨_, rfl⟩
      go_wp2
      go_loopw [3, 5, 6, 7, 8] (fun en al i _ _ wr => ∃ (m A : Nat), m ≤ n.guards[k].length ∧ i = .int .i64 m ∧ en = .int .i64 ((E + m : Nat) : Int) ∧ al = .int .i64 A ∧ A ≤ m * 1048576 ∧ Hid (A = sumTo (fun e => e.cubes.length) n.guards[k] m) ∧
        Hid (∀ i (hi : i < n.guards[k].length), i < m → cubesOk n.bits n.guards[k][i].cubes 64) ∧ Hid (Boxes w wr [[.int .i64 n.bits, vp, vt, .slice (some ⟨b, o, none⟩) n.guards.length cg]])) (fun _ _ i _ _ _ => n.guards[k].length - (intOf i).toNat)
      case atStart => exact ⟨0, 0, Nat.zero_le _, rfl, rfl, rfl, Nat.zero_le _, (sumTo_zero _ _).symm, fun j _ h => absurd h (by omega), hz⟩
      case round =>
        clear hz c3 hcell'
        obtain ⟨m, A, hm, rfl, rfl, rfl, hA, hsumA, hqm, hz⟩ := hrel
        have n0 := hz.out.cell 0 0 _ _ rfl rfl
        have n3 := hz.out.cell 0 3 _ _ rfl rfl
        simp only [Nat.add_zero] at n0 n3
        have hcell' := hz.out.keeps _ _ hcell
        by_cases hltm : m < n.guards[k].length
        · obtain ⟨b2, o2, vc, rfl, e0, e1, hvc⟩ := guards_at HE.out hltm
          have HVC := Lib.hid hvc
          obtain ⟨ac, cc, rfl, -, hvc⟩ := hvc
          have hcl := hvc.1
          clear hvc
          have f0 := hz.out.keeps _ _ e0
          have f1 := hz.out.keeps _ _ e1
          have hsz : w.heap.size < wr.heap.size := by have := hz.out.2.2; simp at this; omega
          have n0' := (Keeps.alloc wr (.cells #[.bool n.guards[k][m].permit, .slice ac n.guards[k][m].cubes.length cc] 50)) _ _ n0
          go_wp2_with fail
          have hz3 := Lib.hid (hz.out.next ((Below.refl _ wr).alloc (Nat.le_refl _) (.cells #[.bool n.guards[k][m].permit, .slice ac n.guards[k][m].cubes.length cc] 50)))
          have hs := Lib.hid (cubes_any n.bits 64 _ n.guards[k][m].cubes _ HB.out (strs_keep hz3.out.keeps HVC.out))
          refine hs.out.mono ?_
          rintro e w3 ⟨ht, rfl⟩
          clear hs
          rcases ht.cases with ⟨rfl, hok⟩ | ⟨rfl, hok⟩
          · have HQ : Hid (∀ i (hi : i < n.guards[k].length), i < m + 1 → cubesOk n.bits n.guards[k][i].cubes 64) := by
              intro i hi him
              by_cases e : i = m
              · subst e; exact hok
              · exact hqm.out i hi (by omega)
            have HS : Hid (A + n.guards[k][m].cubes.length = sumTo (fun e => e.cubes.length) n.guards[k] (m + 1)) := by rw [sumTo_succ _ _ _ hltm, hsumA.out]; rfl
            clear hok
            go_wp2
            go_roundw
            case rel => exact ⟨m + 1, A + n.guards[k][m].cubes.length, by omega, by go_num, by go_num, by go_num, by omega, HS, HQ, hz3⟩
            case measure => simp [intOf]; omega
          · have HF : Hid (¬ guardsOk n) := fun h => hok ((h.1 k hlt).2 m hltm)
            clear hok
            go_wp2
            go_ret
            exact ⟨.no HF.out, hz3.out.2.1⟩
        · obtain rfl : m = n.guards[k].length := by omega
          have HA : Hid (A = cubesOfG n.guards[k]) := by rw [hsumA.out, sumTo_all]; rfl
          by_cases h512 : 512 < A
          · have HF : Hid (¬ guardsOk n) := fun h => by have := (h.1 k hlt).1; rw [← HA.out] at this; omega
            go_wp2
            go_ret
            exact ⟨.no HF.out, hz.out.2.1⟩
          · have HQ : Hid (∀ b (hb : b < n.guards.length), b < k + 1 → cubesOfG n.guards[b] ≤ 512 ∧ ∀ i (hi : i < n.guards[b].length), cubesOk n.bits n.guards[b][i].cubes 64) := by
              intro j hj hjk
              by_cases e : j = k
              · subst e; exact ⟨by rw [← HA.out]; omega, fun i hi => hqm.out i hi hi⟩
              · exact hq.out j hj (by omega)
            have HS : Hid (E + n.guards[k].length = sumTo List.length n.guards (k + 1)) := by rw [sumTo_succ _ _ _ hlt, hsum.out]; rfl
            go_wp2
            go_roundw
            case rel => exact ⟨k + 1, E + n.guards[k].length, by omega, by go_num, by go_num, by omega, HS, HQ, hz⟩
            case measure => simp [intOf]; omega
    · obtain rfl : k = n.guards.length := by omega
      have HS : Hid (E = (n.guards.map List.length).sum) := by rw [hsum.out, sumTo_all]; rfl
      have HQ := Lib.hid (fun b (hb : b < n.guards.length) => hq.out b hb hb)
      go_wp2
      go_ret
      refine ⟨.of ?_, hz.out.2.1⟩
      have := HS.out
      have HQ' := HQ.out
      simp only [decide_eq_true_eq]
      exact ⟨fun h => ⟨HQ', by omega⟩, fun h => by have := h.2; omega⟩
end Go.Proofs.YtbklijcdmiffaaaGreatDoor
