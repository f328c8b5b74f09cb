/-
  One entry of the reference: what the call answers.
-/
import Derived.Test.YtbklijcdmiffaaaGreatDoorProg
import Derived.Test.YtbklijcdmiffaaaGreatDoorBase
import Derived.Test.YtbklijcdmiffaaaGreatDoorRefC
import Derived.StillTailTactics
import Derived.WalkKit
import Derived.WalkSpells
import Derived.WalkLawsBesides
import Derived.Deep.QuietTactic
import Derived.BigQuiet
import Derived.Lib.Hide
import Derived.Deep.LoopGhost
namespace Go.Proofs.YtbklijcdmiffaaaGreatDoor
open Go.RowKit

set_option maxRecDepth 100000 in
set_option maxHeartbeats 2000000 in
theorem entry_any (cs es : List Value) (n : NetD) (box : Int) (x : EntryD) (w : World) (hn : netE w cs n) (hx : entryE w es x) :
    Calls Tryz.prog 33 #[.agg cs.toArray, .int .i64 box, .agg es.toArray] w fun e w' => Tells (entryOk n box x) e ∧ Below w.heap.size w w' := by
  have HN := Lib.hid hn
  obtain ⟨vp, vt, vg, rfl, hbits, -, -, -⟩ := hn
  obtain ⟨vi, vc, vo, rfl, hnm, hwr, hi, hc, ho⟩ := hx
  have HC := Lib.hid hc
  obtain ⟨ai, ci, rfl, -, hi⟩ := hi
  obtain ⟨ac, cc, rfl, -, -⟩ := hc
  obtain ⟨ao, co, rfl, -, ho⟩ := ho
  have hli := hi.1
  have hlo := ho.1
  have HI := Lib.hid hi
  have HO := Lib.hid ho
  have HB := Lib.hid hbits
  clear hi ho hbits
  have HZ : Hid (∀ t u, Boxes w ((w.alloc (.cells #[.int .i64 n.bits, vp, vt, vg] t)).alloc (.cells #[.string x.name, .slice ai x.ins.length ci, .slice ac x.cubes.length cc, .string x.write, .slice ao x.outs.length co] u))
      [[.int .i64 n.bits, vp, vt, vg], [.string x.name, .slice ai x.ins.length ci, .slice ac x.cubes.length cc, .string x.write, .slice ao x.outs.length co]]) := fun t u => Boxes.two w _ _ t u
  by_cases h1 : 256 < x.name.size
  · have HF : Hid (¬ entryOk n box x) := fun h => by have := h.1; omega
    go_enter Tryz.func33, Tryz.ntmps33
    go_wp2
    go_ret
    exact ⟨.no HF.out, (HZ.out _ _).2.1⟩
  by_cases h2 : 4 < x.outs.length
  · have HF : Hid (¬ entryOk n box x) := fun h => by have := h.2.1; omega
    go_enter Tryz.func33, Tryz.ntmps33
    go_wp2
    go_ret
    exact ⟨.no HF.out, (HZ.out _ _).2.1⟩
  go_enter Tryz.func33, Tryz.ntmps33
  go_wp2
  go_loopw [7, 8] (fun i _ wr => ∃ k : Nat, k ≤ x.ins.length ∧ i = .int .i64 k ∧ Hid (∀ j (h : j < x.ins.length), j < k → sideOk n.ports x.ins[j] box true ∧ (∀ h0 : 0 < j, x.ins[j - 1] < x.ins[j])) ∧
    Hid (Boxes w wr [[.int .i64 n.bits, vp, vt, vg], [.string x.name, .slice ai x.ins.length ci, .slice ac x.cubes.length cc, .string x.write, .slice ao x.outs.length co]])) (fun i _ _ => x.ins.length - (intOf i).toNat)
  case atStart => exact ⟨0, Nat.zero_le _, rfl, fun j _ h => absurd h (by omega), HZ.out _ _⟩
  case round =>
    obtain ⟨k, hk, rfl, hq, hz⟩ := hrel
    have c1 := hz.out.cell 1 1 _ _ rfl rfl
    by_cases hlt : k < x.ins.length
    · obtain ⟨b, o, rfl, hcell, hint⟩ := ints_at HI.out hlt
      have HINT := Lib.hid hint
      clear hint
      have hcell' := hz.out.keeps _ _ hcell
      have n0 := hz.out.cell 0 0 _ _ rfl rfl
      have n1 := hz.out.cell 0 1 _ _ rfl rfl
      have n2 := hz.out.cell 0 2 _ _ rfl rfl
      have n3 := hz.out.cell 0 3 _ _ rfl rfl
      simp only [Nat.add_zero] at n0 n1 n2 n3
      go_wp2
      go_still_tail 7, (by kernel_rfl)
      change wpList _ _ _ _ _ wr.drew
      have hz2 := Lib.hid (hz.out.quiet (w' := wr.drew) ⟨1, rfl⟩)
      generalize wr.drew = w2 at hz2 ⊢
      have hs := Lib.hid (side_any [.int .i64 n.bits, vp, vt, vg] n x.ins[k] box true w2 (netE_keep hz2.out.keeps _ _ HN.out) HINT.out)
      go_wp2_with fail
      refine hs.out.mono ?_
      rintro e w3 ⟨ht, hb3⟩
      have hz3 := Lib.hid (hz2.out.next hb3)
      clear hs hb3 hz2
      rcases ht.cases with ⟨rfl, hside⟩ | ⟨rfl, hside⟩
      · by_cases hk0 : 0 < k
        · obtain ⟨m, rfl⟩ : ∃ m, k = m + 1 := ⟨k - 1, by omega⟩
          have hlt1 : m < x.ins.length := by omega
          obtain ⟨b', o', hbo, hcellp, -⟩ := ints_at HI.out hlt1
          injection hbo with hbo
          injection hbo with e1 e2
          subst e1 e2
          have d1 := hz3.out.cell 1 1 _ _ rfl rfl
          have d2 := hz3.out.keeps _ _ hcell
          have d3 := hz3.out.keeps _ _ hcellp
          have hb : (0 : Int) < ((m + 1 : Nat) : Int) := by omega
          have hgt : decide ((0 : Int) < (m : Int) + 1) = true := decide_eq_true (by omega)
          by_cases hle : x.ins[m + 1] ≤ x.ins[m]
          · have HF : Hid (¬ entryOk n box x) := fun h => by
              have := (h.2.2.1 (m + 1) hlt).2 (by omega)
              simp only [Nat.add_sub_cancel] at this
              omega
            have hd : decide (x.ins[m + 1] ≤ x.ins[m]) = true := by simpa using hle
            clear hle hside
            go_wp2
            go_quiet (fail)
            go_wp2
            go_ret
            exact ⟨.no HF.out, below_drewN hz3.out.2.1 _⟩
          · have HQ : Hid (∀ j (h : j < x.ins.length), j < m + 1 + 1 → sideOk n.ports x.ins[j] box true ∧ (∀ h0 : 0 < j, x.ins[j - 1] < x.ins[j])) := by
              intro j h hj
              by_cases e : j = m + 1
              · subst e; exact ⟨hside, fun _ => by simp only [Nat.add_sub_cancel]; omega⟩
              · exact hq.out j h (by omega)
            have hd : decide (x.ins[m + 1] ≤ x.ins[m]) = false := by simpa using hle
            clear hle hside
            go_wp2
            go_quiet (fail)
            go_wp2
            go_roundw
            case rel => exact ⟨m + 1 + 1, by omega, by go_num, HQ, hz3.out.quiet ⟨_, rfl⟩⟩
            case measure => simp [intOf]; omega
        · obtain rfl : k = 0 := by omega
          have HQ : Hid (∀ j (h : j < x.ins.length), j < 0 + 1 → sideOk n.ports x.ins[j] box true ∧ (∀ h0 : 0 < j, x.ins[j - 1] < x.ins[j])) := by
            intro j h hj
            obtain rfl : j = 0 := by omega
            exact ⟨hside, fun h0 => absurd h0 (by omega)⟩
          clear hside
          go_wp2
          go_quiet (fail)
          go_wp2
          go_roundw
          case rel => exact ⟨0 + 1, by omega, by go_num, HQ, hz3.out.quiet ⟨_, rfl⟩⟩
          case measure => simp [intOf]; omega
      · have HF : Hid (¬ entryOk n box x) := fun h => hside (h.2.2.1 k hlt).1
        clear hside
        go_wp2
        go_quiet (fail)
        go_wp2
        go_ret
        exact ⟨.no HF.out, below_drewN hz3.out.2.1 _⟩
    · have HALL : Hid (∀ j (h : j < x.ins.length), sideOk n.ports x.ins[j] box true ∧ (∀ h0 : 0 < j, x.ins[j - 1] < x.ins[j])) := fun j h => hq.out j h (by omega)
      clear hq
      obtain ⟨wo, rfl⟩ : ∃ wo : World, wo = wr := ⟨_, rfl⟩
      go_wp2
      go_loopw [9, 10, 11] (fun i _ _ wr => ∃ k : Nat, k ≤ x.outs.length ∧ i = .int .i64 k ∧ Hid (∀ j (h : j < x.outs.length), j < k → sideOk n.ports x.outs[j] box false ∧ ∀ m (hm : m < j), x.outs[m] ≠ x.outs[j]) ∧
        Hid (Boxes w wr [[.int .i64 n.bits, vp, vt, vg], [.string x.name, .slice ai x.ins.length ci, .slice ac x.cubes.length cc, .string x.write, .slice ao x.outs.length co]])) (fun i _ _ _ => x.outs.length - (intOf i).toNat)
      case atStart => exact ⟨0, Nat.zero_le _, rfl, fun j _ h => absurd h (by omega), hz⟩
      case round =>
        clear hz
        obtain ⟨k2, hk2, rfl, hq, hz⟩ := hrel
        have c4 := hz.out.cell 1 4 _ _ rfl rfl
        by_cases hlt2 : k2 < x.outs.length
        · obtain ⟨b, o, rfl, hcell, hint⟩ := ints_at HO.out hlt2
          have HINT := Lib.hid hint
          clear hint
          have hcell' := hz.out.keeps _ _ hcell
          have n0 := hz.out.cell 0 0 _ _ rfl rfl
          have n1 := hz.out.cell 0 1 _ _ rfl rfl
          have n2 := hz.out.cell 0 2 _ _ rfl rfl
          have n3 := hz.out.cell 0 3 _ _ rfl rfl
          simp only [Nat.add_zero] at n0 n1 n2 n3
          go_wp2
          go_still_tail 7, (by kernel_rfl)
          change wpList _ _ _ _ _ wr.drew
          have hz2 := Lib.hid (hz.out.quiet (w' := wr.drew) ⟨1, rfl⟩)
          generalize wr.drew = w2 at hz2 ⊢
          have hs := Lib.hid (side_any [.int .i64 n.bits, vp, vt, vg] n x.outs[k2] box false w2 (netE_keep hz2.out.keeps _ _ HN.out) HINT.out)
          go_wp2_with fail
          refine hs.out.mono ?_
          rintro e w3 ⟨ht, hb3⟩
          have hz3 := Lib.hid (hz2.out.next hb3)
          clear hs hb3 hz2
          rcases ht.cases with ⟨rfl, hside⟩ | ⟨rfl, hside⟩
          · have HS := Lib.hid hside
            clear hside ht
            go_wp2
            obtain ⟨wq, rfl⟩ : ∃ wq : World, wq = wr := ⟨_, rfl⟩
            go_loopw [11] (fun i wr => ∃ m : Nat, m ≤ k2 ∧ i = .int .i64 m ∧ Hid (∀ j (hj : j < x.outs.length), j < m → x.outs[j] ≠ x.outs[k2]) ∧
              Hid (Boxes w wr [[.int .i64 n.bits, vp, vt, vg], [.string x.name, .slice ai x.ins.length ci, .slice ac x.cubes.length cc, .string x.write, .slice (some ⟨b, o, none⟩) x.outs.length co]])) (fun i _ => k2 - (intOf i).toNat)
            case atStart => exact ⟨0, Nat.zero_le _, rfl, fun j _ h => absurd h (by omega), hz3⟩
            case round =>
              clear hz3 c4 hcell' n0 n1 n2 n3 hz
              obtain ⟨m, hm, rfl, hqm, hz⟩ := hrel
              by_cases hmk : m < k2
              · have hlt3 : m < x.outs.length := by omega
                obtain ⟨b', o', hbo, hcellm, -⟩ := ints_at HO.out hlt3
                injection hbo with hbo
                injection hbo with e1 e2
                subst e1 e2
                have d1 := hz.out.cell 1 4 _ _ rfl rfl
                have d2 := hz.out.keeps _ _ hcell
                have d3 := hz.out.keeps _ _ hcellm
                by_cases he : x.outs[m] = x.outs[k2]
                · have HF : Hid (¬ entryOk n box x) := fun h => (h.2.2.2.1 k2 hlt2).2 m hmk he
                  have hd : (x.outs[k2] == x.outs[m]) = true := by simp [he]
                  have hd' : (x.outs[m] == x.outs[k2]) = true := by simp [he]
                  clear he
                  go_wp2
                  go_quiet (fail)
                  go_wp2
                  go_ret
                  exact ⟨.no HF.out, below_drewN hz.out.2.1 _⟩
                · have HQ : Hid (∀ j (hj : j < x.outs.length), j < m + 1 → x.outs[j] ≠ x.outs[k2]) := by
                    intro j hj h
                    by_cases e : j = m
                    · subst e; exact he
                    · exact hqm.out j hj (by omega)
                  have hd : (x.outs[k2] == x.outs[m]) = false := by simpa using fun e => he e.symm
                  have hd' : (x.outs[m] == x.outs[k2]) = false := by simpa using he
                  clear he
                  go_wp2
                  go_quiet (fail)
                  go_wp2
                  go_roundw
                  case rel => exact ⟨m + 1, by omega, by go_num, HQ, hz.out.quiet ⟨_, rfl⟩⟩
                  case measure => simp [intOf]; omega
              · have HQ : Hid (∀ j (h : j < x.outs.length), j < k2 + 1 → sideOk n.ports x.outs[j] box false ∧ ∀ m (hm : m < j), x.outs[m] ≠ x.outs[j]) := by
                  intro j h hj
                  by_cases e : j = k2
                  · subst e; exact ⟨HS.out, fun q hq => hqm.out q (by omega) (by omega)⟩
                  · exact hq.out j h (by omega)
                go_wp2
                go_roundw
                case rel => exact ⟨k2 + 1, by omega, by go_num, HQ, hz⟩
                case measure => simp [intOf]; omega
          · have HF : Hid (¬ entryOk n box x) := fun h => hside (h.2.2.2.1 k2 hlt2).1
            clear hside
            go_wp2
            go_ret
            exact ⟨.no HF.out, hz3.out.2.1⟩
        · have HALL2 : Hid (∀ j (h : j < x.outs.length), sideOk n.ports x.outs[j] box false ∧ ∀ m (hm : m < j), x.outs[m] ≠ x.outs[j]) := fun j h => hq.out j h (by omega)
          clear hq
          have n0 := hz.out.cell 0 0 _ _ rfl rfl
          have d2 := hz.out.cell 1 2 _ _ rfl rfl
          have d3 := hz.out.cell 1 3 _ _ rfl rfl
          simp only [Nat.add_zero] at n0
          go_wp2_with fail
          have hsw : Sl 1 strE (wr.alloc (.cells #[.string x.write] 9)) (.slice (some ⟨wr.heap.size, 0, none⟩) 1 1) [x.write] := by
            refine ⟨_, _, rfl, Nat.le_refl _, by simp, fun i y hi => ?_⟩
            cases i with
            | zero =>
              simp at hi
              subst hi
              refine ⟨_, _, [.string x.write], rfl, rfl, ⟨rfl, hwr⟩, fun j u hu => ?_⟩
              have := At.new wr [.string x.write] 9 j u hu
              simpa using this
            | succ i => simp at hi
          have hbw : Below wr.heap.size wr (wr.alloc (.cells #[.string x.write] 9)) := (Below.refl _ _).alloc (Nat.le_refl _) _
          have HC1 := Lib.hid (cubes_any n.bits 1 _ [x.write] _ HB.out hsw)
          have hz4 := Lib.hid (hz.out.next hbw)
          clear hsw hbw
          refine HC1.out.mono ?_
          rintro e w5 ⟨ht, rfl⟩
          have m0 := hz4.out.cell 0 0 _ _ rfl rfl
          have m2 := hz4.out.cell 1 2 _ _ rfl rfl
          simp only [Nat.add_zero] at m0
          rcases ht.cases with ⟨rfl, hcw⟩ | ⟨rfl, hcw⟩
          · have HCW := Lib.hid hcw
            clear hcw
            have HC2 := Lib.hid (cubes_any n.bits 64 _ x.cubes _ HB.out (strs_keep hz4.out.keeps HC.out))
            go_wp2_with fail
            refine HC2.out.mono ?_
            rintro e w6 ⟨ht, rfl⟩
            rcases ht.cases with ⟨rfl, hcc⟩ | ⟨rfl, hcc⟩
            · have HY : Hid (entryOk n box x) := ⟨by omega, by omega, HALL.out, HALL2.out, HCW.out, hcc⟩
              clear hcc
              go_wp2
              go_ret
              exact ⟨.yes HY.out, hz4.out.2.1⟩
            · have HF : Hid (¬ entryOk n box x) := fun h => hcc h.2.2.2.2.2
              clear hcc
              go_wp2
              go_ret
              exact ⟨.no HF.out, hz4.out.2.1⟩
          · have HF : Hid (¬ entryOk n box x) := fun h => hcw h.2.2.2.2.1
            clear hcw
            go_wp2
            go_ret
            exact ⟨.no HF.out, hz4.out.2.1⟩
end Go.Proofs.YtbklijcdmiffaaaGreatDoor
