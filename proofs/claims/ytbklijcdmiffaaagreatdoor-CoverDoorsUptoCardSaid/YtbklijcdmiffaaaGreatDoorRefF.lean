/-
  The ports of the reference, and its question whether numbers are a network.
-/
import Derived.Test.YtbklijcdmiffaaaGreatDoorProg
import Derived.Test.YtbklijcdmiffaaaGreatDoorBase
import Derived.Test.YtbklijcdmiffaaaGreatDoorRefE
import Derived.StillTailTactics
import Derived.WalkKit
import Derived.WalkSpells
import Derived.WalkLawsBesides
import Derived.Deep.QuietTactic
import Derived.BigQuiet
import Derived.Lib.Hide
import Derived.Deep.LoopGhost
namespace Go.Proofs.YtbklijcdmiffaaaGreatDoor
open Go.RowKit

set_option maxRecDepth 100000 in
set_option maxHeartbeats 4000000 in
theorem ports_any (cs : List Value) (n : NetD) (w : World) (hn : netE w cs n) :
    Calls Tryz.prog 23 #[.agg cs.toArray] w fun e w' => Tells (portsOk n) e ∧ Below w.heap.size w w' := by
  obtain ⟨vp, vt, vg, rfl, -, hp, ht, -⟩ := hn
  obtain ⟨ap, cp, rfl, -, hp⟩ := hp
  obtain ⟨at_, ct, rfl, -, ht⟩ := ht
  have hlt_ := ht.1
  have hlp_ := hp.1
  have HP := Lib.hid hp
  clear ht hp
  have HZ : Hid (∀ t, Boxes w (w.alloc (.cells #[.int .i64 n.bits, .slice ap n.ports.length cp, .slice at_ n.tables.length ct, vg] t)) [[.int .i64 n.bits, .slice ap n.ports.length cp, .slice at_ n.tables.length ct, vg]]) := fun t => Boxes.one w _ t
  go_enter Tryz.func23, Tryz.ntmps23
  go_wp2
  go_loopw [3, 4, 5, 6] (fun i _ _ _ wr => ∃ (k : Nat), k ≤ n.ports.length ∧ i = .int .i64 k ∧
    Hid (∀ i (h : i < n.ports.length), i < k → portOk n i n.ports[i]) ∧ Hid (Boxes w wr [[.int .i64 n.bits, .slice ap n.ports.length cp, .slice at_ n.tables.length ct, vg]])) (fun i _ _ _ _ => n.ports.length - (intOf i).toNat)
  case atStart => exact ⟨0, Nat.zero_le _, rfl, fun j _ h => absurd h (by omega), HZ.out _⟩
  case round =>
    obtain ⟨k, hk, rfl, hq, hz⟩ := hrel
    have c1 := hz.out.cell 0 1 _ _ rfl rfl
    have c2 := hz.out.cell 0 2 _ _ rfl rfl
    simp only [Nat.add_zero] at c1 c2
    by_cases hlt : k < n.ports.length
    · obtain ⟨b, o, rfl, e0, e1, e2, e3, hs0, hi1, hi2⟩ := ports_at HP.out hlt
      have HI1 := Lib.hid hi1
      have HI2 := Lib.hid hi2
      clear hi1 hi2
      have f0 := hz.out.keeps _ _ e0
      have f1 := hz.out.keeps _ _ e1
      have f2 := hz.out.keeps _ _ e2
      have f3 := hz.out.keeps _ _ e3
      have E0 := Lib.hid e0
      clear e0 e1 e2 e3
      generalize hin : n.ports[k].inn = bi at *
      generalize hto : n.ports[k].to = ti at *
      have HIN := Lib.hid hin
      have HTO := Lib.hid hto
      clear hin hto
      have hzo := Lib.hid (hz.out.next ((Below.refl _ wr).alloc (Nat.le_refl _) (.cells [.string n.ports[k].name, .int .i64 n.ports[k].box, .bool bi, .int .i64 ti].toArray 32)))
      have hat := Lib.hid (At.new wr [.string n.ports[k].name, .int .i64 n.ports[k].box, .bool bi, .int .i64 ti] 32)
      have g1 := hzo.out.cell 0 1 _ _ rfl rfl
      have g2 := hzo.out.cell 0 2 _ _ rfl rfl
      simp only [Nat.add_zero, List.toArray] at g1 g2
      go_wp2_with fail
      have hs := Lib.hid (full_any n.ports[k].name (wr.alloc (.cells #[.string n.ports[k].name, .int .i64 n.ports[k].box, .bool bi, .int .i64 ti] 32)) hs0)
      refine hs.out.mono ?_
      rintro e w3 ⟨ht, rfl⟩
      clear hs
      rcases ht.cases with ⟨rfl, hok⟩ | ⟨rfl, hok⟩
      · by_cases hbad : n.ports[k].box < 0 ∨ (n.tables.length : Int) ≤ n.ports[k].box ∨ ti < -1 ∨ (n.ports.length : Int) ≤ ti
        · have HF : Hid (¬ portsOk n) := fun h => by
            obtain ⟨-, h1, h2, h3, h4, -⟩ := h k hlt
            rw [HTO.out] at h3 h4
            omega
          clear hok
          have hbad' : n.ports[k].box < 0 ∨ (0 ≤ n.ports[k].box ∧ (n.tables.length : Int) ≤ n.ports[k].box) ∨ (0 ≤ n.ports[k].box ∧ n.ports[k].box < (n.tables.length : Int) ∧ ti < -1) ∨
            (0 ≤ n.ports[k].box ∧ n.ports[k].box < (n.tables.length : Int) ∧ -1 ≤ ti ∧ (n.ports.length : Int) ≤ ti) := by omega
          clear hbad
          rcases hbad' with h | ⟨h, h'⟩ | ⟨h, h', h''⟩ | ⟨h, h', h'', h3⟩
          all_goals
            go_wp2
            go_ret
            exact ⟨.no HF.out, hzo.out.2.1⟩
        · have HK := Lib.hid hok
          clear hok
          have hb1 : 0 ≤ n.ports[k].box := by omega
          have hb2 : n.ports[k].box < (n.tables.length : Int) := by omega
          have hb3 : -1 ≤ ti := by omega
          have hb4 : ti < (n.ports.length : Int) := by omega
          clear hbad
          have HB : Hid (0 ≤ n.ports[k].box ∧ n.ports[k].box < n.tables.length ∧ -1 ≤ ti ∧ ti < n.ports.length) := ⟨hb1, hb2, hb3, hb4⟩
          rcases (by omega : ti < 0 ∨ 0 ≤ ti) with h | h
          · have HPK : Hid (0 ≤ ti → bi = false ∧ ∀ h : ti.toNat < n.ports.length, n.ports[ti.toNat].inn = true) := fun h0 => absurd h (by omega)
            go_wp2
            obtain ⟨wo, rfl⟩ : ∃ wo : World, wo = wr := ⟨_, rfl⟩
            go_loopw [6] (fun i wr => ∃ (m : Nat), m ≤ k ∧ i = .int .i64 m ∧ Hid (∀ j (h : j < n.ports.length), j < m → n.ports[j].name ≠ n.ports[k].name) ∧ Hid (Boxes w wr [[.int .i64 n.bits, .slice (some ⟨b, o, none⟩) n.ports.length cp, .slice at_ n.tables.length ct, vg]]) ∧ Hid (At wr wo.heap.size [.string n.ports[k].name, .int .i64 n.ports[k].box, .bool bi, .int .i64 ti])) (fun i _ => k - (intOf i).toNat)
            case atStart => exact ⟨0, Nat.zero_le _, rfl, fun j _ h => absurd h (by omega), hzo, hat⟩
            case round =>
              clear hzo hat c1 c2 g1 g2 hz f0 f1 f2 f3
              obtain ⟨m, hm, rfl, hqm, hz, hat⟩ := hrel
              by_cases hmk : m < k
              · have hml : m < n.ports.length := by omega
                obtain ⟨b', o', hbo, em, -⟩ := ports_at HP.out hml
                injection hbo with hbo
                injection hbo with x1 x2
                subst x1 x2
                have d1 := hz.out.cell 0 1 _ _ rfl rfl
                simp only [Nat.add_zero] at d1
                have d2 := hz.out.keeps _ _ em
                have d3 := hat.out 0 _ rfl
                by_cases he : n.ports[m].name = n.ports[k].name
                · have he' := str_same he
                  have HF : Hid (¬ portsOk n) := fun hp => (hp k hlt).2.2.2.2.2.2 m hmk hml he
                  clear he
                  go_wp2
                  go_quiet (fail)
                  go_wp2
                  go_ret
                  exact ⟨.no HF.out, below_drewN hz.out.2.1 _⟩
                · have he' := str_other he
                  have HQ : Hid (∀ j (h : j < n.ports.length), j < m + 1 → n.ports[j].name ≠ n.ports[k].name) := by
                    intro j h hj
                    by_cases e : j = m
                    · subst e; exact he
                    · exact hqm.out j h (by omega)
                  clear he
                  go_wp2
                  go_quiet (fail)
                  go_wp2
                  go_roundw
                  case rel => exact ⟨m + 1, by omega, by go_num, HQ, hz.out.quiet ⟨_, rfl⟩, hat⟩
                  case measure => simp [intOf]; omega
              · have HQ : Hid (∀ i (h : i < n.ports.length), i < k + 1 → portOk n i n.ports[i]) := by
                  intro i h hi
                  by_cases e : i = k
                  · subst e; refine ⟨HK.out, HB.out.1, HB.out.2.1, by rw [HTO.out]; exact HB.out.2.2.1, by rw [HTO.out]; exact HB.out.2.2.2, by simpa only [HTO.out, HIN.out] using HPK.out, fun j hj hjl => hqm.out j hjl (by omega)⟩
                  · exact hq.out i h (by omega)
                go_wp2
                go_roundw
                case rel => exact ⟨k + 1, by omega, by go_num, HQ, hz⟩
                case measure => simp [intOf]; omega
          · have hql : ti.toNat < n.ports.length := by omega
            obtain ⟨b', o', hbo, -, -, e2', -⟩ := ports_at HP.out hql
            injection hbo with hbo
            injection hbo with x1 x2
            subst x1 x2
            have f2' := hzo.out.keeps _ _ e2'
            simp only [List.toArray] at f2'
            cases bi with
            | true =>
              have HF : Hid (¬ portsOk n) := fun hp => by have := ((hp k hlt).2.2.2.2.2.1 (by rw [HTO.out]; exact h)).1; rw [HIN.out] at this; cases this
              go_wp2
              go_ret
              exact ⟨.no HF.out, hzo.out.2.1⟩
            | false =>
              generalize hj : n.ports[ti.toNat].inn = bj at *
              have HJ := Lib.hid hj
              clear hj
              cases bj with
              | false =>
                have HF : Hid (¬ portsOk n) := fun hp => by
                  have := ((hp k hlt).2.2.2.2.2.1 (by rw [HTO.out]; exact h)).2 (by rw [HTO.out]; exact hql)
                  simp only [HTO.out] at this
                  rw [HJ.out] at this
                  cases this
                go_wp2
                go_ret
                exact ⟨.no HF.out, hzo.out.2.1⟩
              | true =>
                have HPK : Hid (0 ≤ ti → false = false ∧ ∀ h : ti.toNat < n.ports.length, n.ports[ti.toNat].inn = true) := fun _ => ⟨rfl, fun hx => HJ.out⟩
                clear e2'
                go_wp2
                obtain ⟨wo, rfl⟩ : ∃ wo : World, wo = wr := ⟨_, rfl⟩
                go_loopw [6] (fun i wr => ∃ (m : Nat), m ≤ k ∧ i = .int .i64 m ∧ Hid (∀ j (h : j < n.ports.length), j < m → n.ports[j].name ≠ n.ports[k].name) ∧ Hid (Boxes w wr [[.int .i64 n.bits, .slice (some ⟨b, o, none⟩) n.ports.length cp, .slice at_ n.tables.length ct, vg]]) ∧ Hid (At wr wo.heap.size [.string n.ports[k].name, .int .i64 n.ports[k].box, .bool false, .int .i64 ti])) (fun i _ => k - (intOf i).toNat)
                case atStart => exact ⟨0, Nat.zero_le _, rfl, fun j _ h => absurd h (by omega), hzo, hat⟩
                case round =>
                  clear hzo hat c1 c2 g1 g2 hz f0 f1 f2 f3
                  obtain ⟨m, hm, rfl, hqm, hz, hat⟩ := hrel
                  by_cases hmk : m < k
                  · have hml : m < n.ports.length := by omega
                    obtain ⟨b', o', hbo, em, -⟩ := ports_at HP.out hml
                    injection hbo with hbo
                    injection hbo with x1 x2
                    subst x1 x2
                    have d1 := hz.out.cell 0 1 _ _ rfl rfl
                    simp only [Nat.add_zero] at d1
                    have d2 := hz.out.keeps _ _ em
                    have d3 := hat.out 0 _ rfl
                    by_cases he : n.ports[m].name = n.ports[k].name
                    · have he' := str_same he
                      have HF : Hid (¬ portsOk n) := fun hp => (hp k hlt).2.2.2.2.2.2 m hmk hml he
                      clear he
                      go_wp2
                      go_quiet (fail)
                      go_wp2
                      go_ret
                      exact ⟨.no HF.out, below_drewN hz.out.2.1 _⟩
                    · have he' := str_other he
                      have HQ : Hid (∀ j (h : j < n.ports.length), j < m + 1 → n.ports[j].name ≠ n.ports[k].name) := by
                        intro j h hj
                        by_cases e : j = m
                        · subst e; exact he
                        · exact hqm.out j h (by omega)
                      clear he
                      go_wp2
                      go_quiet (fail)
                      go_wp2
                      go_roundw
                      case rel => exact ⟨m + 1, by omega, by go_num, HQ, hz.out.quiet ⟨_, rfl⟩, hat⟩
                      case measure => simp [intOf]; omega
                  · have HQ : Hid (∀ i (h : i < n.ports.length), i < k + 1 → portOk n i n.ports[i]) := by
                      intro i h hi
                      by_cases e : i = k
                      · subst e; refine ⟨HK.out, HB.out.1, HB.out.2.1, by rw [HTO.out]; exact HB.out.2.2.1, by rw [HTO.out]; exact HB.out.2.2.2, by simpa only [HTO.out, HIN.out] using HPK.out, fun j hj hjl => hqm.out j hjl (by omega)⟩
                      · exact hq.out i h (by omega)
                    go_wp2
                    go_roundw
                    case rel => exact ⟨k + 1, by omega, by go_num, HQ, hz⟩
                    case measure => simp [intOf]; omega
      · have HF : Hid (¬ portsOk n) := fun h => hok (h k hlt).1
        clear hok
        go_wp2
        go_ret
        exact ⟨.no HF.out, hzo.out.2.1⟩
    · have HY : Hid (portsOk n) := fun i h => hq.out i h (by omega)
      go_wp2
      go_ret
      exact ⟨.yes HY.out, hz.out.2.1⟩
end Go.Proofs.YtbklijcdmiffaaaGreatDoor
