/-
  Full names and lists of cubes of the reference: what each call answers.
-/
import Derived.Test.YtbklijcdmiffaaaGreatDoorProg
import Derived.Test.YtbklijcdmiffaaaGreatDoorBase
import Derived.Test.YtbklijcdmiffaaaGreatDoorRefB
import Derived.WalkKit
import Derived.WalkSpells
import Derived.WalkLawsBesides
import Derived.Deep.QuietTactic
import Derived.BigQuiet
import Derived.Lib.Hide
import Derived.Deep.LoopGhost
namespace Go.Proofs.YtbklijcdmiffaaaGreatDoor
open Go.RowKit

theorem full_iff {s : ByteArray} {k : Nat} (hk : k < s.size) (h : s[k].toNat = 46) (hf : ∀ j (hj : j < s.size), j < k → s[j].toNat ≠ 46) :
    fullOk s ↔ nameOk (s.extract 0 k) ∧ nameOk (s.extract (k + 1) s.size) := by
  constructor
  · rintro ⟨m, hm, h46, hfm, h1, h2⟩
    have e : m = k := by
      rcases Nat.lt_trichotomy m k with hlt | e | hgt
      · exact absurd h46 (hf m hm hlt)
      · exact e
      · exact absurd h (hfm k hgt)
    subst e
    exact ⟨h1, h2⟩
  · rintro ⟨h1, h2⟩
    exact ⟨k, hk, h, fun j hj => hf j (by omega) hj, h1, h2⟩
theorem full_no {s : ByteArray} (hf : ∀ j (hj : j < s.size), j < s.size → s[j].toNat ≠ 46) : ¬ fullOk s := by
  rintro ⟨m, hm, h46, -⟩
  exact hf m hm hm h46

set_option maxHeartbeats 400000 in
theorem full_any (s : ByteArray) (w : World) (hs : s.size ≤ 1048576) : Calls Tryz.prog 31 #[.string s] w fun e w' => Tells (fullOk s) e ∧ w = w' := by
  go_enter Tryz.func31, Tryz.ntmps31
  go_wp2
  go_loop [3] (fun i => ∃ k : Nat, k ≤ s.size ∧ i = .int .i64 k ∧ Hid (∀ j (h : j < s.size), j < k → s[j].toNat ≠ 46)) (fun i => s.size - (intOf i).toNat)
  case atStart => exact ⟨0, Nat.zero_le _, rfl, fun j _ h => absurd h (by omega)⟩
  case round =>
    obtain ⟨k, hk, rfl, hq⟩ := hrel
    by_cases hlt : k < s.size
    · by_cases hb : s[k].toNat = 46
      · have HI := Lib.hid (full_iff hlt hb hq.out)
        have hb' : ((s[k].toNat : Int) == 46) = true := by simp; omega
        have h1 : (s.extract 0 k).size ≤ 1048576 := by simp; omega
        have h2 : (s.extract (k + 1) s.size).size ≤ 1048576 := by simp; omega
        have H1 := Lib.hid (name_any (s.extract 0 k) w h1)
        have H2 := Lib.hid (name_any (s.extract (k + 1) s.size) w h2)
        clear hb h1 h2
        go_wp2_with fail
        refine H1.out.mono ?_
        rintro e w' ⟨ht, rfl⟩
        rcases ht.cases with ⟨rfl, ha⟩ | ⟨rfl, ha⟩
        · have HA := Lib.hid ha
          clear ha
          go_wp2_with fail
          refine H2.out.mono ?_
          rintro e w' ⟨ht2, rfl⟩
          rcases ht2.cases with ⟨rfl, hb⟩ | ⟨rfl, hb⟩
          · have HY : Hid (fullOk s) := HI.out.2 ⟨HA.out, hb⟩
            clear hb
            go_wp2
            go_ret
            exact ⟨.yes HY.out, rfl⟩
          · have HY : Hid (¬ fullOk s) := fun h => hb (HI.out.1 h).2
            clear hb
            go_wp2
            go_ret
            exact ⟨.no HY.out, rfl⟩
        · have HY : Hid (¬ fullOk s) := fun h => ha (HI.out.1 h).1
          clear ha
          go_wp2
          go_ret
          exact ⟨.no HY.out, rfl⟩
      · have HQ : Hid (∀ j (h : j < s.size), j < k + 1 → s[j].toNat ≠ 46) := by
          intro j h hj
          by_cases e : j = k
          · subst e; exact hb
          · exact hq.out j h (by omega)
        have hb' : ((s[k].toNat : Int) == 46) = false := by simp; omega
        clear hb
        go_wp2
        go_round
        case rel => exact ⟨k + 1, by omega, by go_num, HQ⟩
        case measure => simp [intOf]; omega
    · have HN : Hid (¬ fullOk s) := full_no fun j h _ => hq.out j h (by omega)
      go_wp2
      go_ret
      exact ⟨.no HN.out, rfl⟩

set_option maxHeartbeats 400000 in
theorem cubes_any (bits most : Int) (A : Value) (l : List ByteArray) (w : World) (hbits : I64 bits) (ha : Sl 1 strE w A l) :
    Calls Tryz.prog 32 #[.int .i64 bits, A, .int .i64 most] w fun e w' => Tells (cubesOk bits l most) e ∧ w = w' := by
  obtain ⟨a, ca, rfl, -, ha⟩ := ha
  have hla := ha.1
  have Ha := Lib.hid ha
  clear ha
  have Hbits := Lib.hid hbits
  clear hbits
  by_cases h : (l.length : Int) ≤ most
  · go_enter Tryz.func32, Tryz.ntmps32
    go_wp2
    go_loop [7, 8] (fun i _ => ∃ k : Nat, k ≤ l.length ∧ i = .int .i64 k ∧ Hid (∀ j (h : j < l.length), j < k → cubeOk l[j] ∧ (l[j].size : Int) = bits)) (fun i _ => l.length - (intOf i).toNat)
    case atStart => exact ⟨0, Nat.zero_le _, rfl, fun j _ h => absurd h (by omega)⟩
    case round =>
      obtain ⟨k, hk, rfl, hq⟩ := hrel
      by_cases hlt : k < l.length
      · obtain ⟨b, o, rfl, h1, hsz⟩ := strs_at Ha.out hlt
        have HC := Lib.hid (cube_any l[k] w hsz)
        go_wp2_with fail
        refine HC.out.mono ?_
        rintro e w' ⟨ht, rfl⟩
        rcases ht.cases with ⟨rfl, hc⟩ | ⟨rfl, hc⟩
        · by_cases hs : (l[k].size : Int) = bits
          · have HQ : Hid (∀ j (h : j < l.length), j < k + 1 → cubeOk l[j] ∧ (l[j].size : Int) = bits) := by
              intro j h hj
              by_cases e : j = k
              · subst e; exact ⟨hc, hs⟩
              · exact hq.out j h (by omega)
            have hs' : ((l[k].size : Int) != bits) = false := by simp [hs]
            clear hs hc
            go_wp2
            go_round
            case rel => exact ⟨k + 1, by omega, by go_num, HQ⟩
            case measure => simp [intOf]; omega
          · have HN : Hid (¬ cubesOk bits l most) := fun h => hs (h.2 k hlt).2
            have hs' : ((l[k].size : Int) != bits) = true := by simpa using hs
            clear hs hc
            go_wp2
            go_ret
            exact ⟨.no HN.out, rfl⟩
        · have HN : Hid (¬ cubesOk bits l most) := fun h => hc (h.2 k hlt).1
          clear hc
          go_wp2
          go_ret
          exact ⟨.no HN.out, rfl⟩
      · have HY : Hid (cubesOk bits l most) := ⟨h, fun j h => hq.out j h (by omega)⟩
        go_wp2
        go_ret
        exact ⟨.yes HY.out, rfl⟩
  · have HN : Hid (¬ cubesOk bits l most) := fun e => h e.1
    go_enter Tryz.func32, Tryz.ntmps32
    go_wp2
    go_ret
    exact ⟨.no HN.out, rfl⟩

set_option maxHeartbeats 400000 in
theorem side_any (cs : List Value) (n : NetD) (p box : Int) (inn : Bool) (w : World) (hn : netE w cs n) (hp : I64 p) :
    Calls Tryz.prog 40 #[.agg cs.toArray, .int .i64 p, .int .i64 box, .bool inn] w fun e w' => Tells (sideOk n.ports p box inn) e ∧ Below w.heap.size w w' := by
  obtain ⟨vp, vt, vg, rfl, -, hports, -, -⟩ := hn
  obtain ⟨a, ca, rfl, -, ha⟩ := hports
  have hla := ha.1
  have Ha := Lib.hid ha
  clear ha
  by_cases h0 : 0 ≤ p
  · obtain ⟨q, rfl⟩ := Int.eq_ofNat_of_zero_le h0
    by_cases hlt : q < n.ports.length
    · obtain ⟨b, o, rfl, -, h1, h2, -⟩ := ports_at Ha.out hlt
      have h1' := cell_lt h1
      have g1 : ∀ ob, (w.alloc ob).cell? ⟨b, o + q * 4 + 1, none⟩ = some (.int .i64 n.ports[q].box) := fun ob => (World.cell?_alloc_lt w ob _ h1').trans h1
      have g2 : ∀ ob, (w.alloc ob).cell? ⟨b, o + q * 4 + 2, none⟩ = some (.bool n.ports[q].inn) := fun ob => (World.cell?_alloc_lt w ob _ (cell_lt h2)).trans h2
      have G1 := Lib.hid g1
      have G2 := Lib.hid g2
      clear h1 h2 g1 g2
      have k1 := G1.out (.cells #[.int .i64 n.bits, .slice (some ⟨b, o, none⟩) n.ports.length ca, vt, vg] 26)
      have k2 := G2.out (.cells #[.int .i64 n.bits, .slice (some ⟨b, o, none⟩) n.ports.length ca, vt, vg] 26)
      by_cases hb : n.ports[q].box = box
      · have hb' : (n.ports[q].box == box) = true := by simpa using hb
        by_cases hi : n.ports[q].inn = inn
        · have hi' : (n.ports[q].inn == inn) = true := by simpa using hi
          have HY : Hid (sideOk n.ports q box inn) := ⟨by omega, by simpa using hlt, by simpa using hb, by simpa using hi⟩
          clear hb hi
          go_enter Tryz.func40, Tryz.ntmps40
          go_wp2
          go_ret
          exact ⟨.yes HY.out, (Below.refl _ _).alloc (Nat.le_refl _) _⟩
        · have hi' : (n.ports[q].inn == inn) = false := by simpa using hi
          have HN : Hid (¬ sideOk n.ports q box inn) := fun ⟨_, _, _, h⟩ => hi (by simpa using h)
          clear hb hi
          go_enter Tryz.func40, Tryz.ntmps40
          go_wp2
          go_ret
          exact ⟨.no HN.out, (Below.refl _ _).alloc (Nat.le_refl _) _⟩
      · have hb' : (n.ports[q].box == box) = false := by simpa using hb
        have HN : Hid (¬ sideOk n.ports q box inn) := fun ⟨_, _, h, _⟩ => hb (by simpa using h)
        clear hb
        go_enter Tryz.func40, Tryz.ntmps40
        go_wp2
        go_ret
        exact ⟨.no HN.out, (Below.refl _ _).alloc (Nat.le_refl _) _⟩
    · have HN : Hid (¬ sideOk n.ports q box inn) := fun ⟨_, h, _⟩ => hlt (by simpa using h)
      go_enter Tryz.func40, Tryz.ntmps40
      go_wp2
      go_ret
      exact ⟨.no HN.out, (Below.refl _ _).alloc (Nat.le_refl _) _⟩
  · have HN : Hid (¬ sideOk n.ports p box inn) := fun ⟨h, _⟩ => h0 h
    go_enter Tryz.func40, Tryz.ntmps40
    go_wp2
    go_ret
    exact ⟨.no HN.out, (Below.refl _ _).alloc (Nat.le_refl _) _⟩
end Go.Proofs.YtbklijcdmiffaaaGreatDoor
