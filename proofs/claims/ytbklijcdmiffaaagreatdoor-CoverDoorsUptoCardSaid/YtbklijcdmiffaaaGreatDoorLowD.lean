/-
  lower: are the ports of a network right?
-/
import Derived.Test.YtbklijcdmiffaaaGreatDoorProg
import Derived.Test.YtbklijcdmiffaaaGreatDoorBase
import Derived.Test.YtbklijcdmiffaaaGreatDoorScanO
import Derived.Test.YtbklijcdmiffaaaGreatDoorRefF
import Derived.StillTailTactics
import Derived.Maps.Own
import Derived.Maps.OwnSet
import Derived.Maps.Views
import Derived.StringKeys
import Derived.WalkKit
import Derived.WalkSpells
import Derived.WalkLawsBesides
import Derived.Deep.QuietTactic
import Derived.BigQuiet
import Derived.Lib.Hide
import Derived.Deep.LoopGhost
namespace Go.Proofs.YtbklijcdmiffaaaGreatDoor
open Go.RowKit

open Go.Maps
theorem mapLaw : Keyed Tryz.prog 9 := string_keyed Tryz.underlying9
theorem zeroInt (w : World) : (zeroValue 3).run Tryz.prog w = .ok (.int .i64 0) w := by kernel_rfl
def keyL (s : ByteArray) : Lit := .string s.data.toList
def valL (k : Nat) : DataW Unit := .lit (.int .i64 (k : Int))
/-- the names of the first k ports -/
def SeenD (D : DataW Unit) (l : List PortD) (k : Nat) : Prop :=
  IsMap D ∧ (∀ s, Maps.has D (keyL s) = true → ∃ j, ∃ h : j < l.length, j < k ∧ l[j].name = s ∧ D.atKey (keyL s) (valL 0) = valL j) ∧ (∀ j (h : j < l.length), j < k → Maps.has D (keyL l[j].name) = true)
theorem SeenD.empty (l : List PortD) : SeenD (.map []) l 0 := ⟨isMap_empty, fun s h => by simp [Maps.has] at h, fun j h hj => absurd hj (by omega)⟩
theorem keyL_ne {a b : ByteArray} (h : a ≠ b) : keyL a ≠ keyL b := fun e => h (by
  unfold keyL at e
  injection e with e
  exact ByteArray.ext (Array.toList_inj.1 e))
theorem SeenD.step {D : DataW Unit} {l : List PortD} {k : Nat} (h : SeenD D l k) (hk : k < l.length) : SeenD (D.put (keyL l[k].name) (valL k)) l (k + 1) := by
  refine ⟨h.1.put _ _, fun s hs => ?_, fun j hj hjk => ?_⟩
  · by_cases e : s = l[k].name
    · subst e
      exact ⟨k, hk, by omega, rfl, atKey_put_same h.1 (by simp [keyL, WideAt.IsKeyLit]) _ _⟩
    · rw [has_put_other (keyL_ne e)] at hs
      obtain ⟨j, hj, hjk, h1, h2⟩ := h.2.1 s hs
      exact ⟨j, hj, by omega, h1, by rw [atKey_put_other (keyL_ne e)]; exact h2⟩
  · by_cases e : l[j].name = l[k].name
    · rw [e]
      exact has_put_same h.1 (by simp [keyL, WideAt.IsKeyLit]) _
    · rw [has_put_other (keyL_ne e)]
      rcases Nat.lt_or_ge j k with h1 | h1
      · exact h.2.2 j hj h1
      · obtain rfl : j = k := by omega
        exact absurd rfl e
theorem grown_of_below {w w' : World} (h : Below w.heap.size w w') (row : Option Nat) : w.grownBy w' row := ⟨h.os, h.tape, h.output, h.size, fun k hk _ => h.block k hk⟩
theorem At.grown {w w' : World} {g : Nat} {cs : List Value} {row : Option Nat} (h : At w g cs) (hg : w.grownBy w' row) (hr : some g ≠ row) : At w' g cs := fun i u hu =>
  (World.cell?_of_block (hg.block _ (cell_lt (h i u hu)) hr)).trans (h i u hu)

set_option maxRecDepth 100000 in
set_option maxHeartbeats 8000000 in
theorem vports_any (cs : List Value) (n : NetD) (w : World) (hv : Vars w) (hn : netE w cs n) :
    Calls Tryz.prog 18 #[.agg cs.toArray] w fun e w' => Tells (portsOk n) e ∧ Below w.heap.size w w' := by
  obtain ⟨vp, vt, vg, rfl, -, hp, ht, -⟩ := hn
  obtain ⟨ap, cp, rfl, -, hp⟩ := hp
  obtain ⟨at_, ct, rfl, -, ht⟩ := ht
  have hlt_ := ht.1
  have hlp_ := hp.1
  have HP := Lib.hid hp
  have HV := Lib.hid hv
  clear ht hp hv
  have hmm := @run_makeMap Tryz.prog
  have HZ : Hid (Boxes w ((w.alloc (.cells #[.int .i64 n.bits, .slice ap n.ports.length cp, .slice at_ n.tables.length ct, vg] 26)).alloc (.map #[] 0)) [[.int .i64 n.bits, .slice ap n.ports.length cp, .slice at_ n.tables.length ct, vg]]) := (Boxes.one w [.int .i64 n.bits, .slice ap n.ports.length cp, .slice at_ n.tables.length ct, vg] 26).next ((Below.refl _ _).alloc (Nat.le_refl _) _)
  have HM0 : Hid (((w.alloc (.cells #[.int .i64 n.bits, .slice ap n.ports.length cp, .slice at_ n.tables.length ct, vg] 26)).alloc (.map #[] 0)).ownsMap Tryz.prog 9 (plainElem Tryz.prog 3) (w.heap.size + 1) 0 (.map [] : DataW Unit)) := by
    have := World.ownsMap_made (H := Unit) (w.alloc (.cells #[.int .i64 n.bits, .slice ap n.ports.length cp, .slice at_ n.tables.length ct, vg] 26)) Tryz.prog 9 (plainElem Tryz.prog 3)
    simpa [Hid] using this
  go_enter Tryz.func18, Tryz.ntmps18
  go_wp2
  go_loopw [4, 5, 6, 7, 12] (fun _ _ _ _ i wr => ∃ (k : Nat) (D : DataW Unit), k ≤ n.ports.length ∧ i = .int .i64 k ∧ Hid (wr.ownsMap Tryz.prog 9 (plainElem Tryz.prog 3) (w.heap.size + 1) k D) ∧ Hid (SeenD D n.ports k) ∧
    Hid (∀ i (h : i < n.ports.length), i < k → portOk n i n.ports[i]) ∧ Hid (Boxes w wr [[.int .i64 n.bits, .slice ap n.ports.length cp, .slice at_ n.tables.length ct, vg]])) (fun _ _ _ _ i _ => n.ports.length - (intOf i).toNat)
  case atStart => exact ⟨0, .map [], Nat.zero_le _, rfl, HM0, SeenD.empty _, fun j _ h => absurd h (by omega), HZ⟩
  case round =>
    clear HM0 HZ hmm
    obtain ⟨k, D, hk, rfl, hmap, hseen, hq, hz⟩ := hrel
    by_cases hlt : k < n.ports.length
    · obtain ⟨b, o, rfl, e0, e1, e2, e3, hs0, hi1, hi2⟩ := ports_at HP.out hlt
      have HI1 := Lib.hid hi1
      have HI2 := Lib.hid hi2
      clear hi1 hi2
      have f0 := hz.out.keeps _ _ e0
      have f1 := hz.out.keeps _ _ e1
      have f2 := hz.out.keeps _ _ e2
      have f3 := hz.out.keeps _ _ e3
      clear e0 e1 e2 e3
      have HSTEP := Lib.hid (hseen.out.step hlt)
      have HPK := Lib.hid (fun (h : portsOk n) => h k hlt)
      have HUN : Hid ((∀ j (h : j < n.ports.length), j < k → n.ports[j].name ≠ n.ports[k].name) ↔ Maps.has D (keyL n.ports[k].name) = false) := by
        constructor
        · intro h
          cases hh : Maps.has D (keyL n.ports[k].name) with
          | false => rfl
          | true =>
            obtain ⟨j, hj, hjk, h1, -⟩ := hseen.out.2.1 _ hh
            exact absurd h1 (h j hj hjk)
        · intro h j hj hjk e
          have := hseen.out.2.2 j hj hjk
          rw [e, h] at this
          cases this
      have HHAS : Hid (Maps.has D (keyL n.ports[k].name) = true → ∃ j : Nat, j < k ∧ D.atKey (keyL n.ports[k].name) (valL 0) = valL j) := fun h =>
        let ⟨j, _, hjk, _, h2⟩ := hseen.out.2.1 _ h
        ⟨j, hjk, h2⟩
      have HALL : Hid (portOk n k n.ports[k] → ∀ i (h : i < n.ports.length), i < k + 1 → portOk n i n.ports[i]) := fun hp i h hi => by
        by_cases e : i = k
        · subst e; exact hp
        · exact hq.out i h (by omega)
      generalize hp : n.ports[k] = p at *
      clear hp hseen hq
      generalize hin : p.inn = bi at *
      generalize hto : p.to = ti at *
      have HIN := Lib.hid hin
      have HTO := Lib.hid hto
      clear hin hto
      have hkey : keyOf Tryz.prog 9 (.string p.name) = some (keyL p.name) := WideMaps.keyOf_string_mk Tryz.underlying9 (by unfold maxLen; omega)
      have HKEY := Lib.hid hkey
      clear hkey
      have HM1 := Lib.hid (hmap.out.alloc (.cells #[.string p.name, .int .i64 p.box, .bool bi, .int .i64 ti] 32))
      have hz1 := Lib.hid (hz.out.next ((Below.refl _ wr).alloc (Nat.le_refl _) (.cells #[.string p.name, .int .i64 p.box, .bool bi, .int .i64 ti] 32)))
      have hat := Lib.hid (At.new wr [.string p.name, .int .i64 p.box, .bool bi, .int .i64 ti] 32)
      by_cases htw : Maps.has D (keyL p.name) = true
      · have HF : Hid (¬ portsOk n) := fun h => by
          have := HUN.out.1 (fun j hj hjk => (HPK.out h).2.2.2.2.2.2 j hjk hj)
          rw [htw] at this
          cases this
        have HCK : Hid (∀ c : Int, D.atKey (keyL p.name) (.lit (.int .i64 0)) = .lit (.int .i64 c) → c < (k : Int)) := fun c hc => by
          obtain ⟨j, hj, h2⟩ := HHAS.out htw
          have e : (DataW.lit (.int .i64 c) : DataW Unit) = valL j := hc.symm.trans h2
          unfold valL at e
          injection e with e
          injection e with e1 e2
          omega
        go_wp2_with (at_lookup; refine wpList_lookup_own_ok_int _ rfl _ _ 59 rfl 9 3 .i64 mapLaw Tryz.underlying59 Tryz.underlying3 (zeroInt _) (w.heap.size + 1) k D rfl HM1.out _ (keyL p.name) rfl HKEY.out ?_; intro c hatk hwc; have hck := HCK.out c hatk; clear hatk hwc)
        go_ret
        exact ⟨.no HF.out, hz1.out.2.1⟩
      have htf : Maps.has D (keyL p.name) = false := by simpa using htw
      have HUNI := Lib.hid (HUN.out.2 htf)
      clear htw HUN HHAS
      have HTK := Lib.hid (token_any p.name (wr.alloc (.cells #[.string p.name, .int .i64 p.box, .bool bi, .int .i64 ti] 32)) (HV.out.keep hz1.out.2.1) hs0)
      go_wp2_with (at_lookup; refine wpList_lookup_own_ok_int _ rfl _ _ 59 rfl 9 3 .i64 mapLaw Tryz.underlying59 Tryz.underlying3 (zeroInt _) (w.heap.size + 1) k D rfl HM1.out _ (keyL p.name) rfl HKEY.out ?_; intro c hatk hwc; clear hatk hwc)
      refine HTK.out.mono ?_
      rintro e w2 ⟨ht, hb2⟩
      have hz2 := Lib.hid (hz1.out.next hb2)
      have hat2 := Lib.hid (hat.out.keep (Keeps.of_below hb2))
      have HM2 := Lib.hid (HM1.out.kept (grown_of_below hb2 none) (by simp))
      have HW2 : Hid (wr.heap.size < w2.heap.size) := by
        have := hb2.size
        simp at this
        unfold Hid
        omega
      have HWR : Hid (w.heap.size + 1 < wr.heap.size) := hmap.out.lt
      clear HTK hb2 HM1 hz1 hat htf f0 f1 f2 f3
      have g1 := hz2.out.cell 0 1 _ _ rfl rfl
      have g2 := hz2.out.cell 0 2 _ _ rfl rfl
      simp only [Nat.add_zero] at g1 g2
      have p0 := hat2.out 0 _ rfl
      have p1 := hat2.out 1 _ rfl
      have p2 := hat2.out 2 _ rfl
      have p3 := hat2.out 3 _ rfl
      rcases ht.cases with ⟨rfl, hok⟩ | ⟨rfl, hok⟩
      · have HK := Lib.hid hok
        clear hok
        by_cases hbad : p.box < 0 ∨ (n.tables.length : Int) ≤ p.box
        · have HF : Hid (¬ portsOk n) := fun h => by
            obtain ⟨-, h1, h2, -⟩ := HPK.out h
            omega
          have hbad' : p.box < 0 ∨ (0 ≤ p.box ∧ (n.tables.length : Int) ≤ p.box) := by omega
          clear hbad
          rcases hbad' with h | ⟨h, h'⟩
          all_goals
            go_wp2
            go_ret
            exact ⟨.no HF.out, hz2.out.2.1⟩
        have hb1 : 0 ≤ p.box := by omega
        have hb2 : p.box < (n.tables.length : Int) := by omega
        clear hbad
        have H63 : Hid (k < maxLen) := by unfold Hid maxLen; omega
        have HPW : Hid ((Lit.int .i64 (k : Int)).wf = true) := WalkArith.wf_i64 (by omega)
        by_cases ht1 : ti = -1
        · have hne : (ti != -1) = false := by rw [bne_eq_false_iff_eq]; exact ht1
          have HT1 := Lib.hid ht1
          clear ht1
          have HT2 : -1 ≤ ti ∧ ti < 0 := by have := HT1.out; omega
          go_wp2_with (at_mapUpdate; refine wpList_mapUpdate_own _ rfl _ _ _ 59 rfl 9 3 mapLaw Tryz.underlying59 _ (w.heap.size + 1) k D rfl HM2.out H63.out _ _ _ rfl rfl HKEY.out (valL k) [] (plainElem_int Tryz.underlying3 HPW.out) ?_; intro w3 hown3 hgrow3; have HM3 := Lib.hid hown3; have HZ3 := Lib.hid (hz2.out.grown hgrow3 (fun j hj => by cases hj; exact Nat.le_refl _)); have HA3 := Lib.hid (hat2.out.grown hgrow3 (by have := HWR.out; simp; omega)); have q1 := HZ3.out.cell 0 1 _ _ rfl rfl; have q2 := HA3.out 2 _ rfl; have q3 := HA3.out 3 _ rfl; simp only [Nat.add_zero] at q1; clear g1 g2 p0 p1 p2 p3 hown3 hgrow3)
          go_roundw
          case rel => exact ⟨k + 1, _, by omega, by go_num, HM3, HSTEP, Lib.hid (HALL.out ⟨HK.out, hb1, hb2, by rw [HTO.out]; omega, by rw [HTO.out]; omega, fun h0 => absurd h0 (by rw [HTO.out]; omega), fun j hj hjl => HUNI.out j hjl hj⟩), HZ3⟩
          case measure => simp [intOf]; omega
        have hne : (ti != -1) = true := by rw [bne_iff_ne]; exact ht1
        have HT1 := Lib.hid ht1
        clear ht1
        cases bi with
        | true =>
          have HF : Hid (¬ portsOk n) := fun h => by
            have h1 := (HPK.out h).2.2.2.1
            have h2 := (HPK.out h).2.2.2.2.2.1
            rw [HTO.out] at h1 h2
            rw [HIN.out] at h2
            have h3 := HT1.out
            have := (h2 (by omega)).1
            cases this
          go_wp2_with (at_mapUpdate; refine wpList_mapUpdate_own _ rfl _ _ _ 59 rfl 9 3 mapLaw Tryz.underlying59 _ (w.heap.size + 1) k D rfl HM2.out H63.out _ _ _ rfl rfl HKEY.out (valL k) [] (plainElem_int Tryz.underlying3 HPW.out) ?_; intro w3 hown3 hgrow3; have HM3 := Lib.hid hown3; have HZ3 := Lib.hid (hz2.out.grown hgrow3 (fun j hj => by cases hj; exact Nat.le_refl _)); have HA3 := Lib.hid (hat2.out.grown hgrow3 (by have := HWR.out; simp; omega)); have q1 := HZ3.out.cell 0 1 _ _ rfl rfl; have q2 := HA3.out 2 _ rfl; have q3 := HA3.out 3 _ rfl; simp only [Nat.add_zero] at q1; clear g1 g2 p0 p1 p2 p3 hown3 hgrow3)
          go_ret
          exact ⟨.no HF.out, HZ3.out.2.1⟩
        | false =>
          by_cases ht2 : ti < 0
          · have HF : Hid (¬ portsOk n) := fun h => by
              have h1 := (HPK.out h).2.2.2.1
              rw [HTO.out] at h1
              have h3 := HT1.out
              omega
            go_wp2_with (at_mapUpdate; refine wpList_mapUpdate_own _ rfl _ _ _ 59 rfl 9 3 mapLaw Tryz.underlying59 _ (w.heap.size + 1) k D rfl HM2.out H63.out _ _ _ rfl rfl HKEY.out (valL k) [] (plainElem_int Tryz.underlying3 HPW.out) ?_; intro w3 hown3 hgrow3; have HM3 := Lib.hid hown3; have HZ3 := Lib.hid (hz2.out.grown hgrow3 (fun j hj => by cases hj; exact Nat.le_refl _)); have HA3 := Lib.hid (hat2.out.grown hgrow3 (by have := HWR.out; simp; omega)); have q1 := HZ3.out.cell 0 1 _ _ rfl rfl; have q2 := HA3.out 2 _ rfl; have q3 := HA3.out 3 _ rfl; simp only [Nat.add_zero] at q1; clear g1 g2 p0 p1 p2 p3 hown3 hgrow3)
            go_ret
            exact ⟨.no HF.out, HZ3.out.2.1⟩
          have ht3 : 0 ≤ ti := by omega
          clear ht2
          by_cases ht4 : (n.ports.length : Int) ≤ ti
          · have HF : Hid (¬ portsOk n) := fun h => by
              have h1 := (HPK.out h).2.2.2.2.1
              rw [HTO.out] at h1
              omega
            go_wp2_with (at_mapUpdate; refine wpList_mapUpdate_own _ rfl _ _ _ 59 rfl 9 3 mapLaw Tryz.underlying59 _ (w.heap.size + 1) k D rfl HM2.out H63.out _ _ _ rfl rfl HKEY.out (valL k) [] (plainElem_int Tryz.underlying3 HPW.out) ?_; intro w3 hown3 hgrow3; have HM3 := Lib.hid hown3; have HZ3 := Lib.hid (hz2.out.grown hgrow3 (fun j hj => by cases hj; exact Nat.le_refl _)); have HA3 := Lib.hid (hat2.out.grown hgrow3 (by have := HWR.out; simp; omega)); have q1 := HZ3.out.cell 0 1 _ _ rfl rfl; have q2 := HA3.out 2 _ rfl; have q3 := HA3.out 3 _ rfl; simp only [Nat.add_zero] at q1; clear g1 g2 p0 p1 p2 p3 hown3 hgrow3)
            go_ret
            exact ⟨.no HF.out, HZ3.out.2.1⟩
          have ht5 : ti < (n.ports.length : Int) := by omega
          clear ht4
          have htl : ti.toNat < n.ports.length := by omega
          obtain ⟨b', o', hbo, -, -, e2', -⟩ := ports_at HP.out htl
          injection hbo with hbo
          injection hbo with x1 x2
          subst x1 x2
          have E2 := Lib.hid e2'
          clear e2'
          generalize hj : n.ports[ti.toNat].inn = bj at *
          have HJ := Lib.hid hj
          clear hj
          cases bj with
          | false =>
            have HF : Hid (¬ portsOk n) := fun h => by
              have h2 := (HPK.out h).2.2.2.2.2.1
              have h3 := (h2 (by rw [HTO.out]; exact ht3)).2 (by rw [HTO.out]; exact htl)
              simp only [HTO.out] at h3
              rw [HJ.out] at h3
              cases h3
            go_wp2_with (at_mapUpdate; refine wpList_mapUpdate_own _ rfl _ _ _ 59 rfl 9 3 mapLaw Tryz.underlying59 _ (w.heap.size + 1) k D rfl HM2.out H63.out _ _ _ rfl rfl HKEY.out (valL k) [] (plainElem_int Tryz.underlying3 HPW.out) ?_; intro w3 hown3 hgrow3; have HM3 := Lib.hid hown3; have HZ3 := Lib.hid (hz2.out.grown hgrow3 (fun j hj => by cases hj; exact Nat.le_refl _)); have HA3 := Lib.hid (hat2.out.grown hgrow3 (by have := HWR.out; simp; omega)); have q1 := HZ3.out.cell 0 1 _ _ rfl rfl; have q2 := HA3.out 2 _ rfl; have q3 := HA3.out 3 _ rfl; have q4 := HZ3.out.keeps _ _ E2.out; simp only [Nat.add_zero] at q1; clear g1 g2 p0 p1 p2 p3 hown3 hgrow3)
            go_ret
            exact ⟨.no HF.out, HZ3.out.2.1⟩
          | true =>
            have HPJ : Hid (0 ≤ ti → false = false ∧ ∀ h : ti.toNat < n.ports.length, n.ports[ti.toNat].inn = true) := fun _ => ⟨rfl, fun _ => HJ.out⟩
            go_wp2_with (at_mapUpdate; refine wpList_mapUpdate_own _ rfl _ _ _ 59 rfl 9 3 mapLaw Tryz.underlying59 _ (w.heap.size + 1) k D rfl HM2.out H63.out _ _ _ rfl rfl HKEY.out (valL k) [] (plainElem_int Tryz.underlying3 HPW.out) ?_; intro w3 hown3 hgrow3; have HM3 := Lib.hid hown3; have HZ3 := Lib.hid (hz2.out.grown hgrow3 (fun j hj => by cases hj; exact Nat.le_refl _)); have HA3 := Lib.hid (hat2.out.grown hgrow3 (by have := HWR.out; simp; omega)); have q1 := HZ3.out.cell 0 1 _ _ rfl rfl; have q2 := HA3.out 2 _ rfl; have q3 := HA3.out 3 _ rfl; have q4 := HZ3.out.keeps _ _ E2.out; simp only [Nat.add_zero] at q1; clear g1 g2 p0 p1 p2 p3 hown3 hgrow3)
            go_roundw
            case rel => exact ⟨k + 1, _, by omega, by go_num, HM3, HSTEP, Lib.hid (HALL.out ⟨HK.out, hb1, hb2, by rw [HTO.out]; omega, by rw [HTO.out]; omega, by simpa only [HTO.out, HIN.out] using HPJ.out, fun j hj hjl => HUNI.out j hjl hj⟩), HZ3⟩
            case measure => simp [intOf]; omega
      · have HF : Hid (¬ portsOk n) := fun h => hok (HPK.out h).1
        clear hok
        go_wp2
        go_ret
        exact ⟨.no HF.out, hz2.out.2.1⟩
    · have HY : Hid (portsOk n) := fun i h => hq.out i h (by omega)
      go_wp2
      go_ret
      exact ⟨.yes HY.out, hz.out.2.1⟩

end Go.Proofs.YtbklijcdmiffaaaGreatDoor
