/-
  scan: the machine runs.
-/
import Derived.Test.YtbklijcdmiffaaaGreatDoorProg
import Derived.Test.YtbklijcdmiffaaaGreatDoorBase
import Derived.Test.YtbklijcdmiffaaaGreatDoorScanM
import Derived.Test.YtbklijcdmiffaaaGreatDoorScope
import Derived.StillTailTactics
import Derived.WalkMore
import Derived.IntWalk
import Derived.Deep.RegionHeld3
import Derived.WalkKit
import Derived.WalkSpells
import Derived.WalkLawsBesides
import Derived.Deep.QuietTactic
import Derived.BigQuiet
import Derived.Lib.Hide
import Derived.Deep.LoopGhost
namespace Go.Proofs.YtbklijcdmiffaaaGreatDoor
open Go.RowKit

/-- what holds at run's labels: the next token, a blank, a comment, a line's end, the end -/
inductive RunJ (w : World) (g : Nat) (s : ByteArray) (j : Nat) (w' : World) : Act → Prop
  | mk (a l c n : Nat) (o : Bool) (v : Value) (xs : List Value) (u1 u2 u3 u4 u5 u6 u7 u8 u9 u10 u11 u12 u13 u14 u15 u16 u17 u18 u19 u20 u21 u22 u23 u24 u25 u26 u27 u28 u29 u30 u31 u32 u33 u34 u35 u36 u37 u38 u39 u40 u41 u42 u43 u44 u45 u46 u47 u48 u49 u50 u51 u52 u53 u54 u55 u56 u57 u58 u59 u60 u61 u62 u63 u64 u65 u66 u67 u68 u69 u70 u71 u72 u73 u74 u75 u76 u77 u78 u79 u80 u81 u82 u83 u84 u85 : Value) (hm : Mach w' g s a l c o v) (hown : w'.ownsRow (g + 1) 71 4 v n xs) (has : a ≤ s.size) (hl : l ≤ a + 1) (hc : c ≤ a + 1) (hn : n ≤ 2 * a) (hseen : Seen s a n xs o) (hbel : Below g w w')
    (hj : j = 4 ∨ (j = 0 ∧ a = s.size) ∨ ((j = 1 ∨ j = 2 ∨ (j = 3 ∧ ∀ h : a < s.size, s[a].toNat ≠ 10)) ∧ a < s.size ∧ ¬ fullOk s)) : RunJ w g s j w' { tmps := #[.pointer (some ⟨g, 0, none⟩), u1, u2, u3, u4, u5, u6, u7, u8, u9, u10, u11, u12, u13, u14, u15, u16, u17, u18, u19, u20, u21, u22, u23, u24, u25, u26, u27, u28, u29, u30, u31, u32, u33, u34, u35, u36, u37, u38, u39, u40, u41, u42, u43, u44, u45, u46, u47, u48, u49, u50, u51, u52, u53, u54, u55, u56, u57, u58, u59, u60, u61, u62, u63, u64, u65, u66, u67, u68, u69, u70, u71, u72, u73, u74, u75, u76, u77, u78, u79, u80, u81, u82, u83, u84, u85], defers := [] }
/-- run's measure -/
def runM (g : Nat) (s : ByteArray) (j : Nat) (w' : World) : Nat :=
  match w'.cell? ⟨g, 1, none⟩ with
  | some (.int _ a) => 2 * (s.size - a.toNat) + (if j = 4 then 1 else 0)
  | _ => 0
theorem runM_of {w' : World} {g : Nat} {s : ByteArray} {a l c : Nat} {o : Bool} {v : Value} (h : Mach w' g s a l c o v) (j : Nat) : runM g s j w' = 2 * (s.size - a) + (if j = 4 then 1 else 0) := by
  unfold runM
  rw [h.at']
  simp
/-- run's end -/
def RunEnd (w : World) (g : Nat) (s : ByteArray) (e : Ending) (w' : World) : Prop :=
  ∃ (code : Int) (a l c n : Nat) (o : Bool) (v : Value) (xs : List Value), e = .returned (.int .i64 code) ∧ Mach w' g s a l c o v ∧ w'.ownsRow (g + 1) 71 4 v n xs ∧ Below g w w' ∧ n ≤ 65536 ∧
    (code = 0 → RunOk s n xs) ∧ (fullOk s → code = 0)
theorem class_cases (s : ByteArray) (k : Nat) : (classAt s k = 1 ↔ s.size ≤ k) ∧ (classAt s k = 4 → ∀ h : k < s.size, s[k].toNat ≠ 10) := by
  constructor
  · unfold classAt
    split
    · rename_i h
      constructor
      · intro h1
        exfalso
        unfold classN at h1
        repeat (first | omega | split at h1)
      · omega
    · exact ⟨fun _ => by omega, fun _ => rfl⟩
  · intro h4 h h10
    unfold classAt at h4
    rw [dif_pos h, h10] at h4
    revert h4
    decide
theorem Seen.bad {s : ByteArray} {a n : Nat} {xs : List Value} {o : Bool} {k z off c : Int} (h : Seen s a n xs o) (ha : a < s.size) (hp : PieceOk (s.extract a s.size) k z off c) (hc : c ≠ 0) : ¬ fullOk s := fun hf => by
  rcases h with ⟨rfl, rfl, h⟩ | ⟨k', t, l', c', rest, hn, rfl, h1, h2⟩
  · obtain rfl := h hf
    rw [ext_all] at hp
    exact hc (fullOk_piece hf hp).2.2
  · have := (h2 hf).1
    omega
set_option maxRecDepth 100000 in
set_option maxHeartbeats 16000000 in
theorem machRun_any (s : ByteArray) (w0 w : World) (hv : Vars w0) (hs : s.size ≤ 16384) (hb : Below w0.heap.size w0 w) (hm : Mach w w0.heap.size s 0 1 1 false (.slice none 0 0)) :
    Calls Tryz.prog 45 #[.pointer (some ⟨w0.heap.size, 0, none⟩)] w (RunEnd w0 w0.heap.size s) := by
  have HV := Lib.hid hv
  have HB0 := Lib.hid hb
  have HM0 := Lib.hid hm
  clear hv hb hm
  obtain ⟨g, HG⟩ : ∃ g, Hid (w0.heap.size = g) := ⟨_, rfl⟩
  rw [HG.out] at HB0 HM0 ⊢
  go_enter Tryz.func45, Tryz.ntmps45
  go_wp2
  refine wp_scope_marks (fun j a' w' => RunJ w0 g s j w' a') (fun j _ w' => runM g s j w') ?_ ?_
  · intro j a' w' hJ
    obtain ⟨a, l, c, n, o, v, xs, u1, u2, u3, u4, u5, u6, u7, u8, u9, u10, u11, u12, u13, u14, u15, u16, u17, u18, u19, u20, u21, u22, u23, u24, u25, u26, u27, u28, u29, u30, u31, u32, u33, u34, u35, u36, u37, u38, u39, u40, u41, u42, u43, u44, u45, u46, u47, u48, u49, u50, u51, u52, u53, u54, u55, u56, u57, u58, u59, u60, u61, u62, u63, u64, u65, u66, u67, u68, u69, u70, u71, u72, u73, u74, u75, u76, u77, u78, u79, u80, u81, u82, u83, u84, u85, hm, hown, has, hl, hc, hn, hseen, hbel, hj⟩ := hJ
    have HM := Lib.hid hm
    have HOWN := Lib.hid hown
    have HSEEN := Lib.hid hseen
    have HBEL := Lib.hid hbel
    have HMU := Lib.hid (runM_of hm j)
    clear hm hown hseen hbel
    rcases hj with rfl | ⟨rfl, ha⟩ | ⟨hj, ha, hnf⟩
    · refine ⟨_, (by simp only [findLabel]; rfl), ?_⟩
      have m0 := HM.out.text
      have m1 := HM.out.at'
      go_wp2_with fail
      go_still_tail 8, (by kernel_rfl)
      change wpList _ _ _ _ _ w'.drew
      have HM2 : Hid (Mach w'.drew g s a l c o v) := HM.out
      have HO2 : Hid (w'.drew.ownsRow (g + 1) 71 4 v n xs) := HOWN.out
      have HB2 : Hid (Below g w0 w'.drew) := below_drewN HBEL.out 1
      clear HM HOWN HBEL m0 m1
      generalize w'.drew = w2 at *
      have HC := Lib.hid (class_any s a w2)
      have HC1 := Lib.hid (class_cases s a)
      have HCL := Lib.hid (@classAt_letter s a)
      generalize classAt s a = c0 at *
      go_wp2_with fail
      refine HC.out.mono ?_
      rintro e w3 ⟨rfl, rfl⟩
      clear HC
      by_cases e1 : c0 = 1
      · have ha : a = s.size := by have := HC1.out.1.1 e1; omega
        subst e1
        have HA := Lib.hid ha
        clear ha
        go_wp2
        go_step3
        refine ⟨⟨a, l, c, n, o, v, xs, _, _, _, _, _, _, _, _, _, _, _, _, _, _, _, _, _, _, _, _, _, _, _, _, _, _, _, _, _, _, _, _, _, _, _, _, _, _, _, _, _, _, _, _, _, _, _, _, _, _, _, _, _, _, _, _, _, _, _, _, _, _, _, _, _, _, _, _, _, _, _, _, _, _, _, _, _, _, _, _, _, _, _, _, _, HM2.out, HO2.out, has, hl, hc, hn, HSEEN.out, HB2.out, .inr (.inl ⟨rfl, HA.out⟩)⟩, ?_⟩
        show runM g s _ _ < runM g s _ _
        rw [HMU.out, runM_of HM2.out]
        simp
      have ha : a < s.size := by
        rcases Nat.lt_or_ge a s.size with h | h
        · exact h
        · exact absurd (HC1.out.1.2 h) e1
      have e1' : (c0 == 1) = false := by rw [beq_eq_false_iff_ne]; exact e1
      clear e1
      by_cases e3 : c0 = 3
      · have HNF : Hid (¬ fullOk s) := HSEEN.out.none ha (fun hl => by have := HCL.out.2 hl; omega)
        subst e3
        go_wp2
        go_step3
        refine ⟨⟨a, l, c, n, o, v, xs, _, _, _, _, _, _, _, _, _, _, _, _, _, _, _, _, _, _, _, _, _, _, _, _, _, _, _, _, _, _, _, _, _, _, _, _, _, _, _, _, _, _, _, _, _, _, _, _, _, _, _, _, _, _, _, _, _, _, _, _, _, _, _, _, _, _, _, _, _, _, _, _, _, _, _, _, _, _, _, _, _, _, _, _, _, HM2.out, HO2.out, has, hl, hc, hn, HSEEN.out, HB2.out, .inr (.inr ⟨.inl rfl, ha, HNF.out⟩)⟩, ?_⟩
        show runM g s _ _ < runM g s _ _
        rw [HMU.out, runM_of HM2.out]
        simp
      have e3' : (c0 == 3) = false := by rw [beq_eq_false_iff_ne]; exact e3
      clear e3
      by_cases e2 : c0 = 2
      · have HNF : Hid (¬ fullOk s) := HSEEN.out.none ha (fun hl => by have := HCL.out.2 hl; omega)
        subst e2
        go_wp2
        go_step3
        refine ⟨⟨a, l, c, n, o, v, xs, _, _, _, _, _, _, _, _, _, _, _, _, _, _, _, _, _, _, _, _, _, _, _, _, _, _, _, _, _, _, _, _, _, _, _, _, _, _, _, _, _, _, _, _, _, _, _, _, _, _, _, _, _, _, _, _, _, _, _, _, _, _, _, _, _, _, _, _, _, _, _, _, _, _, _, _, _, _, _, _, _, _, _, _, _, HM2.out, HO2.out, has, hl, hc, hn, HSEEN.out, HB2.out, .inr (.inr ⟨.inr (.inl rfl), ha, HNF.out⟩)⟩, ?_⟩
        show runM g s _ _ < runM g s _ _
        rw [HMU.out, runM_of HM2.out]
        simp
      have e2' : (c0 == 2) = false := by rw [beq_eq_false_iff_ne]; exact e2
      clear e2
      by_cases e4 : c0 = 4
      · have HNF : Hid (¬ fullOk s) := HSEEN.out.none ha (fun hl => by have := HCL.out.2 hl; omega)
        have H10 := Lib.hid (HC1.out.2 e4)
        subst e4
        go_wp2
        go_step3
        refine ⟨⟨a, l, c, n, o, v, xs, _, _, _, _, _, _, _, _, _, _, _, _, _, _, _, _, _, _, _, _, _, _, _, _, _, _, _, _, _, _, _, _, _, _, _, _, _, _, _, _, _, _, _, _, _, _, _, _, _, _, _, _, _, _, _, _, _, _, _, _, _, _, _, _, _, _, _, _, _, _, _, _, _, _, _, _, _, _, _, _, _, _, _, _, _, HM2.out, HO2.out, has, hl, hc, hn, HSEEN.out, HB2.out, .inr (.inr ⟨.inr (.inr ⟨rfl, H10.out⟩), ha, HNF.out⟩)⟩, ?_⟩
        show runM g s _ _ < runM g s _ _
        rw [HMU.out, runM_of HM2.out]
        simp
      have e4' : (c0 == 4) = false := by rw [beq_eq_false_iff_ne]; exact e4
      clear e4 HC1 HCL
      have m0 := HM2.out.text
      have m1 := HM2.out.at'
      have hi1 : (0 : Int) ≤ (a : Int) := by omega
      have hi2 : (a : Int) ≤ (s.size : Int) := by omega
      have HPV : Hid (Vars w2.drew) := HV.out.keep ((below_drewN HB2.out 1).mono (by rw [HG.out]; exact Nat.le_refl _))
      have HP := Lib.hid (piece_any (s.extract a s.size) w2.drew HPV.out (by simp; omega) (by simp; omega))
      have HXS : Hid ((s.extract a s.size).size = s.size - a) := by simp [Hid]
      have HA := Lib.hid ha
      go_wp2_with fail
      go_region_held3 (fun w' => w'.cell? ⟨g, 0, none⟩ = some (.string s) ∧ w'.cell? ⟨g, 1, none⟩ = some (.int .i64 (a : Int)))
        (first
          | exact ⟨m0, m1⟩
          | exact ⟨(Keeps.of_below hb3) _ _ m0, (Keeps.of_below hb3) _ _ m1⟩
          | go_keep)
        ((go_at_call 53; refine HP.out.mono ?_; rintro e w3 ⟨⟨k, z, off, code, rfl, hp⟩, hb3⟩))
      have HPP := Lib.hid hp
      have HM3 : Hid (Mach w3 g s a l c o v) := Mach.below (w := w2.drew) HM2.out hb3
      have HO3 := Lib.hid (own_keep (w := w2.drew) HO2.out hb3)
      have HB3 := Lib.hid (below_after (below_drewN HB2.out 1) (Nat.le_of_lt (Mach.lt (w := w2.drew) HM2.out)) hb3)
      obtain ⟨-, -, hz, ho1, ho2⟩ := hp
      rw [HXS.out] at hz ho2
      clear hb3 m0 m1 HP HPV HM2 HO2 HB2 hi1 hi2
      by_cases hcode : code = 0
      · obtain ⟨hz1, hz2⟩ := hz hcode
        obtain ⟨z', rfl⟩ : ∃ z' : Nat, z = z' := ⟨z.toNat, by omega⟩
        clear hz
        subst hcode
        have HPUT := Lib.hid (mput_any g s a l c z' k o v n xs w3 HM3.out HO3.out (by omega) (by omega) (by omega) (by omega))
        go_wp2_with fail
        refine HPUT.out.mono ?_
        rintro e w4 ⟨rfl, c', v', hc', hm4, ho4, hb4⟩
        have HM4 := Lib.hid hm4
        have HO4 := Lib.hid ho4
        have HB4 := Lib.hid (HB3.out.trans hb4)
        clear hm4 ho4 hb4 HPUT
        go_wp2
        go_step3
        refine ⟨⟨a + z', l, c', n + 1, true, v', _, _, _, _, _, _, _, _, _, _, _, _, _, _, _, _, _, _, _, _, _, _, _, _, _, _, _, _, _, _, _, _, _, _, _, _, _, _, _, _, _, _, _, _, _, _, _, _, _, _, _, _, _, _, _, _, _, _, _, _, _, _, _, _, _, _, _, _, _, _, _, _, _, _, _, _, _, _, _, _, _, _, _, _, _, _, HM4.out, HO4.out, by omega, by omega, by omega, by omega, HSEEN.out.put ha (by omega) (by omega) HPP.out l c, HB4.out, .inl rfl⟩, ?_⟩
        show runM g s _ _ < runM g s _ _
        rw [HMU.out, runM_of HM4.out]
        simp
        omega
      · obtain ⟨o', rfl⟩ : ∃ o' : Nat, off = o' := ⟨off.toNat, by omega⟩
        clear hz
        have hcb : (code != 0) = true := by rw [bne_iff_ne]; exact hcode
        have HCODE := Lib.hid hcode
        have HFW := Lib.hid (forward_any g s a l c o' o v w3 HM3.out (by omega) (by omega) (by omega))
        clear hcode
        go_wp2_with fail
        refine HFW.out.mono ?_
        rintro e w4 ⟨rfl, c', hc', hm4, ho4⟩
        have HM4 := Lib.hid hm4
        have HO4 := Lib.hid (own_only HO3.out ho4)
        have HB4 := Lib.hid (HB3.out.trans (ho4.below (Nat.le_refl g) (Nat.le_of_lt HM3.out.lt)))
        clear hm4 ho4 HFW
        go_wp2
        rw [jumps_ret]
        go_ret
        exact ⟨code, a + o', l, c', n, o, v, xs, rfl, HM4.out, HO4.out, HB4.out, by omega, fun h => absurd h HCODE.out, fun hf => absurd hf (HSEEN.out.bad ha HPP.out HCODE.out)⟩
    · refine ⟨_, (by simp only [findLabel]; rfl), ?_⟩
      have hrun := endLine_any g s a l c o v n xs w' HM.out HOWN.out (by omega) (by omega) (by omega) (by omega)
      have HR := Lib.hid hrun
      have HA := Lib.hid ha
      clear ha hrun
      go_wp2_with fail
      refine HR.out.mono ?_
      rintro e w3 ⟨rfl, v', hm3, ho3, hb3⟩
      have HM3 := Lib.hid hm3
      have HO3 := Lib.hid ho3
      have HB3 := Lib.hid (HBEL.out.trans hb3)
      clear hm3 ho3 hb3 HR
      go_wp2
      rw [jumps_ret]
      go_ret
      have h := HSEEN.out
      rw [HA.out] at h
      exact ⟨0, a + 1, l + 1, 1, _, false, v', _, rfl, HM3.out, HO3.out, HB3.out, by split <;> omega, fun _ => h.fin l c, fun _ => rfl⟩
    · have HNF := Lib.hid hnf
      clear hnf
      rcases hj with rfl | rfl | ⟨rfl, h10⟩
      · refine ⟨_, (by simp only [findLabel]; rfl), ?_⟩
        have hrun := endLine_any g s a l c o v n xs w' HM.out HOWN.out (by omega) (by omega) (by omega) (by omega)
        have HR := Lib.hid hrun
        clear hrun
        go_wp2_with fail
        refine HR.out.mono ?_
        rintro e w3 ⟨rfl, v', hm3, ho3, hb3⟩
        have HM3 := Lib.hid hm3
        have HO3 := Lib.hid ho3
        have HB3 := Lib.hid (HBEL.out.trans hb3)
        clear hm3 ho3 hb3 HR
        go_wp2
        go_step3
        refine ⟨⟨a + 1, l + 1, 1, _, false, v', _, _, _, _, _, _, _, _, _, _, _, _, _, _, _, _, _, _, _, _, _, _, _, _, _, _, _, _, _, _, _, _, _, _, _, _, _, _, _, _, _, _, _, _, _, _, _, _, _, _, _, _, _, _, _, _, _, _, _, _, _, _, _, _, _, _, _, _, _, _, _, _, _, _, _, _, _, _, _, _, _, _, _, _, _, _, HM3.out, HO3.out, by omega, by omega, by omega, by split <;> omega, HSEEN.out.line HNF.out (a + 1) l c, HB3.out, .inl rfl⟩, ?_⟩
        show runM g s _ _ < runM g s _ _
        rw [HMU.out, runM_of HM3.out]
        simp
        omega
      · refine ⟨_, (by simp only [findLabel]; rfl), ?_⟩
        have hrun := forward_any g s a l c 1 o v w' HM.out (by omega) (by omega) (by omega)
        have HR := Lib.hid hrun
        clear hrun
        simp only [Int.cast_ofNat_Int] at HR
        go_wp2_with fail
        refine HR.out.mono ?_
        rintro e w3 ⟨rfl, c', hc', hm3, ho3⟩
        have HM3 := Lib.hid hm3
        have HO3 := Lib.hid (own_only HOWN.out ho3)
        have HB3 := Lib.hid (HBEL.out.trans (ho3.below (Nat.le_refl g) (Nat.le_of_lt HM.out.lt)))
        clear hm3 ho3 HR
        go_wp2
        go_step3
        refine ⟨⟨a + 1, l, c', n, o, v, xs, _, _, _, _, _, _, _, _, _, _, _, _, _, _, _, _, _, _, _, _, _, _, _, _, _, _, _, _, _, _, _, _, _, _, _, _, _, _, _, _, _, _, _, _, _, _, _, _, _, _, _, _, _, _, _, _, _, _, _, _, _, _, _, _, _, _, _, _, _, _, _, _, _, _, _, _, _, _, _, _, _, _, _, _, _, HM3.out, HO3.out, by omega, by omega, by omega, by omega, HSEEN.out.skip HNF.out (a + 1), HB3.out, .inl rfl⟩, ?_⟩
        show runM g s _ _ < runM g s _ _
        rw [HMU.out, runM_of HM3.out]
        simp
        omega
      · refine ⟨_, (by simp only [findLabel]; rfl), ?_⟩
        have H10 := Lib.hid h10
        clear h10
        go_wp2
        go_loopw [4] (fun x wr => ∃ k : Nat, a + k ≤ s.size ∧ x = .int .i64 k ∧ Hid (Quiet w' wr)) (fun x _ => s.size - (intOf x).toNat)
        case atStart => exact ⟨0, by omega, rfl, Quiet.refl _⟩
        case round =>
          obtain ⟨k, hk, rfl, hq⟩ := hrel
          have HMr : Hid (Mach wr g s a l c o v) := by
            obtain ⟨nq, rfl⟩ := hq.out
            exact HM.out
          have HOr : Hid (wr.ownsRow (g + 1) 71 4 v n xs) := by
            obtain ⟨nq, rfl⟩ := hq.out
            exact HOWN.out
          have HBr : Hid (Below g w0 wr) := by
            obtain ⟨nq, rfl⟩ := hq.out
            exact below_drewN HBEL.out _
          have m0 := HMr.out.text
          have m1 := HMr.out.at'
          have hwr : IntKind.i64.wrap ((a : Int) + (k : Int)) = (a : Int) + (k : Int) := IntWalk.i64_in _ (by omega)
          have h0 : (0 : Int) ≤ (a : Int) + (k : Int) := by omega
          have hn0 : ((a : Int) + (k : Int)).toNat = a + k := by omega
          by_cases hlt : a + k < s.size
          · have hd : decide ((a : Int) + (k : Int) < (s.size : Int)) = true := decide_eq_true (by omega)
            have hlt' : (a : Int) + (k : Int) < (s.size : Int) := by omega
            by_cases hb : s[a + k].toNat = 10
            · have hb1 : ((s[a + k].toNat : Int) != 10) = false := by rw [bne_eq_false_iff_eq]; omega
              have HB10 := Lib.hid hb
              clear hb
              have hk1 : 1 ≤ k := by
                rcases Nat.eq_zero_or_pos k with h | h
                · subst h
                  exact absurd HB10.out (by simpa using H10.out (by omega))
                · exact h
              go_wp2
              go_quiet (fail)
              go_wp2_with fail
              clear hwr hd hb1 m0 m1
              refine (forward_any g s a l c k o v (wr.drewN _) (show Mach (wr.drewN _) g s a l c o v from HMr.out) (by omega) (by omega) (by omega)).mono ?_
              rintro e w4 ⟨rfl, c', hc', hm4, ho4⟩
              have HM4 := Lib.hid hm4
              have HO4 := Lib.hid (own_only (w := wr.drewN _) HOr.out ho4)
              have HB4 := Lib.hid ((below_drewN HBr.out _).trans (ho4.below (Nat.le_refl g) (Nat.le_of_lt HMr.out.lt)))
              clear hm4 ho4
              go_wp2
              go_step3
              refine ⟨⟨a + k, l, c', n, o, v, xs, _, _, _, _, _, _, _, _, _, _, _, _, _, _, _, _, _, _, _, _, _, _, _, _, _, _, _, _, _, _, _, _, _, _, _, _, _, _, _, _, _, _, _, _, _, _, _, _, _, _, _, _, _, _, _, _, _, _, _, _, _, _, _, _, _, _, _, _, _, _, _, _, _, _, _, _, _, _, _, _, _, _, _, _, _, HM4.out, HO4.out, by omega, by omega, by omega, by omega, HSEEN.out.skip HNF.out (a + k), HB4.out, .inl rfl⟩, ?_⟩
              show runM g s _ _ < runM g s _ _
              rw [HMU.out, runM_of HM4.out]
              simp
              omega
            · have hb1 : ((s[a + k].toNat : Int) != 10) = true := by rw [bne_iff_ne]; omega
              clear hb
              go_wp2
              go_quiet (fail)
              clear hwr hd hb1 m0 m1
              go_wp2
              go_roundw
              case rel => exact ⟨k + 1, by omega, by go_num, hq.out.trans (Quiet.drewN _)⟩
              case measure => simp [intOf]; omega
          · have hd : decide ((a : Int) + (k : Int) < (s.size : Int)) = false := decide_eq_false (by omega)
            have hk1 : 1 ≤ k := by omega
            go_wp2
            go_quiet (fail)
            go_wp2_with fail
            clear hwr hd m0 m1
            refine (forward_any g s a l c k o v (wr.drewN _) (show Mach (wr.drewN _) g s a l c o v from HMr.out) (by omega) (by omega) (by omega)).mono ?_
            rintro e w4 ⟨rfl, c', hc', hm4, ho4⟩
            have HM4 := Lib.hid hm4
            have HO4 := Lib.hid (own_only (w := wr.drewN _) HOr.out ho4)
            have HB4 := Lib.hid ((below_drewN HBr.out _).trans (ho4.below (Nat.le_refl g) (Nat.le_of_lt HMr.out.lt)))
            clear hm4 ho4
            go_wp2
            go_step3
            refine ⟨⟨a + k, l, c', n, o, v, xs, _, _, _, _, _, _, _, _, _, _, _, _, _, _, _, _, _, _, _, _, _, _, _, _, _, _, _, _, _, _, _, _, _, _, _, _, _, _, _, _, _, _, _, _, _, _, _, _, _, _, _, _, _, _, _, _, _, _, _, _, _, _, _, _, _, _, _, _, _, _, _, _, _, _, _, _, _, _, _, _, _, _, _, _, _, HM4.out, HO4.out, by omega, by omega, by omega, by omega, HSEEN.out.skip HNF.out (a + k), HB4.out, .inl rfl⟩, ?_⟩
            show runM g s _ _ < runM g s _ _
            rw [HMU.out, runM_of HM4.out]
            simp
            omega
  · intro hl
    go_wp2
    go_step3
    rename_i K hK
    refine hK _ _ (hl 4 _ _ _ ⟨0, 1, 1, 0, false, .slice none 0 0, [], _, _, _, _, _, _, _, _, _, _, _, _, _, _, _, _, _, _, _, _, _, _, _, _, _, _, _, _, _, _, _, _, _, _, _, _, _, _, _, _, _, _, _, _, _, _, _, _, _, _, _, _, _, _, _, _, _, _, _, _, _, _, _, _, _, _, _, _, _, _, _, _, _, _, _, _, _, _, _, _, _, _, _, _, _, HM0.out, own_none _ _ _ _, by omega, by omega, by omega, by omega, .inl ⟨rfl, rfl, fun _ => rfl⟩, HB0.out, .inl rfl⟩ rfl)
end Go.Proofs.YtbklijcdmiffaaaGreatDoor
