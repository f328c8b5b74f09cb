/-
  scan: the tokens of a text; and whether a text is wholly one port name.
-/
import Derived.Test.YtbklijcdmiffaaaGreatDoorProg
import Derived.Test.YtbklijcdmiffaaaGreatDoorBase
import Derived.Test.YtbklijcdmiffaaaGreatDoorScanN
import Derived.Test.YtbklijcdmiffaaaGreatDoorTok
import Derived.Test.YtbklijcdmiffaaaGreatDoorShelf
import Derived.StillTailTactics
import Derived.WalkMore
import Derived.Lib.SmallJoins
import Derived.WalkKit
import Derived.WalkSpells
import Derived.WalkLawsBesides
import Derived.Deep.QuietTactic
import Derived.BigQuiet
import Derived.Lib.Hide
import Derived.Deep.LoopGhost
namespace Go.Proofs.YtbklijcdmiffaaaGreatDoor
open Go.RowKit

/-- what Scan answers -/
def ScanRes (s : ByteArray) (e : Ending) (w' : World) : Prop :=
  ∃ (v : Value) (code l c : Int), e = .returned (.tuple #[v, .int .i64 code, .int .i64 l, .int .i64 c]) ∧ (fullOk s → code = 0) ∧ (code = 0 → ∃ (B n : Nat) (xs : List Value), w'.ownsRow B 71 4 v n xs ∧ n ≤ 65536 ∧ RunOk s n xs)
set_option maxRecDepth 100000 in
set_option maxHeartbeats 4000000 in
theorem scan_any (s : ByteArray) (w : World) (hv : Vars w) (hs : s.size ≤ 16384) :
    Calls Tryz.prog 36 #[.string s] w fun e w' => ScanRes s e w' ∧ Below w.heap.size w w' := by
  have HB0 : Hid (Below w.heap.size w (w.alloc (.cells #[.string s, .int .i64 0, .int .i64 1, .int .i64 1, .bool false, .slice none 0 0] 80))) := (Below.refl _ _).alloc (Nat.le_refl _) _
  have HM0 : Hid (Mach (w.alloc (.cells #[.string s, .int .i64 0, .int .i64 1, .int .i64 1, .bool false, .slice none 0 0] 80)) w.heap.size s 0 1 1 false (.slice none 0 0)) := heap_alloc_new w _
  have HR := Lib.hid (machRun_any s w _ hv hs HB0.out HM0.out)
  clear hv
  go_enter Tryz.func36, Tryz.ntmps36
  go_wp2_with fail
  refine HR.out.mono ?_
  rintro e w1 ⟨code, a, l, c, n, o, v, xs, rfl, hm, hown, hbel, hn, hok, hfull⟩
  have HM := Lib.hid hm
  have HO := Lib.hid hown
  have HB := Lib.hid hbel
  have HOK := Lib.hid hok
  have HFU := Lib.hid hfull
  have m2 := hm.line
  have m3 := hm.col
  have m5 := hm.tokens
  clear hm hown hbel hok hfull HR
  by_cases hcode : code = 0
  · subst hcode
    go_wp2
    refine bodyPost_ret (v := .tuple #[v, .int .i64 0, .int .i64 0, .int .i64 0]) (by simp [results, Tryz.results36, go_sem]) rfl ⟨⟨_, _, _, _, rfl, fun _ => rfl, fun _ => ⟨_, _, _, HO.out, hn, HOK.out (by first | exact rfl | trivial)⟩⟩, HB.out⟩
  · have hcb : (code != 0) = true := by rw [bne_iff_ne]; exact hcode
    have HC := Lib.hid hcode
    clear hcode
    go_wp2
    go_quiet (fail)
    go_wp2
    refine bodyPost_ret (v := .tuple #[.slice none 0 0, .int .i64 code, .int .i64 (l : Int), .int .i64 (c : Int)]) (by simp [results, Tryz.results36, go_sem]) rfl ⟨⟨_, _, _, _, rfl, HFU.out, fun h => absurd h HC.out⟩, below_drewN HB.out _⟩
theorem own_get {w : World} {B e size n : Nat} {v : Value} {xs : List Value} (h : w.ownsRow B e size v n xs) (hn : 0 < n) : ∃ g cap, v = .slice (some ⟨g, 0, none⟩) n cap ∧ ∀ j u, xs[j]? = some u → w.cell? ⟨g, j, none⟩ = some u := by
  obtain ⟨g, cap, hv⟩ := own_some h hn
  refine ⟨g, cap, hv, fun j u hu => ?_⟩
  have := h.cells (g := g) (by rw [hv]; rfl) j u hu
  have hadd : (⟨g, 0, none⟩ : Addr).add j = ⟨g, j, none⟩ := by unfold Addr.add; split <;> simp_all
  rwa [hadd] at this

set_option maxRecDepth 100000 in
set_option maxHeartbeats 4000000 in
theorem token_any (s : ByteArray) (w : World) (hv : Vars w) (hs : s.size ≤ 1048576) :
    Calls Tryz.prog 28 #[.string s] w fun e w' => Tells (fullOk s) e ∧ Below w.heap.size w w' := by
  by_cases h49 : 49 < s.size
  · have HF : Hid (¬ fullOk s) := fun h => by have := (fullOk_size h).2; omega
    clear hv
    go_enter Tryz.func28, Tryz.ntmps28
    go_wp2
    go_ret
    exact ⟨.no HF.out, Below.refl _ _⟩
  have HT := Lib.hid (Tryz.strings_TrimSpace_any s w (by omega) hv.tab hv.utf hv.white)
  have HV := Lib.hid hv
  have HTR := Lib.hid (@fullOk_trim s)
  have HHS := Lib.hid (@fullOk_hash s)
  clear hv
  obtain ⟨T, hT⟩ : ∃ T : ByteArray, T = ⟨(Lib.trimSpaceD s.data.toList).toArray⟩ := ⟨_, rfl⟩
  rw [← hT] at HT
  have HTE : Hid (fullOk s → T = s) := fun h => by
    rw [hT, HTR.out h]
  clear hT HTR
  go_enter Tryz.func28, Tryz.ntmps28
  go_wp2_with fail
  refine HT.out.mono ?_
  rintro e w1 ⟨rfl, hb1⟩
  have HB1 := Lib.hid hb1
  clear hb1 HT
  by_cases hTs : T = s
  · have HTs := Lib.hid hTs
    have hne : (T.toList != s.toList) = false := by rw [bne_eq_false_iff_eq, hTs]
    have hne2 : (T.toList == s.toList) = true := str_same hTs
    clear hTs
    have HC := Lib.hid (Tryz.strings_Contains_one s 35 w1)
    obtain ⟨d, hd⟩ : ∃ d : Bool, d = decide (0 ≤ Lib.indexByte s.data.toList 35) := ⟨_, rfl⟩
    rw [← hd] at HC
    have HD : Hid (fullOk s → d = false) := fun h => by rw [hd]; exact HHS.out h
    clear hd HHS
    go_wp2_with fail
    refine HC.out.mono ?_
    rintro e w1' ⟨rfl, rfl⟩
    clear HC
    cases d with
    | true =>
      have HF : Hid (¬ fullOk s) := fun h => by have := HD.out h; cases this
      clear HD
      go_wp2
      go_ret
      exact ⟨.no HF.out, HB1.out⟩
    | false =>
      clear HD
      have HS := Lib.hid (scan_any s w1' (HV.out.keep HB1.out) (by omega))
      go_wp2_with fail
      refine HS.out.mono ?_
      rintro e w2 ⟨⟨v, code, l, c, rfl, hf, hok⟩, hb2⟩
      have HB2 := Lib.hid (below_after HB1.out HB1.out.size hb2)
      have HFC := Lib.hid hf
      clear hf hb2 HS
      by_cases hcode : code = 0
      · obtain ⟨B, n, xs, hown, hn, hrun⟩ := hok hcode
        clear hok
        subst hcode
        rcases hrun with ⟨rfl, hnf⟩ | ⟨k, t, l', c', rest, hn0, rfl, hr1, hr2⟩
        · obtain ⟨a, cap, rfl, -⟩ := own_form hown
          have HF := Lib.hid hnf
          clear hnf hown
          go_wp2
          go_ret
          exact ⟨.no HF.out, HB2.out⟩
        · obtain ⟨g, cap, rfl, hcells⟩ := own_get hown hn0
          have q0 := hcells 0 _ rfl
          have q1 := hcells 1 _ rfl
          have HR1 := Lib.hid hr1
          have HR2 := Lib.hid hr2
          clear hown hcells hr1 hr2
          by_cases h2 : n = 2
          · subst h2
            by_cases h3 : k = 3
            · subst h3
              by_cases hts : t = s
              · have HF : Hid (fullOk s) := HR1.out ⟨by first | exact rfl | trivial, hts⟩
                have hq1 : (t.toList == s.toList) = true := str_same hts
                clear hts HR1 HR2
                go_wp2
                go_ret
                exact ⟨.yes HF.out, HB2.out⟩
              · have HF : Hid (¬ fullOk s) := fun h => hts (HR2.out h).2.2
                have hq1 : (t.toList == s.toList) = false := str_other hts
                clear hts HR1 HR2
                go_wp2
                go_ret
                exact ⟨.no HF.out, HB2.out⟩
            · have HF : Hid (¬ fullOk s) := fun h => h3 (HR2.out h).2.1
              have hk3 : (k == 3) = false := by rw [beq_eq_false_iff_ne]; exact h3
              clear h3 HR1 HR2
              go_wp2
              go_ret
              exact ⟨.no HF.out, HB2.out⟩
          · have HF : Hid (¬ fullOk s) := fun h => h2 (HR2.out h).1
            have hk2 : ((n : Int) == 2) = false := by rw [beq_eq_false_iff_ne]; omega
            clear h2 HR1 HR2
            go_wp2
            go_ret
            exact ⟨.no HF.out, HB2.out⟩
      · have HF : Hid (¬ fullOk s) := fun h => hcode (HFC.out h)
        have hcb : (code == 0) = false := by rw [beq_eq_false_iff_ne]; exact hcode
        clear hok hcode HFC
        go_wp2
        go_ret
        exact ⟨.no HF.out, HB2.out⟩
  · have HF : Hid (¬ fullOk s) := fun h => hTs (HTE.out h)
    have hne : (T.toList != s.toList) = true := by
      have := str_other hTs
      rw [bne, this]
      rfl
    have hne2 : (T.toList == s.toList) = false := str_other hTs
    clear hTs HTE
    go_wp2
    go_ret
    exact ⟨.no HF.out, HB1.out⟩

end Go.Proofs.YtbklijcdmiffaaaGreatDoor
