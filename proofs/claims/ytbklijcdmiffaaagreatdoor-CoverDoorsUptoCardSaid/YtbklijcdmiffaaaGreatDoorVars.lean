/-
  What the row's list of variables says of memory.
-/
import Derived.Test.YtbklijcdmiffaaaGreatDoorScanD
import Derived.Test.YtbklijcdmiffaaaGreatDoorShelf
import Derived.Test.YtbklijcdmiffaaaGreatDoorRows
import Derived.Lib.LaidU8T
import Derived.MakeChecks
import Derived.HandedShaped
import Derived.LaidLaws
import Derived.PinnedBridge
import Derived.KernelRfl
namespace Go.Proofs.YtbklijcdmiffaaaGreatDoor
open Go.Lib Go.Shelf

theorem laid_plain : (Rows.coverDoorsUptoRow.laid.all fun x => x.2.handleName?.isNone) = true := by kernel_rfl
theorem asciiData : Rows.laid_strings_asciiSpace = (tabData .u8 asciiSpaceTab : DataW Unit) := by kernel_rfl
theorem acceptIs : Rows.laid_unicode_utf8_acceptRanges = acceptData := by kernel_rfl
theorem firstIs : Rows.laid_unicode_utf8_first = firstData := Pinned.utf8First_eq
theorem whiteIs : Rows.laid_unicode_White_Space = whiteData := by kernel_rfl
theorem signsIs : Rows.laid_reach_scan_signs = (.agg (signsL.map fun s => .lit (.string s.data.toList)) : DataW Unit) := by kernel_rfl
section
variable {W : World}
theorem tab_of_reads (h : VarReads Tryz.prog W "strings.asciiSpace" Rows.laid_strings_asciiSpace) : TabIs Tryz.prog W "strings.asciiSpace" .u8 asciiSpaceTab := by
  rw [asciiData] at h
  obtain ⟨g, t, cs, fuel, p, hg, hty, hvar, hd⟩ := h
  obtain rfl := Option.some.inj (asciiGlobal.symm.trans hg)
  obtain rfl := Option.some.inj ((show (Tryz.prog.globals[0]?).map (·.type) = some 77 by kernel_rfl).symm.trans hty)
  unfold TabIs
  rw [hvar, ← cells_of_tab Tryz.underlying77 Tryz.underlying5 (by kernel_rfl) (by kernel_rfl) hd]
theorem signs_of_reads (h : VarReads Tryz.prog W "reach/scan.signs" Rows.laid_reach_scan_signs) : ∀ i s, signsL[i]? = some s → W.cell? ⟨3, i, none⟩ = some (.string s) := by
  rw [signsIs] at h
  obtain ⟨g, t, cs, fuel, p, hg, hty, hvar, hd⟩ := h
  obtain rfl := Option.some.inj ((show Tryz.prog.globalNamed "reach/scan.signs" = some 3 by kernel_rfl).symm.trans hg)
  obtain rfl := Option.some.inj ((show (Tryz.prog.globals[3]?).map (·.type) = some 119 by kernel_rfl).symm.trans hty)
  intro i s hs
  have hi : i < 16 := (List.getElem?_eq_some_iff.1 hs).1
  obtain ⟨fuel', d, q, hdi, he⟩ := Go.Lib.array_elem Tryz.underlying119 hd i hi
  rw [List.getElem?_map, hs] at hdi
  simp only [Option.map_some, Option.some.injEq] at hdi
  subst hdi
  rw [show Tryz.prog.cellsOf 9 = 1 by kernel_rfl, Nat.mul_one] at he
  obtain ⟨s', hc, hx, -⟩ := DataW.trod_string Tryz.underlying9 he
  have hss : s = s' := by
    have h1 := congrArg Prod.fst hx
    simp only [DataW.lit.injEq, Lit.string.injEq] at h1
    exact ByteArray.ext (Array.toList_inj.1 h1)
  subst hss
  have h1 : cs[i]? = some (.string s) := by
    have := congrArg (·[0]?) hc
    rw [← Array.getElem?_toList]
    simpa [List.getElem?_take, List.getElem?_drop] using this
  rw [World.var?_cell hg hvar i, h1]
theorem err_of_reads {name : String} {g : Nat} {t : String} {d : DataW Unit} (h : VarReads Tryz.prog W name (.iface t d)) (hg' : Tryz.prog.globalNamed name = some g) (ht : (Tryz.prog.globals[g]?).map (·.type) = some 140) :
    ∃ ev, W.cell? ⟨g, 0, none⟩ = some ev ∧ (ev = .nilIface ∨ ∃ te pe, ev = .iface te pe) := by
  obtain ⟨g2, t2, cs, fuel, p, hg, hty, hvar, hd⟩ := h
  obtain rfl := Option.some.inj (hg'.symm.trans hg)
  obtain rfl := Option.some.inj (ht.symm.trans hty)
  obtain ⟨fuel', u, v, hc, -, -⟩ := iface_of_trod Tryz.underlying140 hd
  refine ⟨.iface u v, ?_, .inr ⟨u, v, rfl⟩⟩
  rw [World.var?_cell hg hvar 0, ← Array.getElem?_toList, hc]
  rfl
end
theorem u8types : U8Types Tryz.prog Tryz.lays163_ren := { Tryz.lays163 with }
theorem u8extra : U8Extra Tryz.prog Tryz.lays163_ren := { n3 := by kernel_rfl, n4 := by kernel_rfl, y3 := by kernel_rfl, y4 := by kernel_rfl, c5 := by kernel_rfl, c119 := by kernel_rfl, c138 := by kernel_rfl }
theorem whiteextra : WhiteExtra Tryz.prog Tryz.lays163_ren := { n6 := by kernel_rfl, y6 := by kernel_rfl, c3 := by kernel_rfl, c49 := by kernel_rfl, c193 := by kernel_rfl, c194 := by kernel_rfl, c196 := by kernel_rfl, c198 := by kernel_rfl }
theorem vars_of {W : World} (hL : laidMetH Tryz.prog Rows.coverDoorsUptoRow.laid W) (hsh : W.ShapedOpen Tryz.prog) : Vars W := by
  rw [MakeChecks.laidMetH_plain _ _ _ laid_plain] at hL
  have r : ∀ x ∈ Rows.coverDoorsUptoRow.laid, VarReads Tryz.prog W x.1 x.2 := fun x hx => laidMet.reads hL hx
  have r1 := r ("unicode/utf8.acceptRanges", Rows.laid_unicode_utf8_acceptRanges) (by unfold Rows.coverDoorsUptoRow; simp)
  have r2 := r ("strconv.ErrRange", Rows.laid_strconv_ErrRange) (by unfold Rows.coverDoorsUptoRow; simp)
  have r3 := r ("strconv.ErrSyntax", Rows.laid_strconv_ErrSyntax) (by unfold Rows.coverDoorsUptoRow; simp)
  have r4 := r ("unicode.White_Space", Rows.laid_unicode_White_Space) (by unfold Rows.coverDoorsUptoRow; simp)
  have r5 := r ("strings.asciiSpace", Rows.laid_strings_asciiSpace) (by unfold Rows.coverDoorsUptoRow; simp)
  have r6 := r ("reach/scan.signs", Rows.laid_reach_scan_signs) (by unfold Rows.coverDoorsUptoRow; simp)
  have r7 := r ("unicode/utf8.first", Rows.laid_unicode_utf8_first) (by unfold Rows.coverDoorsUptoRow; simp)
  refine ⟨tab_of_reads r5, ?_, ?_, ?_, err_of_reads r3 (by kernel_rfl) (by kernel_rfl), err_of_reads r2 (by kernel_rfl) (by kernel_rfl), signs_of_reads r6⟩
  · exact utf8Tabs_of_readsT u8types u8extra (by rw [← firstIs]; exact r7) (by rw [← acceptIs]; exact r1)
  · exact whiteTab_of_reads ({ Tryz.lays163 with }) whiteextra (by rw [← whiteIs]; exact r4)
  · exact cell_of_shapedOpen_int (P := Tryz.prog) (g := 2) (t := 3) (zero := #[.int .i64 0]) hsh (of_decide_eq_true (by kernel_rfl)) (by kernel_rfl) rfl (by kernel_rfl) (by kernel_rfl) Tryz.underlying3
end Go.Proofs.YtbklijcdmiffaaaGreatDoor
