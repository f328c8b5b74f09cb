/-
  held: the same lists of numbers once more.
-/
import Derived.Test.YtbklijcdmiffaaaGreatDoorProg
import Derived.Test.YtbklijcdmiffaaaGreatDoorBase
import Derived.Test.YtbklijcdmiffaaaGreatDoorRoomG
import Derived.StillTailTactics
import Derived.OneCell
import Derived.Tactics
import Derived.Tactics2
import Derived.WalkMore
import Derived.Lib.SmallJoins
import Derived.Deep.RegionHeld3
import Derived.Deep.AppendLies
import Derived.WalkKit
import Derived.WalkSpells
import Derived.WalkLawsBesides
import Derived.Deep.QuietTactic
import Derived.BigQuiet
import Derived.Lib.Hide
import Derived.Deep.LoopGhost
namespace Go.Proofs.YtbklijcdmiffaaaGreatDoor
open Go.RowKit

theorem portR_info : (Tryz.prog.info? 32).map (fun i => (i.zero, i.size, i.bytes)) = some (some (.agg #[.string ⟨#[]⟩, .int .i64 0, .bool false, .int .i64 0]), 4, 40) := by kernel_rfl
theorem table_info : (Tryz.prog.info? 42).map (fun i => (i.zero, i.size, i.bytes)) = some (some (.slice none 0 0), 1, 24) := by kernel_rfl
theorem guards_info : (Tryz.prog.info? 47).map (fun i => (i.zero, i.size, i.bytes)) = some (some (.slice none 0 0), 1, 24) := by kernel_rfl
/-- the state of held: the box, the block of the result, the copy's block -/
structure HeldS (w0 : World) (cs : List Value) (n : NetD) (ap at_ ag : Option Addr) (M : List Nat) (v1 v2 v3 : Value) (wr : World) : Prop where
  box : At (mask M wr) w0.heap.size cs
  ports : SlA 4 portE (mask M wr) ap n.ports
  tables : SlA 1 tableK (mask M wr) at_ n.tables
  guards : SlA 1 guardsK (mask M wr) ag n.guards
  res : wr.heap[w0.heap.size + 1]? = some (.cells #[.int .i64 0, .slice none 0 0, .slice none 0 0, .slice none 0 0] 26 (0, 0))
  copy : wr.heap[w0.heap.size + 1 + 1]? = some (.cells #[.int .i64 n.bits, v1, v2, v3] 26 (0, 0))
  masked : ∀ b, b ∈ M → b < wr.heap.size
  below : Below w0.heap.size w0 wr
section
variable {w0 wr : World} {cs : List Value} {n : NetD} {ap at_ ag : Option Addr} {M : List Nat} {v1 v2 v3 : Value}
theorem HeldS.cell (h : HeldS w0 cs n ap at_ ag M v1 v2 v3 wr) (j : Nat) (u : Value) (hj : cs[j]? = some u) : wr.cell? ⟨w0.heap.size, j, none⟩ = some u := mask_keeps M wr _ _ (h.box j u hj)
theorem HeldS.lt (h : HeldS w0 cs n ap at_ ag M v1 v2 v3 wr) : w0.heap.size + 1 + 1 < wr.heap.size := (Array.getElem?_eq_some_iff.1 h.copy).1
/-- a new mask, what it leaves open stands -/
theorem HeldS.turn (h : HeldS w0 cs n ap at_ ag M v1 v2 v3 wr) {M' : List Nat} {w' : World} (hk : Keeps (mask M wr) (mask M' w')) {row : Option Nat} (hg : wr.grownBy w' row) (hr : ∀ k, row = some k → w0.heap.size + 3 ≤ k)
    (hM : ∀ b, b ∈ M' → b < w'.heap.size) : HeldS w0 cs n ap at_ ag M' v1 v2 v3 w' where
  box := h.box.keep hk
  ports := h.ports.stay hk portE_stays
  tables := h.tables.stay hk tableK_stays
  guards := h.guards.stay hk guardsK_stays
  res := (hg.block _ (by have := h.lt; omega) (fun e => by have := hr _ e.symm; omega)).trans h.res
  copy := (hg.block _ h.lt (fun e => by have := hr _ e.symm; omega)).trans h.copy
  masked := hM
  below := h.below.grown hg h.below.size (fun k hk => by have := hr k hk; omega)
/-- the copy's field is stored -/
theorem HeldS.set (h : HeldS w0 cs n ap at_ ag M v1 v2 v3 wr) (hm : w0.heap.size + 1 + 1 ∈ M) (i : Nat) (x : Value) {v1' v2' v3' : Value}
    (hc : (#[Value.int .i64 n.bits, v1, v2, v3] : Array Value).setIfInBounds i x = #[.int .i64 n.bits, v1', v2', v3']) : HeldS w0 cs n ap at_ ag M v1' v2' v3' (wr.setCell ⟨w0.heap.size + 1 + 1, i, none⟩ x) where
  box := h.box.keep (mask_set _ _ hm)
  ports := h.ports.stay (mask_set _ _ hm) portE_stays
  tables := h.tables.stay (mask_set _ _ hm) tableK_stays
  guards := h.guards.stay (mask_set _ _ hm) guardsK_stays
  res := (Below.heap_setCell wr ⟨w0.heap.size + 1 + 1, i, none⟩ x (w0.heap.size + 1) (by simp)).trans h.res
  copy := by
    have := Joins.block_setCell h.copy (i := i) x
    rw [hc] at this
    exact this
  masked := fun b hb => by simpa using h.masked b hb
  below := h.below.setCell (by show w0.heap.size ≤ w0.heap.size + 1 + 1; omega) _
/-- less is masked -/
theorem HeldS.down (h : HeldS w0 cs n ap at_ ag M v1 v2 v3 wr) {M' : List Nat} (hM : ∀ b, b ∈ M' → b ∈ M) : HeldS w0 cs n ap at_ ag M' v1 v2 v3 wr :=
  h.turn (mask_down M wr hM) (row := none) ⟨rfl, rfl, rfl, Nat.le_refl _, fun _ _ _ => rfl⟩ (fun k hk => by cases hk) fun b hb => h.masked b (hM b hb)
/-- a row grows by one element -/
theorem HeldS.grow {A : List Nat} {v : Value} (h : HeldS w0 cs n ap at_ ag (A ++ ownL v) v1 v2 v3 wr) {α : Type} {sz : Nat} {E : World → List Value → α → Prop} (hE : Stays E) {t : TypeId} {l : List α} {x : α} {css : List (List Value)} {xs : List Value} {W w1 : World} {g m cap H' : Nat}
    (hW : Below wr.heap.size wr W) (hcl : css.length = l.length) (hel : ∀ (i : Nat) (c : List Value) (y : α), css[i]? = some c → l[i]? = some y → c.length = sz ∧ E (mask (A ++ ownL v) wr) c y)
    (hown : w1.ownsRow (w0.heap.size + 3) t sz (.slice (some ⟨g, 0, none⟩) m cap) m (css.flatten ++ xs)) (hm : m = l.length + 1) (hg : W.grownBy w1 v.ownBlock) (hat : v.ownBlock = some g ∨ g = H') (hH : W.heap.size = H')
    (hr : ∀ k, v.ownBlock = some k → w0.heap.size + 3 ≤ k) (hxs : xs.length = sz) (hx : E (mask (A ++ ownL v) wr) xs x) :
    HeldS w0 cs n ap at_ ag (A ++ [g]) v1 v2 v3 w1 ∧ RowOf sz E (A ++ [g]) t w1 (w0.heap.size + 3) (.slice (some ⟨g, 0, none⟩) m cap) (l ++ [x]) ∧ Keeps (mask (A ++ ownL v) wr) (mask (A ++ [g]) w1) ∧
      (∀ b, b < wr.heap.size → v.ownBlock ≠ some b → w1.heap[b]? = wr.heap[b]?) ∧ (g ∈ A → v.ownBlock = some g) := by
  subst hH
  have hk : Keeps (mask (A ++ ownL v) wr) (mask (A ++ [g]) w1) := (mask_below hW).trans (grow_mask hg hat)
  have hgl := hown.lt g rfl
  refine ⟨?_, RowOf.push hcl hel hk hE hm hown hxs (hE _ _ hk _ _ hx), hk, fun b hb hne => (hg.block b (Nat.lt_of_lt_of_le hb hW.size) (fun e => hne e.symm)).trans (hW.block b hb), fun hgA => ?_⟩
  · have hg' : wr.grownBy w1 v.ownBlock := ⟨hg.os.trans hW.os, hg.tape.trans hW.tape, hg.output.trans hW.output, Nat.le_trans hW.size hg.size, fun b hb hne => (hg.block b (Nat.lt_of_lt_of_le hb hW.size) hne).trans (hW.block b hb)⟩
    refine h.turn hk hg' hr fun b hb => ?_
    rcases List.mem_append.1 hb with hb | hb
    · have := h.masked b (List.mem_append_left _ hb)
      have := hg'.size
      omega
    · simp only [List.mem_singleton] at hb
      subst hb
      omega
  · rcases hat with h1 | h1
    · exact h1
    · have := h.masked g (List.mem_append_left _ hgA)
      have := hW.size
      omega
end

theorem own_block {α : Type} {sz : Nat} {E : World → List Value → α → Prop} {M : List Nat} {t : TypeId} {w : World} {B : Nat} {v : Value} {l : List α} (h : RowOf sz E M t w B v l) : ∀ b, v.ownBlock = some b → B ≤ b := fun _ hb => (h.lt hb).1
theorem mask_out {M : List Nat} {w : World} {p : Addr} {u : Value} (h : (mask M w).cell? p = some u) : p.block ∉ M := fun hm => by
  rw [cell_mask, if_pos hm] at h
  cases h
theorem mask_far {A : List Nat} {w : World} {v : Value} {b i : Nat} {u : Value} (h : (mask (A ++ ownL v) w).cell? ⟨b, i, none⟩ = some u) : some b ≠ v.ownBlock := fun e => mask_out h (List.mem_append_right _ (mem_ownL.2 e.symm))

theorem entriesR_at2 {w : World} {a : Option Addr} {l : List EntryD} (h : SlA 5 entryR w a l) {k : Nat} (hk : k < l.length) : ∃ b off ai ci ac cc ao co, a = some ⟨b, off, none⟩ ∧
    w.cell? ⟨b, off + k * 5, none⟩ = some (.string l[k].name) ∧ w.cell? ⟨b, off + k * 5 + 1, none⟩ = some (.slice ai l[k].ins.length ci) ∧ w.cell? ⟨b, off + k * 5 + 2, none⟩ = some (.slice ac l[k].cubes.length cc) ∧
    w.cell? ⟨b, off + k * 5 + 3, none⟩ = some (.string l[k].write) ∧ w.cell? ⟨b, off + k * 5 + 4, none⟩ = some (.slice ao l[k].outs.length co) ∧
    entryR w [.string l[k].name, .slice ai l[k].ins.length ci, .slice ac l[k].cubes.length cc, .string l[k].write, .slice ao l[k].outs.length co] l[k] := by
  obtain ⟨b, off, cs, ha, _, ⟨vi, vc, vo, rfl, s1, s2, ⟨ai, ci, rfl, r1⟩, ⟨ac, cc, rfl, r2⟩, ⟨ao, co, rfl, r3⟩⟩, hc⟩ := h.get hk
  exact ⟨b, off, ai, ci, ac, cc, ao, co, ha, hc 0 _ rfl, hc 1 _ rfl, hc 2 _ rfl, hc 3 _ rfl, hc 4 _ rfl, ⟨_, _, _, rfl, s1, s2, ⟨ai, ci, rfl, r1⟩, ⟨ac, cc, rfl, r2⟩, ⟨ao, co, rfl, r3⟩⟩⟩
theorem guardsLR_at2 {w : World} {a : Option Addr} {l : List GuardD} (h : SlA 2 guardR w a l) {k : Nat} (hk : k < l.length) : ∃ b off ac cc, a = some ⟨b, off, none⟩ ∧
    w.cell? ⟨b, off + k * 2, none⟩ = some (.bool l[k].permit) ∧ w.cell? ⟨b, off + k * 2 + 1, none⟩ = some (.slice ac l[k].cubes.length cc) ∧ guardR w [.bool l[k].permit, .slice ac l[k].cubes.length cc] l[k] := by
  obtain ⟨b, off, cs, ha, _, ⟨vc, rfl, ⟨ac, cc, rfl, r1⟩⟩, hc⟩ := h.get hk
  exact ⟨b, off, ac, cc, ha, hc 0 _ rfl, hc 1 _ rfl, ⟨_, rfl, ac, cc, rfl, r1⟩⟩

theorem held_start (w : World) (N : List Nat) (hN : ∀ b ∈ N, b < w.heap.size) (n : NetD) (ap at_ ag : Option Addr) (cp ct cg : Nat) (h1 : SlA 4 portE (mask N w) ap n.ports) (h2 : SlA 1 tableK (mask N w) at_ n.tables) (h3 : SlA 1 guardsK (mask N w) ag n.guards) :
    HeldS w [.int .i64 n.bits, .slice ap n.ports.length cp, .slice at_ n.tables.length ct, .slice ag n.guards.length cg] n ap at_ ag ([w.heap.size + 1 + 1, w.heap.size + 1] ++ N) (.slice none 0 0) (.slice none 0 0) (.slice none 0 0) (((w.alloc (.cells #[.int .i64 n.bits, .slice ap n.ports.length cp, .slice at_ n.tables.length ct, .slice ag n.guards.length cg] 26)).alloc (.cells #[.int .i64 0, .slice none 0 0, .slice none 0 0, .slice none 0 0] 26)).alloc (.cells #[.int .i64 n.bits, .slice none 0 0, .slice none 0 0, .slice none 0 0] 26)) := by
  have hk : Keeps (mask N w) (mask ([w.heap.size + 1 + 1, w.heap.size + 1] ++ N) (((w.alloc (.cells #[.int .i64 n.bits, .slice ap n.ports.length cp, .slice at_ n.tables.length ct, .slice ag n.guards.length cg] 26)).alloc (.cells #[.int .i64 0, .slice none 0 0, .slice none 0 0, .slice none 0 0] 26)).alloc (.cells #[.int .i64 n.bits, .slice none 0 0, .slice none 0 0, .slice none 0 0] 26))) := mask_more ((((Keeps.alloc _ _).trans (Keeps.alloc _ _)).trans (Keeps.alloc _ _)).x N) (fun b hb => by
    rcases List.mem_append.1 hb with h | h
    · simp at h
      exact .inr (by omega)
    · exact .inl h)
  refine ⟨fun i u hu => mask_cell (Keeps.alloc _ _ _ _ (Keeps.alloc _ _ _ _ (At.new w [.int .i64 n.bits, .slice ap n.ports.length cp, .slice at_ n.tables.length ct, .slice ag n.guards.length cg] 26 i u hu))) (fun hb => by
    rcases List.mem_append.1 hb with h | h
    · simp at h
      omega
    · have := hN _ h
      simp at this), h1.stay hk portE_stays, h2.stay hk tableK_stays, h3.stay hk guardsK_stays, ?_, ?_, ?_, ?_⟩
  · have := heap_alloc_new (w.alloc (.cells #[.int .i64 n.bits, .slice ap n.ports.length cp, .slice at_ n.tables.length ct, .slice ag n.guards.length cg] 26)) (.cells #[.int .i64 0, .slice none 0 0, .slice none 0 0, .slice none 0 0] 26)
    rw [Below.heap_alloc _ _ _ (by simp)]
    simpa using this
  · have := heap_alloc_new ((w.alloc (.cells #[.int .i64 n.bits, .slice ap n.ports.length cp, .slice at_ n.tables.length ct, .slice ag n.guards.length cg] 26)).alloc (.cells #[.int .i64 0, .slice none 0 0, .slice none 0 0, .slice none 0 0] 26)) (.cells #[.int .i64 n.bits, .slice none 0 0, .slice none 0 0, .slice none 0 0] 26)
    simpa using this
  · intro b hb
    rcases List.mem_append.1 hb with h | h
    · simp at h
      simp
      omega
    · have := hN _ h
      simp
      omega
  · exact (((Below.refl _ _).alloc (Nat.le_refl _) _).alloc (by simp) _).alloc (by simp; omega) _
set_option maxRecDepth 100000 in
set_option maxHeartbeats 16000000 in
theorem held_any (cs : List Value) (n : NetD) (w : World) (N : List Nat) (hN : ∀ b ∈ N, b < w.heap.size) (hn : netK (mask N w) cs n) :
    Calls Tryz.prog 12 #[.agg cs.toArray] w fun e w' => (∃ cs', e = .returned (.agg cs'.toArray) ∧ netK (mask N w') cs' n) ∧ Below w.heap.size w w' := by
  obtain ⟨i0, hi0', hz0, hz1, hz2⟩ := info_parts portR_info
  obtain ⟨j0, hj0, hy0, hy1, hy2⟩ := info_parts entry_info
  obtain ⟨k0, hk0, hx0, hx1, hx2⟩ := info_parts guard_info
  obtain ⟨l0, hl0, hu0, hu1, hu2⟩ := info_parts table_info
  obtain ⟨m0, hm0, hv0, hv1, hv2⟩ := info_parts guards_info
  obtain ⟨vp, vt, vg, rfl, hbits, ⟨ap, cp, rfl, -, hp⟩, ⟨at_, ct, rfl, -, ht⟩, ⟨ag, cg, rfl, -, hg⟩⟩ := hn
  have hlt_ := ht.1
  have hlp_ := hp.1
  have hlg_ := hg.1
  have HB := Lib.hid hbits
  have HNB := Lib.hid hN
  have HS0 := Lib.hid (held_start w N hN n ap at_ ag cp ct cg hp ht hg)
  clear hbits hp ht hg hN
  go_enter Tryz.func12, Tryz.ntmps12
  go_wp2
  go_loopw [4] (fun i wr => ∃ (k : Nat) (v1 : Value), k ≤ n.ports.length ∧ i = .int .i64 k ∧ Hid (HeldS w [.int .i64 n.bits, .slice ap n.ports.length cp, .slice at_ n.tables.length ct, .slice ag n.guards.length cg] n ap at_ ag (([w.heap.size + 1 + 1, w.heap.size + 1] ++ N) ++ ownL v1) v1 (.slice none 0 0) (.slice none 0 0) wr) ∧ Hid (RowOf 4 portE (([w.heap.size + 1 + 1, w.heap.size + 1] ++ N) ++ ownL v1) 32 wr (w.heap.size + 3) v1 (n.ports.take k))) (fun i _ => n.ports.length - (intOf i).toNat)
  case atStart =>
    have E0 : ([w.heap.size + 1 + 1, w.heap.size + 1] ++ N) ++ ownL (.slice none 0 0) = ([w.heap.size + 1 + 1, w.heap.size + 1] ++ N) := by rw [ownL_nil, List.append_nil]
    refine ⟨0, (.slice none 0 0), Nat.zero_le _, rfl, ?_⟩
    rw [E0]
    exact ⟨HS0, RowOf.nil _ _ _ _ _⟩
  case round =>
    clear HS0
    obtain ⟨k, v1, hk, rfl, hz, hrow⟩ := hrel
    have x1 := hz.out.cell 1 _ rfl
    have HOB := Lib.hid (own_block hrow.out)
    by_cases hlt : k < n.ports.length
    · obtain ⟨b, o, rfl, e0, e1, e2, e3, hpn, hpb, hpt⟩ := ports_at hz.out.ports hlt
      have f0 := mask_keeps _ _ _ _ e0
      have f1 := mask_keeps _ _ _ _ e1
      have f2 := mask_keeps _ _ _ _ e2
      have f3 := mask_keeps _ _ _ _ e3
      have hbl := cell_lt f0
      dsimp only at hbl
      have HFAR := Lib.hid (mask_far e0)
      have hbne : b ≠ w.heap.size + 1 + 1 := fun e => mask_out e0 (by simp [e])
      have c1 : wr.cell? ⟨w.heap.size + 1 + 1, 1, none⟩ = some v1 := Joins.cell_of_block hz.out.copy 1
      have c2 : wr.frozen? ⟨w.heap.size + 1 + 1, 1, none⟩ = false := Joins.unfrozen_of_block hz.out.copy 1
      have hgl := hz.out.lt
      have HPE : Hid (portE (mask (([w.heap.size + 1 + 1, w.heap.size + 1] ++ N) ++ ownL v1) wr) [.string n.ports[k].name, .int .i64 n.ports[k].box, .bool n.ports[k].inn, .int .i64 n.ports[k].to] n.ports[k]) := ⟨rfl, hpn, hpb, hpt⟩
      have HTK := Lib.hid (take_snoc n.ports k hlt)
      have hlen : (n.ports.take k).length = k := by simp; omega
      obtain ⟨css, hown, hcl, hel⟩ := hrow.out
      rw [hlen] at hown
      have HOWN := Lib.hid hown
      have HCL := Lib.hid hcl
      have HEL := Lib.hid hel
      have HLEN := Lib.hid hlen
      clear hown hcl hel hlen e0 e1 e2 e3 hpn hpb hpt
      generalize hp : n.ports[k] = p at *
      clear hp
      have hne : some (w.heap.size + 1 + 1) ≠ v1.ownBlock := fun e => by have := HOB.out _ e.symm; omega
      have hne0 : some w.heap.size ≠ v1.ownBlock := fun e => by have := HOB.out _ e.symm; omega
      have hi0 : (0 : Int) ≤ (k : Int) := by omega
      have hi1 : (k : Int) < (n.ports.length : Int) := by omega
      go_wp2_with fail
      rw [← id_eq (Op.load 22 (Operand.tmp 21))]
      go_region_held3 (fun w' => w'.cell? ⟨w.heap.size, 1, none⟩ = some (.slice (some ⟨b, o, none⟩) n.ports.length cp) ∧ w'.cell? ⟨b, o + k * 4, none⟩ = some (.string p.name) ∧ w'.cell? ⟨b, o + k * 4 + 1, none⟩ = some (.int .i64 p.box) ∧ w'.cell? ⟨b, o + k * 4 + 2, none⟩ = some (.bool p.inn) ∧ w'.cell? ⟨b, o + k * 4 + 3, none⟩ = some (.int .i64 p.to))
        (first
          | exact ⟨x1, f0, f1, f2, f3⟩
          | go_keep
          | (go_split_ands
             refine ⟨?_, ?_, ?_, ?_, ?_⟩ <;> (rw [World.cell?_setCell_other _ _ _ _ (by simp <;> omega)]; assumption))
          | (go_split_ands
             refine ⟨?_, ?_, ?_, ?_, ?_⟩
             · (rw [hgrow.cell_far _ (by simp; omega) hne0]; assumption)
             · (rw [hgrow.cell_far _ (by simp; omega) HFAR.out]; assumption)
             · (rw [hgrow.cell_far _ (by simp; omega) HFAR.out]; assumption)
             · (rw [hgrow.cell_far _ (by simp; omega) HFAR.out]; assumption)
             · (rw [hgrow.cell_far _ (by simp; omega) HFAR.out]; assumption)))
        ((refine step_append_lies _ (by rfl) _ _ _ (by rfl) (w.heap.size + 3) 32 i0 _ 4 40 Tryz.underlying22 hi0' hz0 hz1 hz2 rfl (by decide) v1 k css.flatten (by rfl) ((HOWN.out.alloc _).drew)
            ⟨wr.heap.size, 0, none⟩ 1 1 [.string p.name, .int .i64 p.box, .bool p.inn, .int .i64 p.to] (by rfl) (by rfl) (World.news_of_block (cs := #[.string p.name, .int .i64 p.box, .bool p.inn, .int .i64 p.to]) (t := 32) (fr := (0, 0)) (heap_alloc_new wr _)) (by simp [Value.oneCell'])
            (by omega) (by unfold maxLen; omega) (by omega) (by simp; omega) (wr.heap.size + 1) (by simp) ?_; intro gg cap w1 hown1 hgrow hat hlt1; have hc5 : w1.cell? ⟨w.heap.size + 1 + 1, 1, none⟩ = some v1 := (hgrow.cell_far ⟨w.heap.size + 1 + 1, 1, none⟩ (by simp; omega) hne).trans ((World.cell?_alloc_lt wr _ ⟨w.heap.size + 1 + 1, 1, none⟩ hgl).trans c1); have hf5 : w1.frozen? ⟨w.heap.size + 1 + 1, 1, none⟩ = false := (hgrow.frozen_far ⟨w.heap.size + 1 + 1, 1, none⟩ (by simp; omega) hne).trans ((World.frozen?_of_block (Below.heap_alloc wr _ (w.heap.size + 1 + 1) hgl)).trans c2)))
      all_goals
        clear c1 c2 hc5 hf5 x1 f0 f1 f2 f3
        obtain ⟨g1, g2, g3, g4, g5⟩ := hz.out.grow (A := ([w.heap.size + 1 + 1, w.heap.size + 1] ++ N)) portE_stays (H' := wr.heap.size + 1) (W := (wr.alloc (.cells #[.string p.name, .int .i64 p.box, .bool p.inn, .int .i64 p.to] 32)).drew) (below_drewN ((Below.refl _ _).alloc (Nat.le_refl _) _) 1) HCL.out HEL.out hown1 (by rw [HLEN.out]) hgrow hat (by simp) HOB.out rfl HPE.out
        rw [← HTK.out] at g2
        have HG1 := Lib.hid (g1.set (by simp) 1 (.slice (some ⟨gg, 0, none⟩) (k + 1) cap) rfl)
        have HG2 := Lib.hid (g2.keep (mask_set ⟨w.heap.size + 1 + 1, 1, none⟩ (.slice (some ⟨gg, 0, none⟩) (k + 1) cap) (by simp)) portE_stays (fun b hb => Below.heap_setCell w1 _ _ _ (by have := (g2.lt hb).1; simp; omega)))
        clear g1 g2 g3 g4 g5 hown1 hgrow hat hlt1 HOWN HCL HEL HPE hz hrow
        go_wp2
        go_roundw
        case rel => exact ⟨k + 1, .slice (some ⟨gg, 0, none⟩) (k + 1) cap, by omega, by go_num, HG1, HG2⟩
        case measure => simp [intOf]; omega
    · obtain rfl : k = n.ports.length := by omega
      have HPS : Hid (Sl 4 portE (mask ([w.heap.size + 1 + 1, w.heap.size + 1] ++ N) wr) v1 n.ports) := by
        have := hrow.out.sl (by simp; omega) portE_stays ([w.heap.size + 1 + 1, w.heap.size + 1] ++ N) (fun b hb => List.mem_append_left _ hb) (fun b hb hm => by have := HOB.out b hb; rcases List.mem_append.1 hm with h | h; (simp at h; omega); (have := HNB.out b h; omega))
        rwa [List.take_length] at this
      have HZ1 := Lib.hid (hz.out.down (M' := ([w.heap.size + 1 + 1, w.heap.size + 1] ++ N)) (fun b hb => List.mem_append_left _ hb))
      clear hz hrow hk HOB
      go_wp2
      clear hlt x1
      have FP := HPS
      clear HPS
      go_loopw [5, 6, 7] (fun i _ _ wr => ∃ (k : Nat) (v2 : Value), k ≤ n.tables.length ∧ i = .int .i64 k ∧ Hid (HeldS w [.int .i64 n.bits, .slice ap n.ports.length cp, .slice at_ n.tables.length ct, .slice ag n.guards.length cg] n ap at_ ag (([w.heap.size + 1 + 1, w.heap.size + 1] ++ N) ++ ownL v2) v1 v2 (.slice none 0 0) wr) ∧ Hid (RowOf 1 tableK (([w.heap.size + 1 + 1, w.heap.size + 1] ++ N) ++ ownL v2) 42 wr (w.heap.size + 3) v2 (n.tables.take k)) ∧ Hid (Sl 4 portE (mask (([w.heap.size + 1 + 1, w.heap.size + 1] ++ N) ++ ownL v2) wr) v1 n.ports)) (fun i _ _ _ => n.tables.length - (intOf i).toNat)
      case atStart =>
        have E0 : ([w.heap.size + 1 + 1, w.heap.size + 1] ++ N) ++ ownL (.slice none 0 0) = ([w.heap.size + 1 + 1, w.heap.size + 1] ++ N) := by rw [ownL_nil, List.append_nil]
        refine ⟨0, .slice none 0 0, Nat.zero_le _, rfl, ?_⟩
        rw [E0]
        exact ⟨HZ1, RowOf.nil _ _ _ _ _, FP⟩
      case round =>
        clear HZ1 FP
        obtain ⟨k, v2, hk, rfl, hz, hrow, FP⟩ := hrel
        have x2 := hz.out.cell 2 _ rfl
        by_cases hlt : k < n.tables.length
        · obtain ⟨b1, o1, tv, rfl, e1, s1⟩ := tablesK_at hz.out.tables hlt
          obtain ⟨a1, c1, rfl, -, s1⟩ := s1
          have hl1 := s1.1
          have S1 := Lib.hid s1
          have E1 := Lib.hid e1
          have h1 := mask_keeps _ _ _ _ e1
          have HTK := Lib.hid (take_snoc n.tables k hlt)
          clear s1 e1
          generalize hT : n.tables[k] = T at *
          clear hT
          go_wp2
          go_loopw [6, 7] (fun t i wr => ∃ (m : Nat), m ≤ T.length ∧ i = .int .i64 m ∧ Hid (HeldS w [.int .i64 n.bits, .slice ap n.ports.length cp, .slice (some ⟨b1, o1, none⟩) n.tables.length ct, .slice ag n.guards.length cg] n ap (some ⟨b1, o1, none⟩) ag ((([w.heap.size + 1 + 1, w.heap.size + 1] ++ N) ++ ownL v2) ++ ownL t) v1 v2 (.slice none 0 0) wr) ∧ Hid (RowOf 5 entryR ((([w.heap.size + 1 + 1, w.heap.size + 1] ++ N) ++ ownL v2) ++ ownL t) 46 wr (w.heap.size + 3) t (T.take m)) ∧ Hid (RowOf 1 tableK ((([w.heap.size + 1 + 1, w.heap.size + 1] ++ N) ++ ownL v2) ++ ownL t) 42 wr (w.heap.size + 3) v2 (n.tables.take k)) ∧
            Hid (∀ b, t.ownBlock = some b → b ∉ ([w.heap.size + 1 + 1, w.heap.size + 1] ++ N) ++ ownL v2) ∧ Hid (SlA 5 entryR (mask ((([w.heap.size + 1 + 1, w.heap.size + 1] ++ N) ++ ownL v2) ++ ownL t) wr) a1 T) ∧ Hid ((mask ((([w.heap.size + 1 + 1, w.heap.size + 1] ++ N) ++ ownL v2) ++ ownL t) wr).cell? ⟨b1, o1 + k, none⟩ = some (.slice a1 T.length c1)) ∧ Hid (Sl 4 portE (mask ((([w.heap.size + 1 + 1, w.heap.size + 1] ++ N) ++ ownL v2) ++ ownL t) wr) v1 n.ports)) (fun _ i _ => T.length - (intOf i).toNat)
          case atStart =>
            have E0 : (([w.heap.size + 1 + 1, w.heap.size + 1] ++ N) ++ ownL v2) ++ ownL (.slice none 0 0) = ([w.heap.size + 1 + 1, w.heap.size + 1] ++ N) ++ ownL v2 := by rw [ownL_nil, List.append_nil]
            rw [E0]
            exact ⟨0, Nat.zero_le _, rfl, hz, RowOf.nil _ _ _ _ _, hrow, fun b hb => by simp [Value.ownBlock] at hb, S1, E1, FP⟩
          case round =>
            clear hz hrow S1 E1 FP h1 x2
            obtain ⟨m, hm, rfl, hz, hrow1, hrow, hdis, hs, he, FP⟩ := hrel
            have x2 := hz.out.cell 2 _ rfl
            have h1 := mask_keeps _ _ _ _ he.out
            have HOB := Lib.hid (own_block hrow1.out)
            by_cases hml : m < T.length
            · obtain ⟨b2, o2, ai, ci, ac, cc, ao, co, rfl, e0, e1, e2, e3, e4, hE⟩ := entriesR_at2 hs.out hml
              have f0 := mask_keeps _ _ _ _ e0
              have f1 := mask_keeps _ _ _ _ e1
              have f2 := mask_keeps _ _ _ _ e2
              have f3 := mask_keeps _ _ _ _ e3
              have f4 := mask_keeps _ _ _ _ e4
              have HE := Lib.hid hE
              have HTM := Lib.hid (take_snoc T m hml)
              have hlen : (T.take m).length = m := by simp; omega
              obtain ⟨css, hown, hcl, hel⟩ := hrow1.out
              rw [hlen] at hown
              have HOWN := Lib.hid (hown.alloc (.cells #[.string T[m].name, .slice ai T[m].ins.length ci, .slice ac T[m].cubes.length cc, .string T[m].write, .slice ao T[m].outs.length co] 46))
              have HCL := Lib.hid hcl
              have HEL := Lib.hid hel
              have HLEN := Lib.hid hlen
              clear hown hcl hel hlen e0 e1 e2 e3 e4 hE
              generalize hx : T[m] = x at *
              clear hx
              have HBS : Hid (w.heap.size + 3 ≤ (wr.alloc (.cells #[.string x.name, .slice ai x.ins.length ci, .slice ac x.cubes.length cc, .string x.write, .slice ao x.outs.length co] 46)).heap.size) := by have := hz.out.lt; simp [Hid]; omega
              have HNW := Lib.hid (World.news_of_block (cs := #[.string x.name, .slice ai x.ins.length ci, .slice ac x.cubes.length cc, .string x.write, .slice ao x.outs.length co]) (t := 46) (fr := (0, 0)) (heap_alloc_new wr (.cells #[.string x.name, .slice ai x.ins.length ci, .slice ac x.cubes.length cc, .string x.write, .slice ao x.outs.length co] 46)))
              have HONE : Hid (∀ u ∈ ([.string x.name, .slice ai x.ins.length ci, .slice ac x.cubes.length cc, .string x.write, .slice ao x.outs.length co] : List Value), u.oneCell' = true) := by simp [Hid, Value.oneCell']
              have H63 : Hid (m + 1 ≤ maxLen) := by unfold Hid maxLen; omega
              have HBY : Hid ((m + 1) * 104 ≤ 140737488355328) := by unfold Hid; omega
              go_wp2_with (at_builtin; refine wpList_append_lies _ rfl _ _ 42 rfl (w.heap.size + 3) 46 j0 _ 5 104 Tryz.underlying42 hj0 hy0 hy1 hy2 rfl (by decide) _ _ _ rfl HOWN.out ⟨wr.heap.size, 0, none⟩ 1 1 [.string x.name, .slice ai x.ins.length ci, .slice ac x.cubes.length cc, .string x.write, .slice ao x.outs.length co] rfl rfl HNW.out HONE.out Nat.one_pos H63.out HBY.out HBS.out (wr.heap.size + 1) (by simp) ?_)
              intro g cap w1 hown1 hgrow hat hlt1
              obtain ⟨q1, q2, q3, q4, q5⟩ := hz.out.grow (A := ([w.heap.size + 1 + 1, w.heap.size + 1] ++ N) ++ ownL v2) entryR_stays (H' := wr.heap.size + 1) (W := wr.alloc (.cells #[.string x.name, .slice ai x.ins.length ci, .slice ac x.cubes.length cc, .string x.write, .slice ao x.outs.length co] 46)) ((Below.refl _ _).alloc (Nat.le_refl _) _) HCL.out HEL.out hown1 (by rw [HLEN.out]) hgrow hat (by simp) HOB.out rfl HE.out
              rw [← HTM.out] at q2
              have Q1 := Lib.hid q1
              have Q2 := Lib.hid q2
              have Q3 := Lib.hid (hrow.out.keep q3 tableK_stays (fun b hb => q4 b (hrow.out.lt hb).2 (fun e => hdis.out b e (List.mem_append_right _ (mem_ownL.2 hb)))))
              have Q4 : Hid (∀ b, (Value.slice (some ⟨g, 0, none⟩) (m + 1) cap).ownBlock = some b → b ∉ ([w.heap.size + 1 + 1, w.heap.size + 1] ++ N) ++ ownL v2) := fun b hb hm => by
                obtain rfl : g = b := by simpa [Value.ownBlock] using hb
                exact hdis.out g (q5 hm) hm
              have Q5 := Lib.hid (hs.out.stay q3 entryR_stays)
              have Q6 := Lib.hid (q3 _ _ he.out)
              replace FP := Lib.hid (FP.out.stay q3 portE_stays)
              clear q1 q2 q3 q4 q5 hown1 hgrow hat hlt1 HOWN HCL HEL HLEN HE HTM HNW HBS hz hrow1 hrow hdis hs he HOB h1 x2 f0 f1 f2 f3 f4
              go_wp2
              go_roundw
              case rel => exact ⟨m + 1, by omega, by go_num, Q1, Q2, Q3, Q4, Q5, Q6, FP⟩
              case measure => simp [intOf]; omega
            · obtain rfl : m = T.length := by omega
              have HT2 : Sl 5 entryR (mask (([w.heap.size + 1 + 1, w.heap.size + 1] ++ N) ++ ownL v2) wr) u6 T := by
                have := hrow1.out.sl (by simp; omega) entryR_stays (([w.heap.size + 1 + 1, w.heap.size + 1] ++ N) ++ ownL v2) (fun b hb => List.mem_append_left _ hb) hdis.out
                rwa [List.take_length] at this
              have HMD := Lib.hid (mask_down ((([w.heap.size + 1 + 1, w.heap.size + 1] ++ N) ++ ownL v2) ++ ownL u6) wr (M' := ([w.heap.size + 1 + 1, w.heap.size + 1] ++ N) ++ ownL v2) (fun b hb => List.mem_append_left _ hb))
              have HZ1 := Lib.hid (hz.out.down (M' := ([w.heap.size + 1 + 1, w.heap.size + 1] ++ N) ++ ownL v2) (fun b hb => List.mem_append_left _ hb))
              have HR1 := Lib.hid (hrow.out.keep HMD.out tableK_stays (fun _ _ => rfl))
              replace FP := Lib.hid (FP.out.stay HMD.out portE_stays)
              have HOB2 := Lib.hid (own_block hrow.out)
              obtain ⟨ta, tc, rfl, htc, hts⟩ := HT2
              have HE : Hid (tableK (mask (([w.heap.size + 1 + 1, w.heap.size + 1] ++ N) ++ ownL v2) wr) [.slice ta T.length tc] T) := ⟨_, rfl, ta, tc, rfl, htc, hts⟩
              have c2 : wr.cell? ⟨w.heap.size + 1 + 1, 2, none⟩ = some v2 := Joins.cell_of_block hz.out.copy 2
              have c3 : wr.frozen? ⟨w.heap.size + 1 + 1, 2, none⟩ = false := Joins.unfrozen_of_block hz.out.copy 2
              have hgl := hz.out.lt
              have hlen : (n.tables.take k).length = k := by simp; omega
              obtain ⟨css, hown, hcl, hel⟩ := HR1.out
              rw [hlen] at hown
              have HOWN := Lib.hid (hown.alloc (.cells #[.slice ta T.length tc] 42))
              have HCL := Lib.hid hcl
              have HEL := Lib.hid hel
              have HLEN := Lib.hid hlen
              have hne : some (w.heap.size + 1 + 1) ≠ v2.ownBlock := fun e => by have := HOB2.out _ e.symm; omega
              have HBS : Hid (w.heap.size + 3 ≤ (wr.alloc (.cells #[.slice ta T.length tc] 42)).heap.size) := by simp [Hid]; omega
              have HNW := Lib.hid (World.news_of_block (cs := #[.slice ta T.length tc]) (t := 42) (fr := (0, 0)) (heap_alloc_new wr (.cells #[.slice ta T.length tc] 42)))
              clear hown hcl hel hlen hz hrow hrow1 hdis hs HMD HOB
              have hkl : k < 1048576 := by omega
              have HONE : Hid (∀ u ∈ [Value.slice ta T.length tc], u.oneCell' = true) := by simp [Hid, Value.oneCell']
              have H63 : Hid (k + 1 ≤ maxLen) := by unfold Hid maxLen; omega
              have HBY : Hid ((k + 1) * 24 ≤ 140737488355328) := by unfold Hid; omega
              go_wp2_with (at_builtin; refine wpList_append_lies _ rfl _ _ 23 rfl (w.heap.size + 3) 42 l0 _ 1 24 Tryz.underlying23 hl0 hu0 hu1 hu2 rfl (by decide) _ _ _ rfl HOWN.out ⟨wr.heap.size, 0, none⟩ 1 1 [.slice ta T.length tc] rfl rfl HNW.out HONE.out Nat.one_pos H63.out HBY.out HBS.out (wr.heap.size + 1) (by simp) ?_)
              intro g cap w1 hown1 hgrow hat hlt1
              have hc5 : w1.cell? ⟨w.heap.size + 1 + 1, 2, none⟩ = some v2 := (hgrow.cell_far ⟨w.heap.size + 1 + 1, 2, none⟩ (by simp; omega) hne).trans ((World.cell?_alloc_lt wr _ ⟨w.heap.size + 1 + 1, 2, none⟩ hgl).trans c2)
              have hf5 : w1.frozen? ⟨w.heap.size + 1 + 1, 2, none⟩ = false := (hgrow.frozen_far ⟨w.heap.size + 1 + 1, 2, none⟩ (by simp; omega) hne).trans ((World.frozen?_of_block (Below.heap_alloc wr _ (w.heap.size + 1 + 1) hgl)).trans c3)
              obtain ⟨q1, q2, q3, q4, q5⟩ := HZ1.out.grow (A := ([w.heap.size + 1 + 1, w.heap.size + 1] ++ N)) tableK_stays (H' := wr.heap.size + 1) (W := wr.alloc (.cells #[.slice ta T.length tc] 42)) ((Below.refl _ _).alloc (Nat.le_refl _) _) HCL.out HEL.out hown1 (by rw [HLEN.out]) hgrow hat (by simp) HOB2.out rfl HE.out
              rw [← HTK.out] at q2
              have HKK := Lib.hid (q3.trans (mask_set ⟨w.heap.size + 1 + 1, 2, none⟩ (.slice (some ⟨g, 0, none⟩) (k + 1) cap) (by simp)))
              have Q1 := Lib.hid (q1.set (by simp) 2 (.slice (some ⟨g, 0, none⟩) (k + 1) cap) rfl)
              have Q2 := Lib.hid (q2.keep (mask_set ⟨w.heap.size + 1 + 1, 2, none⟩ (.slice (some ⟨g, 0, none⟩) (k + 1) cap) (by simp)) tableK_stays (fun b hb => Below.heap_setCell w1 _ _ _ (by have := (q2.lt hb).1; simp; omega)))
              replace FP := Lib.hid (FP.out.stay HKK.out portE_stays)
              clear q1 q2 q3 q4 q5 hown1 hgrow hat hlt1 HOWN HCL HEL HLEN HE HNW HBS HZ1 HR1 HOB2 HKK hne c2 c3 htc hts
              go_wp2
              go_roundw
              case rel => exact ⟨k + 1, .slice (some ⟨g, 0, none⟩) (k + 1) cap, by omega, by go_num, Q1, Q2, FP⟩
              case measure => simp [intOf]; omega
        · obtain rfl : k = n.tables.length := by omega
          have HOB := Lib.hid (own_block hrow.out)
          have HPS2 : Hid (Sl 1 tableK (mask ([w.heap.size + 1 + 1, w.heap.size + 1] ++ N) wr) v2 n.tables) := by
            have := hrow.out.sl (by simp; omega) tableK_stays ([w.heap.size + 1 + 1, w.heap.size + 1] ++ N) (fun b hb => List.mem_append_left _ hb) (fun b hb hm => by have := HOB.out b hb; rcases List.mem_append.1 hm with h | h; (simp at h; omega); (have := HNB.out b h; omega))
            rwa [List.take_length] at this
          have HZ1 := Lib.hid (hz.out.down (M' := ([w.heap.size + 1 + 1, w.heap.size + 1] ++ N)) (fun b hb => List.mem_append_left _ hb))
          have HMD := Lib.hid (mask_down (([w.heap.size + 1 + 1, w.heap.size + 1] ++ N) ++ ownL v2) wr (M' := ([w.heap.size + 1 + 1, w.heap.size + 1] ++ N)) (fun b hb => List.mem_append_left _ hb))
          replace FP := Lib.hid (FP.out.stay HMD.out portE_stays)
          clear hz hrow hk HOB HMD
          skip
          go_wp2
          clear hlt x2
          have FT := HPS2
          clear HPS2
          go_loopw [8, 9, 10] (fun i _ _ wr => ∃ (k : Nat) (v3 : Value), k ≤ n.guards.length ∧ i = .int .i64 k ∧ Hid (HeldS w [.int .i64 n.bits, .slice ap n.ports.length cp, .slice at_ n.tables.length ct, .slice ag n.guards.length cg] n ap at_ ag (([w.heap.size + 1 + 1, w.heap.size + 1] ++ N) ++ ownL v3) v1 v2 v3 wr) ∧ Hid (RowOf 1 guardsK (([w.heap.size + 1 + 1, w.heap.size + 1] ++ N) ++ ownL v3) 47 wr (w.heap.size + 3) v3 (n.guards.take k)) ∧ Hid (Sl 4 portE (mask (([w.heap.size + 1 + 1, w.heap.size + 1] ++ N) ++ ownL v3) wr) v1 n.ports) ∧ Hid (Sl 1 tableK (mask (([w.heap.size + 1 + 1, w.heap.size + 1] ++ N) ++ ownL v3) wr) v2 n.tables)) (fun i _ _ _ => n.guards.length - (intOf i).toNat)
          case atStart =>
            have E0 : ([w.heap.size + 1 + 1, w.heap.size + 1] ++ N) ++ ownL (.slice none 0 0) = ([w.heap.size + 1 + 1, w.heap.size + 1] ++ N) := by rw [ownL_nil, List.append_nil]
            refine ⟨0, .slice none 0 0, Nat.zero_le _, rfl, ?_⟩
            rw [E0]
            exact ⟨HZ1, RowOf.nil _ _ _ _ _, FP, FT⟩
          case round =>
            clear HZ1 FP FT
            obtain ⟨k, v3, hk, rfl, hz, hrow, FP, FT⟩ := hrel
            have x3 := hz.out.cell 3 _ rfl
            by_cases hlt : k < n.guards.length
            · obtain ⟨b1, o1, tv, rfl, e1, s1⟩ := guardsK_at hz.out.guards hlt
              obtain ⟨a1, c1, rfl, -, s1⟩ := s1
              have hl1 := s1.1
              have S1 := Lib.hid s1
              have E1 := Lib.hid e1
              have h1 := mask_keeps _ _ _ _ e1
              have HTK := Lib.hid (take_snoc n.guards k hlt)
              clear s1 e1
              generalize hT : n.guards[k] = T at *
              clear hT
              go_wp2
              go_loopw [9, 10] (fun t i wr => ∃ (m : Nat), m ≤ T.length ∧ i = .int .i64 m ∧ Hid (HeldS w [.int .i64 n.bits, .slice ap n.ports.length cp, .slice at_ n.tables.length ct, .slice (some ⟨b1, o1, none⟩) n.guards.length cg] n ap at_ (some ⟨b1, o1, none⟩) ((([w.heap.size + 1 + 1, w.heap.size + 1] ++ N) ++ ownL v3) ++ ownL t) v1 v2 v3 wr) ∧ Hid (RowOf 2 guardR ((([w.heap.size + 1 + 1, w.heap.size + 1] ++ N) ++ ownL v3) ++ ownL t) 50 wr (w.heap.size + 3) t (T.take m)) ∧ Hid (RowOf 1 guardsK ((([w.heap.size + 1 + 1, w.heap.size + 1] ++ N) ++ ownL v3) ++ ownL t) 47 wr (w.heap.size + 3) v3 (n.guards.take k)) ∧
                Hid (∀ b, t.ownBlock = some b → b ∉ ([w.heap.size + 1 + 1, w.heap.size + 1] ++ N) ++ ownL v3) ∧ Hid (SlA 2 guardR (mask ((([w.heap.size + 1 + 1, w.heap.size + 1] ++ N) ++ ownL v3) ++ ownL t) wr) a1 T) ∧ Hid ((mask ((([w.heap.size + 1 + 1, w.heap.size + 1] ++ N) ++ ownL v3) ++ ownL t) wr).cell? ⟨b1, o1 + k, none⟩ = some (.slice a1 T.length c1)) ∧ Hid (Sl 4 portE (mask ((([w.heap.size + 1 + 1, w.heap.size + 1] ++ N) ++ ownL v3) ++ ownL t) wr) v1 n.ports) ∧ Hid (Sl 1 tableK (mask ((([w.heap.size + 1 + 1, w.heap.size + 1] ++ N) ++ ownL v3) ++ ownL t) wr) v2 n.tables)) (fun _ i _ => T.length - (intOf i).toNat)
              case atStart =>
                have E0 : (([w.heap.size + 1 + 1, w.heap.size + 1] ++ N) ++ ownL v3) ++ ownL (.slice none 0 0) = ([w.heap.size + 1 + 1, w.heap.size + 1] ++ N) ++ ownL v3 := by rw [ownL_nil, List.append_nil]
                rw [E0]
                exact ⟨0, Nat.zero_le _, rfl, hz, RowOf.nil _ _ _ _ _, hrow, fun b hb => by simp [Value.ownBlock] at hb, S1, E1, FP, FT⟩
              case round =>
                clear hz hrow S1 E1 FP FT h1 x3
                obtain ⟨m, hm, rfl, hz, hrow1, hrow, hdis, hs, he, FP, FT⟩ := hrel
                have x3 := hz.out.cell 3 _ rfl
                have h1 := mask_keeps _ _ _ _ he.out
                have HOB := Lib.hid (own_block hrow1.out)
                by_cases hml : m < T.length
                · obtain ⟨b2, o2, ac, cc, rfl, e0, e1, hE⟩ := guardsLR_at2 hs.out hml
                  have f0 := mask_keeps _ _ _ _ e0
                  have f1 := mask_keeps _ _ _ _ e1
                  have HE := Lib.hid hE
                  have HTM := Lib.hid (take_snoc T m hml)
                  have hlen : (T.take m).length = m := by simp; omega
                  obtain ⟨css, hown, hcl, hel⟩ := hrow1.out
                  rw [hlen] at hown
                  have HOWN := Lib.hid (hown.alloc (.cells #[.bool T[m].permit, .slice ac T[m].cubes.length cc] 50))
                  have HCL := Lib.hid hcl
                  have HEL := Lib.hid hel
                  have HLEN := Lib.hid hlen
                  clear hown hcl hel hlen e0 e1 hE
                  generalize hx : T[m] = x at *
                  clear hx
                  have HBS : Hid (w.heap.size + 3 ≤ (wr.alloc (.cells #[.bool x.permit, .slice ac x.cubes.length cc] 50)).heap.size) := by have := hz.out.lt; simp [Hid]; omega
                  have HNW := Lib.hid (World.news_of_block (cs := #[.bool x.permit, .slice ac x.cubes.length cc]) (t := 50) (fr := (0, 0)) (heap_alloc_new wr (.cells #[.bool x.permit, .slice ac x.cubes.length cc] 50)))
                  have HONE : Hid (∀ u ∈ ([.bool x.permit, .slice ac x.cubes.length cc] : List Value), u.oneCell' = true) := by simp [Hid, Value.oneCell']
                  have H63 : Hid (m + 1 ≤ maxLen) := by unfold Hid maxLen; omega
                  have HBY : Hid ((m + 1) * 32 ≤ 140737488355328) := by unfold Hid; omega
                  go_wp2_with (at_builtin; refine wpList_append_lies _ rfl _ _ 47 rfl (w.heap.size + 3) 50 k0 _ 2 32 Tryz.underlying47 hk0 hx0 hx1 hx2 rfl (by decide) _ _ _ rfl HOWN.out ⟨wr.heap.size, 0, none⟩ 1 1 [.bool x.permit, .slice ac x.cubes.length cc] rfl rfl HNW.out HONE.out Nat.one_pos H63.out HBY.out HBS.out (wr.heap.size + 1) (by simp) ?_)
                  intro g cap w1 hown1 hgrow hat hlt1
                  obtain ⟨q1, q2, q3, q4, q5⟩ := hz.out.grow (A := ([w.heap.size + 1 + 1, w.heap.size + 1] ++ N) ++ ownL v3) guardR_stays (H' := wr.heap.size + 1) (W := wr.alloc (.cells #[.bool x.permit, .slice ac x.cubes.length cc] 50)) ((Below.refl _ _).alloc (Nat.le_refl _) _) HCL.out HEL.out hown1 (by rw [HLEN.out]) hgrow hat (by simp) HOB.out rfl HE.out
                  rw [← HTM.out] at q2
                  have Q1 := Lib.hid q1
                  have Q2 := Lib.hid q2
                  have Q3 := Lib.hid (hrow.out.keep q3 guardsK_stays (fun b hb => q4 b (hrow.out.lt hb).2 (fun e => hdis.out b e (List.mem_append_right _ (mem_ownL.2 hb)))))
                  have Q4 : Hid (∀ b, (Value.slice (some ⟨g, 0, none⟩) (m + 1) cap).ownBlock = some b → b ∉ ([w.heap.size + 1 + 1, w.heap.size + 1] ++ N) ++ ownL v3) := fun b hb hm => by
                    obtain rfl : g = b := by simpa [Value.ownBlock] using hb
                    exact hdis.out g (q5 hm) hm
                  have Q5 := Lib.hid (hs.out.stay q3 guardR_stays)
                  have Q6 := Lib.hid (q3 _ _ he.out)
                  replace FP := Lib.hid (FP.out.stay q3 portE_stays)
                  replace FT := Lib.hid (FT.out.stay q3 tableK_stays)
                  clear q1 q2 q3 q4 q5 hown1 hgrow hat hlt1 HOWN HCL HEL HLEN HE HTM HNW HBS hz hrow1 hrow hdis hs he HOB h1 x3 f0 f1
                  go_wp2
                  go_roundw
                  case rel => exact ⟨m + 1, by omega, by go_num, Q1, Q2, Q3, Q4, Q5, Q6, FP, FT⟩
                  case measure => simp [intOf]; omega
                · obtain rfl : m = T.length := by omega
                  have HT2 : Sl 2 guardR (mask (([w.heap.size + 1 + 1, w.heap.size + 1] ++ N) ++ ownL v3) wr) u9 T := by
                    have := hrow1.out.sl (by simp; omega) guardR_stays (([w.heap.size + 1 + 1, w.heap.size + 1] ++ N) ++ ownL v3) (fun b hb => List.mem_append_left _ hb) hdis.out
                    rwa [List.take_length] at this
                  have HMD := Lib.hid (mask_down ((([w.heap.size + 1 + 1, w.heap.size + 1] ++ N) ++ ownL v3) ++ ownL u9) wr (M' := ([w.heap.size + 1 + 1, w.heap.size + 1] ++ N) ++ ownL v3) (fun b hb => List.mem_append_left _ hb))
                  have HZ1 := Lib.hid (hz.out.down (M' := ([w.heap.size + 1 + 1, w.heap.size + 1] ++ N) ++ ownL v3) (fun b hb => List.mem_append_left _ hb))
                  have HR1 := Lib.hid (hrow.out.keep HMD.out guardsK_stays (fun _ _ => rfl))
                  replace FP := Lib.hid (FP.out.stay HMD.out portE_stays)
                  replace FT := Lib.hid (FT.out.stay HMD.out tableK_stays)
                  have HOB2 := Lib.hid (own_block hrow.out)
                  obtain ⟨ta, tc, rfl, htc, hts⟩ := HT2
                  have HE : Hid (guardsK (mask (([w.heap.size + 1 + 1, w.heap.size + 1] ++ N) ++ ownL v3) wr) [.slice ta T.length tc] T) := ⟨_, rfl, ta, tc, rfl, htc, hts⟩
                  have c2 : wr.cell? ⟨w.heap.size + 1 + 1, 3, none⟩ = some v3 := Joins.cell_of_block hz.out.copy 3
                  have c3 : wr.frozen? ⟨w.heap.size + 1 + 1, 3, none⟩ = false := Joins.unfrozen_of_block hz.out.copy 3
                  have hgl := hz.out.lt
                  have hlen : (n.guards.take k).length = k := by simp; omega
                  obtain ⟨css, hown, hcl, hel⟩ := HR1.out
                  rw [hlen] at hown
                  have HOWN := Lib.hid (hown.alloc (.cells #[.slice ta T.length tc] 47))
                  have HCL := Lib.hid hcl
                  have HEL := Lib.hid hel
                  have HLEN := Lib.hid hlen
                  have hne : some (w.heap.size + 1 + 1) ≠ v3.ownBlock := fun e => by have := HOB2.out _ e.symm; omega
                  have HBS : Hid (w.heap.size + 3 ≤ (wr.alloc (.cells #[.slice ta T.length tc] 47)).heap.size) := by simp [Hid]; omega
                  have HNW := Lib.hid (World.news_of_block (cs := #[.slice ta T.length tc]) (t := 47) (fr := (0, 0)) (heap_alloc_new wr (.cells #[.slice ta T.length tc] 47)))
                  clear hown hcl hel hlen hz hrow hrow1 hdis hs HMD HOB
                  have hkl : k < 1048576 := by omega
                  have HONE : Hid (∀ u ∈ [Value.slice ta T.length tc], u.oneCell' = true) := by simp [Hid, Value.oneCell']
                  have H63 : Hid (k + 1 ≤ maxLen) := by unfold Hid maxLen; omega
                  have HBY : Hid ((k + 1) * 24 ≤ 140737488355328) := by unfold Hid; omega
                  go_wp2_with (at_builtin; refine wpList_append_lies _ rfl _ _ 24 rfl (w.heap.size + 3) 47 m0 _ 1 24 Tryz.underlying24 hm0 hv0 hv1 hv2 rfl (by decide) _ _ _ rfl HOWN.out ⟨wr.heap.size, 0, none⟩ 1 1 [.slice ta T.length tc] rfl rfl HNW.out HONE.out Nat.one_pos H63.out HBY.out HBS.out (wr.heap.size + 1) (by simp) ?_)
                  intro g cap w1 hown1 hgrow hat hlt1
                  have hc5 : w1.cell? ⟨w.heap.size + 1 + 1, 3, none⟩ = some v3 := (hgrow.cell_far ⟨w.heap.size + 1 + 1, 3, none⟩ (by simp; omega) hne).trans ((World.cell?_alloc_lt wr _ ⟨w.heap.size + 1 + 1, 3, none⟩ hgl).trans c2)
                  have hf5 : w1.frozen? ⟨w.heap.size + 1 + 1, 3, none⟩ = false := (hgrow.frozen_far ⟨w.heap.size + 1 + 1, 3, none⟩ (by simp; omega) hne).trans ((World.frozen?_of_block (Below.heap_alloc wr _ (w.heap.size + 1 + 1) hgl)).trans c3)
                  obtain ⟨q1, q2, q3, q4, q5⟩ := HZ1.out.grow (A := ([w.heap.size + 1 + 1, w.heap.size + 1] ++ N)) guardsK_stays (H' := wr.heap.size + 1) (W := wr.alloc (.cells #[.slice ta T.length tc] 47)) ((Below.refl _ _).alloc (Nat.le_refl _) _) HCL.out HEL.out hown1 (by rw [HLEN.out]) hgrow hat (by simp) HOB2.out rfl HE.out
                  rw [← HTK.out] at q2
                  have HKK := Lib.hid (q3.trans (mask_set ⟨w.heap.size + 1 + 1, 3, none⟩ (.slice (some ⟨g, 0, none⟩) (k + 1) cap) (by simp)))
                  have Q1 := Lib.hid (q1.set (by simp) 3 (.slice (some ⟨g, 0, none⟩) (k + 1) cap) rfl)
                  have Q2 := Lib.hid (q2.keep (mask_set ⟨w.heap.size + 1 + 1, 3, none⟩ (.slice (some ⟨g, 0, none⟩) (k + 1) cap) (by simp)) guardsK_stays (fun b hb => Below.heap_setCell w1 _ _ _ (by have := (q2.lt hb).1; simp; omega)))
                  replace FP := Lib.hid (FP.out.stay HKK.out portE_stays)
                  replace FT := Lib.hid (FT.out.stay HKK.out tableK_stays)
                  clear q1 q2 q3 q4 q5 hown1 hgrow hat hlt1 HOWN HCL HEL HLEN HE HNW HBS HZ1 HR1 HOB2 HKK hne c2 c3 htc hts
                  go_wp2
                  go_roundw
                  case rel => exact ⟨k + 1, .slice (some ⟨g, 0, none⟩) (k + 1) cap, by omega, by go_num, Q1, Q2, FP, FT⟩
                  case measure => simp [intOf]; omega
            · obtain rfl : k = n.guards.length := by omega
              have HOB := Lib.hid (own_block hrow.out)
              have HPS2 : Hid (Sl 1 guardsK (mask ([w.heap.size + 1 + 1, w.heap.size + 1] ++ N) wr) v3 n.guards) := by
                have := hrow.out.sl (by simp; omega) guardsK_stays ([w.heap.size + 1 + 1, w.heap.size + 1] ++ N) (fun b hb => List.mem_append_left _ hb) (fun b hb hm => by have := HOB.out b hb; rcases List.mem_append.1 hm with h | h; (simp at h; omega); (have := HNB.out b h; omega))
                rwa [List.take_length] at this
              have HZ1 := Lib.hid (hz.out.down (M' := ([w.heap.size + 1 + 1, w.heap.size + 1] ++ N)) (fun b hb => List.mem_append_left _ hb))
              have HMD := Lib.hid (mask_down (([w.heap.size + 1 + 1, w.heap.size + 1] ++ N) ++ ownL v3) wr (M' := ([w.heap.size + 1 + 1, w.heap.size + 1] ++ N)) (fun b hb => List.mem_append_left _ hb))
              replace FP := Lib.hid (FP.out.stay HMD.out portE_stays)
              replace FT := Lib.hid (FT.out.stay HMD.out tableK_stays)
              clear hz hrow hk HOB HMD
              obtain ⟨pa, pc, rfl, hpc, hps⟩ := FP.out
              obtain ⟨ta, tc, rfl, htc, hts⟩ := FT.out
              obtain ⟨ga, gc, rfl, hgc, hgs⟩ := HPS2.out
              have b0 := Joins.cell_of_block HZ1.out.copy 0
              have b1 := Joins.cell_of_block HZ1.out.copy 1
              have b2 := Joins.cell_of_block HZ1.out.copy 2
              have b3 := Joins.cell_of_block HZ1.out.copy 3
              have r0 := Joins.cell_of_block HZ1.out.res 0
              have r1 := Joins.cell_of_block HZ1.out.res 1
              have r2 := Joins.cell_of_block HZ1.out.res 2
              have r3 := Joins.cell_of_block HZ1.out.res 3
              have z0 := Joins.unfrozen_of_block HZ1.out.res 0
              have z1 := Joins.unfrozen_of_block HZ1.out.res 1
              have z2 := Joins.unfrozen_of_block HZ1.out.res 2
              have z3 := Joins.unfrozen_of_block HZ1.out.res 3
              simp only [List.getElem?_toArray, List.getElem?_cons_zero, List.getElem?_cons_succ] at b0 b1 b2 b3 r0 r1 r2 r3
              have HKK : Hid (Keeps (mask ([w.heap.size + 1 + 1, w.heap.size + 1] ++ N) wr) (mask N ((((wr.setCell ⟨w.heap.size + 1, 0, none⟩ (.int .i64 n.bits)).setCell ⟨w.heap.size + 1, 1, none⟩ (.slice pa n.ports.length pc)).setCell ⟨w.heap.size + 1, 2, none⟩ (.slice ta n.tables.length tc)).setCell ⟨w.heap.size + 1, 3, none⟩ (.slice ga n.guards.length gc)))) :=
                ((((mask_set ⟨w.heap.size + 1, 0, none⟩ (.int .i64 n.bits) (by simp)).trans (mask_set ⟨w.heap.size + 1, 1, none⟩ (.slice pa n.ports.length pc) (by simp))).trans (mask_set ⟨w.heap.size + 1, 2, none⟩ (.slice ta n.tables.length tc) (by simp))).trans (mask_set ⟨w.heap.size + 1, 3, none⟩ (.slice ga n.guards.length gc) (by simp))).trans (mask_down _ _ (fun b hb => List.mem_append_right _ hb))
              have HBB : Hid (Below w.heap.size w ((((wr.setCell ⟨w.heap.size + 1, 0, none⟩ (.int .i64 n.bits)).setCell ⟨w.heap.size + 1, 1, none⟩ (.slice pa n.ports.length pc)).setCell ⟨w.heap.size + 1, 2, none⟩ (.slice ta n.tables.length tc)).setCell ⟨w.heap.size + 1, 3, none⟩ (.slice ga n.guards.length gc))) :=
                (((HZ1.out.below.setCell (by simp) _).setCell (by simp) _).setCell (by simp) _).setCell (by simp) _
              have HBK : Hid (((((wr.setCell ⟨w.heap.size + 1, 0, none⟩ (.int .i64 n.bits)).setCell ⟨w.heap.size + 1, 1, none⟩ (.slice pa n.ports.length pc)).setCell ⟨w.heap.size + 1, 2, none⟩ (.slice ta n.tables.length tc)).setCell ⟨w.heap.size + 1, 3, none⟩ (.slice ga n.guards.length gc)).heap[w.heap.size + 1]? = some (.cells #[.int .i64 n.bits, .slice pa n.ports.length pc, .slice ta n.tables.length tc, .slice ga n.guards.length gc] 26 (0, 0))) :=
                Joins.block_setCell (Joins.block_setCell (Joins.block_setCell (Joins.block_setCell HZ1.out.res _) _) _) _
              clear hpc hps htc hts hgc hgs
              go_wp2
              have d0 := Joins.cell_of_block HBK.out 0
              have d1 := Joins.cell_of_block HBK.out 1
              have d2 := Joins.cell_of_block HBK.out 2
              have d3 := Joins.cell_of_block HBK.out 3
              simp only [List.getElem?_toArray, List.getElem?_cons_zero, List.getElem?_cons_succ] at d0 d1 d2 d3
              refine bodyPost_ret (v := .agg #[.int .i64 n.bits, .slice pa n.ports.length pc, .slice ta n.tables.length tc, .slice ga n.guards.length gc]) (by simp [results, Tryz.results12, go_sem, d0, d1, d2, d3]) rfl ⟨⟨_, rfl, ?_⟩, HBB.out⟩
              exact ⟨_, _, _, rfl, HB.out, FP.out.stay HKK.out portE_stays, FT.out.stay HKK.out tableK_stays, HPS2.out.stay HKK.out guardsK_stays⟩

end Go.Proofs.YtbklijcdmiffaaaGreatDoor
