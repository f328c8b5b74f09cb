/-
  Reading a numbered network out of memory: what a slice, a port, an entry, a guard line and a network hold, as plain data. No program in sight.
-/
import Derived.WalkKit
import Derived.Lib.Hide
import Derived.Deep.Draws
namespace Go.Proofs.YtbklijcdmiffaaaGreatDoor
open Go.RowKit

/-- A slice's address whose i-th element of sz cells holds what E says. -/
def SlA {α : Type} (sz : Nat) (E : World → List Value → α → Prop) (w : World) (a : Option Addr) (l : List α) : Prop :=
  l.length ≤ 1048576 ∧ ∀ i x, l[i]? = some x → ∃ b off cs, a = some ⟨b, off, none⟩ ∧ cs.length = sz ∧ E w cs x ∧ ∀ j u, cs[j]? = some u → w.cell? ⟨b, off + i * sz + j, none⟩ = some u

def Sl {α : Type} (sz : Nat) (E : World → List Value → α → Prop) (w : World) (v : Value) (l : List α) : Prop :=
  ∃ (a : Option Addr) (cap : Nat), v = .slice a l.length cap ∧ l.length ≤ cap ∧ SlA sz E w a l

/-- No cell that was there has turned. -/
def Keeps (w w' : World) : Prop := ∀ p u, w.cell? p = some u → w'.cell? p = some u

theorem cell_lt {w : World} {p : Addr} {u : Value} (h : w.cell? p = some u) : p.block < w.heap.size := by
  rcases Nat.lt_or_ge p.block w.heap.size with hlt | hge
  · exact hlt
  · simp [World.cell?, Array.getElem?_eq_none hge] at h

theorem Keeps.refl (w : World) : Keeps w w := fun _ _ h => h
theorem Keeps.trans {a b c : World} (h : Keeps a b) (k : Keeps b c) : Keeps a c := fun p u hp => k p u (h p u hp)
theorem Keeps.of_below {w w' : World} (h : Below w.heap.size w w') : Keeps w w' := fun _ _ hp => (h.cell (cell_lt hp)).trans hp
theorem Keeps.drewN (w : World) (n : Nat) : Keeps w (w.drewN n) := fun _ _ h => h
theorem Keeps.alloc (w : World) (o : Obj) : Keeps w (w.alloc o) := fun p _ h => (World.cell?_alloc_lt w o p (cell_lt h)).trans h

/-- Only draws. -/
def Quiet (w w' : World) : Prop := ∃ n, w.drewN n = w'
theorem Quiet.refl (w : World) : Quiet w w := ⟨0, rfl⟩
theorem Quiet.drewN {w : World} (n : Nat) : Quiet w (w.drewN n) := ⟨n, rfl⟩
theorem Quiet.trans {a b c : World} (h : Quiet a b) (k : Quiet b c) : Quiet a c := by
  obtain ⟨n, rfl⟩ := h
  obtain ⟨m, rfl⟩ := k
  exact ⟨n + m, by simp [World.drewN_drewN]⟩
theorem Quiet.below {w w' : World} (h : Quiet w w') (B : Nat) : Below B w w' := by
  obtain ⟨n, rfl⟩ := h
  exact ⟨rfl, rfl, rfl, Nat.le_refl _, fun _ _ => rfl⟩
theorem below_drewN {B : Nat} {a w : World} (h : Below B a w) (n : Nat) : Below B a (w.drewN n) := ⟨h.os, h.tape, h.output, h.size, h.block⟩
theorem below_quiet {B : Nat} {a w w' : World} (h : Below B a w) (k : Quiet w w') : Below B a w' := h.trans (k.below B)
theorem below_after {a w w' : World} {B : Nat} (h : Below B a w) (hB : B ≤ w.heap.size) (k : Below w.heap.size w w') : Below B a w' := h.trans (k.mono hB)
/-- block g begins with these cells -/
def At (w : World) (g : Nat) (cs : List Value) : Prop := ∀ i u, cs[i]? = some u → w.cell? ⟨g, i, none⟩ = some u
theorem At.keep {w w' : World} {g : Nat} {cs : List Value} (h : At w g cs) (hk : Keeps w w') : At w' g cs := fun i u hu => hk _ _ (h i u hu)
theorem At.new (w : World) (cs : List Value) (t : TypeId) : At (w.alloc (.cells cs.toArray t)) w.heap.size cs := fun i u hu => by
  have h : (w.alloc (.cells cs.toArray t)).heap[w.heap.size]? = some (.cells cs.toArray t) := by
    show (w.heap.push _)[w.heap.size]? = _
    simp
  unfold World.cell?
  dsimp only
  rw [h]
  simpa using hu

/-- Behind w the first new blocks begin with these cells; what was there stands. -/
def Boxes (w wr : World) (l : List (List Value)) : Prop := (∀ i cs, l[i]? = some cs → At wr (w.heap.size + i) cs) ∧ Below w.heap.size w wr ∧ w.heap.size + l.length ≤ wr.heap.size
theorem Boxes.nil (w : World) : Boxes w w [] := ⟨fun i cs h => by simp at h, Below.refl _ _, Nat.le_refl _⟩
theorem Boxes.push {w wr : World} {l : List (List Value)} (h : Boxes w wr l) (hz : wr.heap.size = w.heap.size + l.length) (cs : List Value) (t : TypeId) : Boxes w (wr.alloc (.cells cs.toArray t)) (l ++ [cs]) := by
  obtain ⟨h1, h2, h3⟩ := h
  refine ⟨fun i c hc => ?_, h2.alloc (by omega) _, by simp; omega⟩
  rcases Nat.lt_trichotomy i l.length with hlt | e | hgt
  · rw [List.getElem?_append_left hlt] at hc
    exact (h1 i c hc).keep (Keeps.alloc _ _)
  · subst e
    rw [List.getElem?_append_right (Nat.le_refl _)] at hc
    simp at hc
    subst hc
    rw [← hz]
    exact At.new _ _ _
  · rw [List.getElem?_eq_none (by simp; omega)] at hc
    cases hc
theorem Boxes.one (w : World) (c : List Value) (t : TypeId) : Boxes w (w.alloc (.cells c.toArray t)) [c] := (Boxes.nil w).push (by simp) c t
theorem Boxes.two (w : World) (c d : List Value) (t u : TypeId) : Boxes w ((w.alloc (.cells c.toArray t)).alloc (.cells d.toArray u)) [c, d] := (Boxes.one w c t).push (by simp) d u
theorem Boxes.next {w wr w' : World} {l : List (List Value)} (h : Boxes w wr l) (hb : Below wr.heap.size wr w') : Boxes w w' l :=
  ⟨fun i c hc => (h.1 i c hc).keep (Keeps.of_below hb), h.2.1.trans (hb.mono (by have := h.2.2; omega)), Nat.le_trans h.2.2 hb.size⟩
theorem Boxes.quiet {w wr w' : World} {l : List (List Value)} (h : Boxes w wr l) (hb : Quiet wr w') : Boxes w w' l := h.next (hb.below _)
theorem Boxes.cell {w wr : World} {l : List (List Value)} (h : Boxes w wr l) (i j : Nat) (cs : List Value) (u : Value) (hi : l[i]? = some cs) (hj : cs[j]? = some u) : wr.cell? ⟨w.heap.size + i, j, none⟩ = some u := h.1 i cs hi j u hj
theorem Boxes.grown {w wr w' : World} {l : List (List Value)} {row : Option Nat} (h : Boxes w wr l) (hg : wr.grownBy w' row) (hr : ∀ k, row = some k → w.heap.size + l.length ≤ k) : Boxes w w' l := by
  have h3 := h.2.2
  refine ⟨fun i c hc j u hu => ?_, h.2.1.grown hg (by omega) (fun k hk => by have := hr k hk; omega), Nat.le_trans h.2.2 hg.size⟩
  have hi : i < l.length := by
    rcases Nat.lt_or_ge i l.length with hlt | hge
    · exact hlt
    · rw [List.getElem?_eq_none hge] at hc; cases hc
  refine (World.cell?_of_block (hg.block _ (by show w.heap.size + i < _; omega) (fun e => ?_))).trans (h.1 i c hc j u hu)
  have := hr _ e.symm
  simp at this
  omega
theorem own_base {w : World} {base : Nat} {e : TypeId} {size : Nat} {v : Value} {n : Nat} {xs : List Value} (h : w.ownsRow base e size v n xs) : ∀ k, v.ownBlock = some k → base ≤ k := by
  intro k hk
  rcases h.2 with ⟨rfl, _⟩ | ⟨g, cap, cur, rfl, hb, _⟩
  · simp [Value.ownBlock] at hk
  · simp [Value.ownBlock] at hk; omega
theorem own_one {α : Type} {E : World → List Value → α → Prop} {f : α → Value} {w : World} {base : Nat} {e : TypeId} {v : Value} {l : List α} (h : w.ownsRow base e 1 v l.length (l.map f))
    (hl : l.length ≤ 1048576) (hE : ∀ x ∈ l, E w [f x] x) : Sl 1 E w v l := by
  obtain ⟨_, h2⟩ := h
  rcases h2 with ⟨rfl, hn⟩ | ⟨g, cap, cur, rfl, hb, hh, hn, hc, hs, ht⟩
  · obtain rfl := List.eq_nil_of_length_eq_zero hn
    exact ⟨none, 0, rfl, Nat.le_refl _, Nat.zero_le _, fun i x hx => by simp at hx⟩
  · refine ⟨_, cap, rfl, hn, hl, fun i x hx => ⟨g, 0, [f x], rfl, rfl, hE x (List.mem_of_getElem? hx), fun j u hu => ?_⟩⟩
    cases j with
    | succ j => simp at hu
    | zero =>
      simp only [List.getElem?_cons_zero, Option.some.injEq] at hu
      subst hu
      have hi : i < l.length := (List.getElem?_eq_some_iff.1 hx).1
      have e1 : (cur.toList.take (l.length * 1))[i]? = some (f x) := by rw [ht]; simp [hx]
      rw [List.getElem?_take_of_lt (by omega)] at e1
      show w.cell? ⟨g, 0 + i * 1 + 0, none⟩ = _
      rw [cell_of_row w g _ cur e (0, 0) hh]
      simpa using e1
theorem Boxes.keeps {w wr : World} {l : List (List Value)} (h : Boxes w wr l) : Keeps w wr := Keeps.of_below h.2.1

theorem SlA.keep {α : Type} {sz : Nat} {E : World → List Value → α → Prop} {w w' : World} {a : Option Addr} {l : List α} (h : SlA sz E w a l) (hk : Keeps w w')
    (hE : ∀ cs x, E w cs x → E w' cs x) : SlA sz E w' a l :=
  ⟨h.1, fun i x hx => let ⟨b, off, cs, ha, hl, he, hc⟩ := h.2 i x hx; ⟨b, off, cs, ha, hl, hE _ _ he, fun j u hu => hk _ _ (hc j u hu)⟩⟩
theorem Sl.keep {α : Type} {sz : Nat} {E : World → List Value → α → Prop} {w w' : World} {v : Value} {l : List α} (h : Sl sz E w v l) (hk : Keeps w w')
    (hE : ∀ cs x, E w cs x → E w' cs x) : Sl sz E w' v l :=
  let ⟨a, cap, hv, hc, hs⟩ := h; ⟨a, cap, hv, hc, hs.keep hk hE⟩

/-- A port, an entry, a guard line, a network. -/
structure PortD where
  name : ByteArray
  box : Int
  inn : Bool
  to : Int
structure EntryD where
  name : ByteArray
  ins : List Int
  cubes : List ByteArray
  write : ByteArray
  outs : List Int
structure GuardD where
  permit : Bool
  cubes : List ByteArray
structure NetD where
  bits : Int
  ports : List PortD
  tables : List (List EntryD)
  guards : List (List GuardD)

/-- an int64 -/
def I64 (x : Int) : Prop := -9223372036854775808 ≤ x ∧ x ≤ 9223372036854775807

def intE (_ : World) (cs : List Value) (x : Int) : Prop := cs = [.int .i64 x] ∧ I64 x
def boolE (_ : World) (cs : List Value) (x : Bool) : Prop := cs = [.bool x]
def strE (_ : World) (cs : List Value) (x : ByteArray) : Prop := cs = [.string x] ∧ x.size ≤ 1048576
def portE (_ : World) (cs : List Value) (p : PortD) : Prop := cs = [.string p.name, .int .i64 p.box, .bool p.inn, .int .i64 p.to] ∧ p.name.size ≤ 1048576 ∧ I64 p.box ∧ I64 p.to
def entryE (w : World) (cs : List Value) (x : EntryD) : Prop :=
  ∃ vi vc vo, cs = [.string x.name, vi, vc, .string x.write, vo] ∧ x.name.size ≤ 1048576 ∧ x.write.size ≤ 1048576 ∧ Sl 1 intE w vi x.ins ∧ Sl 1 strE w vc x.cubes ∧ Sl 1 intE w vo x.outs
def guardE (w : World) (cs : List Value) (x : GuardD) : Prop := ∃ vc, cs = [.bool x.permit, vc] ∧ Sl 1 strE w vc x.cubes
def tableE (w : World) (cs : List Value) (x : List EntryD) : Prop := ∃ v, cs = [v] ∧ Sl 5 entryE w v x
def guardsE (w : World) (cs : List Value) (x : List GuardD) : Prop := ∃ v, cs = [v] ∧ Sl 2 guardE w v x
def netE (w : World) (cs : List Value) (n : NetD) : Prop :=
  ∃ vp vt vg, cs = [.int .i64 n.bits, vp, vt, vg] ∧ I64 n.bits ∧ Sl 4 portE w vp n.ports ∧ Sl 1 tableE w vt n.tables ∧ Sl 1 guardsE w vg n.guards

section
variable {w w' : World}
theorem ints_keep (hk : Keeps w w') {v : Value} {l : List Int} (h : Sl 1 intE w v l) : Sl 1 intE w' v l := h.keep hk fun _ _ e => e
theorem strs_keep (hk : Keeps w w') {v : Value} {l : List ByteArray} (h : Sl 1 strE w v l) : Sl 1 strE w' v l := h.keep hk fun _ _ e => e
theorem ports_keep (hk : Keeps w w') {v : Value} {l : List PortD} (h : Sl 4 portE w v l) : Sl 4 portE w' v l := h.keep hk fun _ _ e => e
theorem entryE_keep (hk : Keeps w w') (cs : List Value) (x : EntryD) (h : entryE w cs x) : entryE w' cs x :=
  let ⟨vi, vc, vo, h1, h2, h3, h4, h5, h6⟩ := h; ⟨vi, vc, vo, h1, h2, h3, ints_keep hk h4, strs_keep hk h5, ints_keep hk h6⟩
theorem guardE_keep (hk : Keeps w w') (cs : List Value) (x : GuardD) (h : guardE w cs x) : guardE w' cs x :=
  let ⟨vc, h1, h2⟩ := h; ⟨vc, h1, strs_keep hk h2⟩
theorem entries_keep (hk : Keeps w w') {v : Value} {l : List EntryD} (h : Sl 5 entryE w v l) : Sl 5 entryE w' v l := h.keep hk (entryE_keep hk)
theorem guards_keep (hk : Keeps w w') {v : Value} {l : List GuardD} (h : Sl 2 guardE w v l) : Sl 2 guardE w' v l := h.keep hk (guardE_keep hk)
theorem tableE_keep (hk : Keeps w w') (cs : List Value) (x : List EntryD) (h : tableE w cs x) : tableE w' cs x := let ⟨v, h1, h2⟩ := h; ⟨v, h1, entries_keep hk h2⟩
theorem guardsE_keep (hk : Keeps w w') (cs : List Value) (x : List GuardD) (h : guardsE w cs x) : guardsE w' cs x := let ⟨v, h1, h2⟩ := h; ⟨v, h1, guards_keep hk h2⟩
theorem tables_keep (hk : Keeps w w') {v : Value} {l : List (List EntryD)} (h : Sl 1 tableE w v l) : Sl 1 tableE w' v l := h.keep hk (tableE_keep hk)
theorem guardss_keep (hk : Keeps w w') {v : Value} {l : List (List GuardD)} (h : Sl 1 guardsE w v l) : Sl 1 guardsE w' v l := h.keep hk (guardsE_keep hk)
theorem netE_keep (hk : Keeps w w') (cs : List Value) (x : NetD) (h : netE w cs x) : netE w' cs x :=
  let ⟨vp, vt, vg, h1, h2, h3, h4, h5⟩ := h; ⟨vp, vt, vg, h1, h2, ports_keep hk h3, tables_keep hk h4, guardss_keep hk h5⟩
end

section
variable {w : World} {a : Option Addr}
theorem SlA.get {α : Type} {sz : Nat} {E : World → List Value → α → Prop} {l : List α} (h : SlA sz E w a l) {k : Nat} (hk : k < l.length) :
    ∃ b off cs, a = some ⟨b, off, none⟩ ∧ cs.length = sz ∧ E w cs l[k] ∧ ∀ j u, cs[j]? = some u → w.cell? ⟨b, off + k * sz + j, none⟩ = some u :=
  h.2 k l[k] (List.getElem?_eq_getElem hk)
theorem ints_at {l : List Int} (h : SlA 1 intE w a l) {k : Nat} (hk : k < l.length) : ∃ b off, a = some ⟨b, off, none⟩ ∧ w.cell? ⟨b, off + k, none⟩ = some (.int .i64 l[k]) ∧ I64 l[k] := by
  obtain ⟨b, off, cs, ha, _, ⟨rfl, hi⟩, hc⟩ := h.get hk
  exact ⟨b, off, ha, by simpa using hc 0 _ rfl, hi⟩
theorem bools_at {l : List Bool} (h : SlA 1 boolE w a l) {k : Nat} (hk : k < l.length) : ∃ b off, a = some ⟨b, off, none⟩ ∧ w.cell? ⟨b, off + k, none⟩ = some (.bool l[k]) := by
  obtain ⟨b, off, cs, ha, _, rfl, hc⟩ := h.get hk
  exact ⟨b, off, ha, by simpa using hc 0 _ rfl⟩
theorem strs_at {l : List ByteArray} (h : SlA 1 strE w a l) {k : Nat} (hk : k < l.length) : ∃ b off, a = some ⟨b, off, none⟩ ∧ w.cell? ⟨b, off + k, none⟩ = some (.string l[k]) ∧ l[k].size ≤ 1048576 := by
  obtain ⟨b, off, cs, ha, _, ⟨rfl, hs⟩, hc⟩ := h.get hk
  exact ⟨b, off, ha, by simpa using hc 0 _ rfl, hs⟩
theorem ports_at {l : List PortD} (h : SlA 4 portE w a l) {k : Nat} (hk : k < l.length) : ∃ b off, a = some ⟨b, off, none⟩ ∧
    w.cell? ⟨b, off + k * 4, none⟩ = some (.string l[k].name) ∧ w.cell? ⟨b, off + k * 4 + 1, none⟩ = some (.int .i64 l[k].box) ∧
    w.cell? ⟨b, off + k * 4 + 2, none⟩ = some (.bool l[k].inn) ∧ w.cell? ⟨b, off + k * 4 + 3, none⟩ = some (.int .i64 l[k].to) ∧ l[k].name.size ≤ 1048576 ∧ I64 l[k].box ∧ I64 l[k].to := by
  obtain ⟨b, off, cs, ha, _, ⟨rfl, h1, h2, h3⟩, hc⟩ := h.get hk
  exact ⟨b, off, ha, hc 0 _ rfl, hc 1 _ rfl, hc 2 _ rfl, hc 3 _ rfl, h1, h2, h3⟩
theorem entries_at {l : List EntryD} (h : SlA 5 entryE w a l) {k : Nat} (hk : k < l.length) : ∃ b off vi vc vo, a = some ⟨b, off, none⟩ ∧
    w.cell? ⟨b, off + k * 5, none⟩ = some (.string l[k].name) ∧ w.cell? ⟨b, off + k * 5 + 1, none⟩ = some vi ∧ w.cell? ⟨b, off + k * 5 + 2, none⟩ = some vc ∧
    w.cell? ⟨b, off + k * 5 + 3, none⟩ = some (.string l[k].write) ∧ w.cell? ⟨b, off + k * 5 + 4, none⟩ = some vo ∧ l[k].name.size ≤ 1048576 ∧ l[k].write.size ≤ 1048576 ∧
    Sl 1 intE w vi l[k].ins ∧ Sl 1 strE w vc l[k].cubes ∧ Sl 1 intE w vo l[k].outs := by
  obtain ⟨b, off, cs, ha, _, ⟨vi, vc, vo, rfl, h1, h2, h3, h4, h5⟩, hc⟩ := h.get hk
  exact ⟨b, off, vi, vc, vo, ha, hc 0 _ rfl, hc 1 _ rfl, hc 2 _ rfl, hc 3 _ rfl, hc 4 _ rfl, h1, h2, h3, h4, h5⟩
theorem guards_at {l : List GuardD} (h : SlA 2 guardE w a l) {k : Nat} (hk : k < l.length) : ∃ b off vc, a = some ⟨b, off, none⟩ ∧
    w.cell? ⟨b, off + k * 2, none⟩ = some (.bool l[k].permit) ∧ w.cell? ⟨b, off + k * 2 + 1, none⟩ = some vc ∧ Sl 1 strE w vc l[k].cubes := by
  obtain ⟨b, off, cs, ha, _, ⟨vc, rfl, h1⟩, hc⟩ := h.get hk
  exact ⟨b, off, vc, ha, hc 0 _ rfl, hc 1 _ rfl, h1⟩
theorem tables_at {l : List (List EntryD)} (h : SlA 1 tableE w a l) {k : Nat} (hk : k < l.length) : ∃ b off v, a = some ⟨b, off, none⟩ ∧ w.cell? ⟨b, off + k, none⟩ = some v ∧ Sl 5 entryE w v l[k] := by
  obtain ⟨b, off, cs, ha, _, ⟨v, rfl, h1⟩, hc⟩ := h.get hk
  exact ⟨b, off, v, ha, by simpa using hc 0 _ rfl, h1⟩
theorem guardss_at {l : List (List GuardD)} (h : SlA 1 guardsE w a l) {k : Nat} (hk : k < l.length) : ∃ b off v, a = some ⟨b, off, none⟩ ∧ w.cell? ⟨b, off + k, none⟩ = some v ∧ Sl 2 guardE w v l[k] := by
  obtain ⟨b, off, cs, ha, _, ⟨v, rfl, h1⟩, hc⟩ := h.get hk
  exact ⟨b, off, v, ha, by simpa using hc 0 _ rfl, h1⟩
end

/-- The call answers a bool that is true just if p holds. -/
def Tells (p : Prop) (e : Ending) : Prop := ∃ b : Bool, e = .returned (.bool b) ∧ (b = true ↔ p)
theorem Tells.yes {p : Prop} (h : p) : Tells p (.returned (.bool true)) := ⟨true, rfl, by simp [h]⟩
theorem Tells.no {p : Prop} (h : ¬ p) : Tells p (.returned (.bool false)) := ⟨false, rfl, by simp [h]⟩
theorem Tells.of {p : Prop} {b : Bool} (h : b = true ↔ p) : Tells p (.returned (.bool b)) := ⟨b, rfl, h⟩
theorem Tells.cases {p : Prop} {e : Ending} (h : Tells p e) : (e = .returned (.bool true) ∧ p) ∨ (e = .returned (.bool false) ∧ ¬ p) := by
  obtain ⟨b, rfl, hb⟩ := h
  cases b
  · exact .inr ⟨rfl, by simpa using hb⟩
  · exact .inl ⟨rfl, by simpa using hb⟩

theorem ret_bool {a b : Bool} (h : a = b) : Ending.returned (.bool a) = .returned (.bool b) := by rw [h]
theorem ret_int {k : IntKind} {a b : Int} (h : a = b) : Ending.returned (.int k a) = .returned (.int k b) := by rw [h]
theorem str_same {a b : ByteArray} (h : a = b) : (a.toList == b.toList) = true := by subst h; simp
theorem str_other {a b : ByteArray} (h : ¬ a = b) : (a.toList == b.toList) = false := by
  rw [beq_eq_false_iff_ne]
  intro e
  rw [ByteArray.toList_eq, ByteArray.toList_eq, Array.toList_inj] at e
  exact h (ByteArray.ext e)
theorem take_snoc {α : Type} (l : List α) (k : Nat) (h : k < l.length) : l.take (k + 1) = l.take k ++ [l[k]] := List.take_succ_eq_append_getElem h

/-- The call answers 0 where p holds, else c. -/
def Errs (p : Prop) (c : Int) (e : Ending) : Prop := (e = .returned (.int .i64 0) ∧ p) ∨ (e = .returned (.int .i64 c) ∧ ¬ p)
theorem Errs.yes {p : Prop} {c : Int} (h : p) : Errs p c (.returned (.int .i64 0)) := .inl ⟨rfl, h⟩
theorem Errs.no {p : Prop} {c : Int} (h : ¬ p) : Errs p c (.returned (.int .i64 c)) := .inr ⟨rfl, h⟩

/-- What is a network: the reference's and the program's questions in one. -/
def cubeOk (s : ByteArray) : Prop := 1 ≤ s.size ∧ s.size ≤ 256 ∧ ∀ k (h : k < s.size), s[k].toNat = 48 ∨ s[k].toNat = 49 ∨ s[k].toNat = 120
def letterN (n : Nat) : Prop := n = 95 ∨ (97 ≤ n ∧ n ≤ 122) ∨ (65 ≤ n ∧ n ≤ 90)
def digitN (n : Nat) : Prop := 48 ≤ n ∧ n ≤ 57
def nameOk (s : ByteArray) : Prop := 1 ≤ s.size ∧ s.size ≤ 24 ∧ ∀ k (h : k < s.size), letterN s[k].toNat ∨ (k ≠ 0 ∧ digitN s[k].toNat)
/-- two names with a dot between -/
def fullOk (s : ByteArray) : Prop := ∃ k, ∃ h : k < s.size, s[k].toNat = 46 ∧ (∀ j (hj : j < k), s[j].toNat ≠ 46) ∧ nameOk (s.extract 0 k) ∧ nameOk (s.extract (k + 1) s.size)
def cubesOk (bits : Int) (l : List ByteArray) (most : Int) : Prop := (l.length : Int) ≤ most ∧ ∀ k (h : k < l.length), cubeOk l[k] ∧ (l[k].size : Int) = bits
def sideOk (ports : List PortD) (p box : Int) (inn : Bool) : Prop := 0 ≤ p ∧ ∃ h : p.toNat < ports.length, ports[p.toNat].box = box ∧ ports[p.toNat].inn = inn
def entryOk (n : NetD) (box : Int) (e : EntryD) : Prop :=
  e.name.size ≤ 256 ∧ e.outs.length ≤ 4 ∧ (∀ k (h : k < e.ins.length), sideOk n.ports e.ins[k] box true ∧ (∀ h0 : 0 < k, e.ins[k - 1] < e.ins[k])) ∧
  (∀ k (h : k < e.outs.length), sideOk n.ports e.outs[k] box false ∧ ∀ j (hj : j < k), e.outs[j] ≠ e.outs[k]) ∧ cubesOk n.bits [e.write] 1 ∧ cubesOk n.bits e.cubes 64
def cubesOf (t : List EntryD) : Nat := (t.map fun e => e.cubes.length).sum
def cubesOfG (t : List GuardD) : Nat := (t.map fun e => e.cubes.length).sum
def tablesOk (n : NetD) : Prop :=
  (∀ b (hb : b < n.tables.length), cubesOf n.tables[b] ≤ 512 ∧ ∀ i (hi : i < n.tables[b].length), entryOk n b n.tables[b][i]) ∧ (n.tables.map List.length).sum ≤ 256
def guardsOk (n : NetD) : Prop :=
  (∀ b (hb : b < n.guards.length), cubesOfG n.guards[b] ≤ 512 ∧ ∀ i (hi : i < n.guards[b].length), cubesOk n.bits n.guards[b][i].cubes 64) ∧ (n.guards.map List.length).sum ≤ 64
def portOk (n : NetD) (i : Nat) (p : PortD) : Prop :=
  fullOk p.name ∧ 0 ≤ p.box ∧ p.box < n.tables.length ∧ -1 ≤ p.to ∧ p.to < n.ports.length ∧ (0 ≤ p.to → p.inn = false ∧ ∀ h : p.to.toNat < n.ports.length, n.ports[p.to.toNat].inn = true) ∧
  ∀ k (hk : k < i) (h : k < n.ports.length), n.ports[k].name ≠ p.name
def portsOk (n : NetD) : Prop := ∀ i (h : i < n.ports.length), portOk n i n.ports[i]
def netOk (n : NetD) : Prop :=
  1 ≤ n.bits ∧ n.bits ≤ 256 ∧ n.tables.length ≤ 16 ∧ n.ports.length ≤ 48 ∧ n.guards.length = n.ports.length ∧ portsOk n ∧ guardsOk n ∧ tablesOk n

/-- the doors: in-ports that no link leads to -/
def ledB (n : NetD) (k : Nat) : Bool := n.ports.any fun q => q.to == (k : Int)
def doorB (n : NetD) (k : Nat) : Bool := (n.ports[k]?.any PortD.inn) && !ledB n k
def doorsTo (n : NetD) (k : Nat) : List Int := ((List.range k).filter (doorB n)).map Int.ofNat
theorem doorsTo_succ (n : NetD) (k : Nat) : doorsTo n (k + 1) = doorsTo n k ++ (if doorB n k = true then [(k : Int)] else []) := by
  unfold doorsTo
  rw [List.range_succ, List.filter_append, List.map_append]
  congr 1
  by_cases h : doorB n k = true <;> simp [h]
theorem any_take_succ (l : List PortD) (k : Int) (m : Nat) (h : m < l.length) : (l.take (m + 1)).any (fun q => q.to == k) = ((l.take m).any (fun q => q.to == k) || (l[m].to == k)) := by
  rw [take_snoc l m h, List.any_append]
  simp
theorem doorsTo_length (n : NetD) (k : Nat) : (doorsTo n k).length ≤ k := by
  unfold doorsTo
  have := List.length_filter_le (doorB n) (List.range k)
  simpa using this
theorem doorsTo_mem (n : NetD) (k : Nat) (x : Int) (h : x ∈ doorsTo n k) : 0 ≤ x ∧ x < k := by
  unfold doorsTo at h
  simp only [List.mem_map, List.mem_filter, List.mem_range] at h
  obtain ⟨a, ⟨h1, _⟩, rfl⟩ := h
  constructor <;> simp <;> omega
/-- What a call for the doors answers: the list and 0, or nil and the number of the refusal. -/
def DoorsRes (n : NetD) (w' : World) (e : Ending) : Prop :=
  ∃ v c, e = .returned (.tuple #[v, .int .i64 c]) ∧ ((c = 0 ∧ netOk n ∧ Sl 1 intE w' v (doorsTo n n.ports.length)) ∨ (c = 90 ∧ ¬ netOk n ∧ v = .slice none 0 0))
end Go.Proofs.YtbklijcdmiffaaaGreatDoor
