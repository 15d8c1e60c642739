/- What parse.All holds between two rounds. -/
import Derived.Test.YtnepamdmjppglaaPartP
import Derived.RangeFuncWrites
import Derived.RangeFuncLeaves
namespace Go.Proofs.Ytnepamdmjppglaa
open Go Go.RowKit

theorem blk_abide {W W' : World} {g : Nat} {cur : Array Value} {e : TypeId} {row : Option Nat} (h : Blk W g cur e) (hg : W.grownBy W' row) (hr : ∀ r, row = some r → ∃ o : Obj, W.heap[r]? = some o ∧ o.isCells = false) : Blk W' g cur e :=
  h.grown hg (fun e' => by obtain ⟨o, ho, hc⟩ := hr g e'.symm; rw [show W.heap[g]? = _ from h] at ho; cases ho; cases hc)
theorem own_abide {W W' : World} {base : Nat} {e : TypeId} {sz : Nat} {a : Option Addr} {n cap : Nat} {xs : List Value} {row : Option Nat} (h : Own W base e sz a n cap xs) (hg : W.grownBy W' row) (hr : ∀ r, row = some r → ∃ o : Obj, W.heap[r]? = some o ∧ o.isCells = false) : Own W' base e sz a n cap xs := by
  refine ⟨h.1, ?_⟩
  rcases h.2 with h1 | ⟨g, off, cur, rfl, h2, h3, r⟩
  · exact .inl h1
  · exact .inr ⟨g, off, cur, rfl, h2, blk_abide h3 hg hr, r⟩
/-- a block of another type is not the row -/
theorem own_ne {w : World} {base : Nat} {e e2 : TypeId} {sz : Nat} {a : Option Addr} {n cap : Nat} {xs : List Value} {g : Nat} {cur : Array Value} (h : Own w base e sz a n cap xs) (hb : Blk w g cur e2) (hne : e ≠ e2) : rowOf a cap ≠ some g := by
  intro he
  unfold rowOf at he
  split at he
  · cases he
  · rename_i hc
    rcases h.2 with ⟨_, q, _⟩ | ⟨g', off, cur', rfl, _, q3, _⟩
    · exact hc q
    · simp [blockOf] at he; subst he
      unfold Blk at hb; rw [hb] at q3; simp at q3; exact hne q3.2.symm
/-- a row is a block of cells -/
theorem own_cells {w : World} {base : Nat} {e : TypeId} {sz : Nat} {a : Option Addr} {n cap : Nat} {xs : List Value} (h : Own w base e sz a n cap xs) {g : Nat} (hg : rowOf a cap = some g) {o : Obj} (ho : w.heap[g]? = some o) : o.isCells = true := by
  unfold rowOf at hg
  split at hg
  · cases hg
  · rename_i hc
    rcases h.2 with ⟨_, q, _⟩ | ⟨g', off, cur', rfl, _, q3, _⟩
    · exact absurd q hc
    · simp [blockOf] at hg; subst hg; rw [q3] at ho; cases ho; rfl

theorem own_take {w : World} {base : Nat} {e : TypeId} {sz : Nat} {a : Option Addr} {n cap : Nat} {xs : List Value} (h : Own w base e sz a n cap xs) {m : Nat} (hm : m ≤ n) : Own w base e sz a m cap (xs.take (m * sz)) := by
  have hk : m * sz ≤ n * sz := Nat.mul_le_mul_right sz hm
  refine ⟨by rw [List.length_take, h.1]; omega, ?_⟩
  rcases h.2 with ⟨h1, h2, h3⟩ | ⟨g, off, cur, h1, h2, h3, h4, h5, h6, h7⟩
  · exact .inl ⟨by omega, h2, h3⟩
  · refine .inr ⟨g, off, cur, h1, h2, h3, by omega, h5, h6, ?_⟩
    rw [← h7, List.take_take, Nat.min_eq_left hk]

def mark (r : Nat) : Deferred := { target := .collected r, args := #[] }
/-- the marks of the ranges that came -/
structure Marks (B : Nat) (rs : List Nat) (W : World) : Prop where
  all : ∀ r ∈ rs, B ≤ r ∧ W.heap[r]? = some (.deferred (some []))
  one : rs.Nodup
theorem Marks.lt {B : Nat} {rs : List Nat} {W : World} (h : Marks B rs W) {r : Nat} (hr : r ∈ rs) : r < W.heap.size := (Array.getElem?_eq_some_iff.1 (h.all r hr).2).1
theorem Marks.nil (B : Nat) (W : World) : Marks B [] W := ⟨by simp, by simp⟩
theorem Marks.ext {B : Nat} {rs : List Nat} {W W' : World} (h : Marks B rs W) (hb : Below W.heap.size W W') : Marks B rs W' := ⟨fun r hr => ⟨(h.all r hr).1, (hb.block r (h.lt hr)).trans (h.all r hr).2⟩, h.one⟩
theorem Marks.setCell {B : Nat} {rs : List Nat} {W : World} (h : Marks B rs W) {p : Addr} {cur : Array Value} {e : TypeId} (hp : Blk W p.block cur e) (u : Value) : Marks B rs (W.setCell p u) :=
  ⟨fun r hr => ⟨(h.all r hr).1, (Below.heap_setCell W p u r (fun e => by subst e; have := (h.all _ hr).2; unfold Blk at hp; rw [hp] at this; cases this)).trans (h.all r hr).2⟩, h.one⟩
theorem Marks.grown {B : Nat} {rs : List Nat} {W W' : World} {row : Option Nat} (h : Marks B rs W) (hg : W.grownBy W' row) (hne : ∀ r ∈ rs, some r ≠ row) : Marks B rs W' :=
  ⟨fun r hr => ⟨(h.all r hr).1, (hg.block r (h.lt hr) (hne r hr)).trans (h.all r hr).2⟩, h.one⟩
theorem Marks.add {B : Nat} {rs : List Nat} {W : World} (h : Marks B rs W) {D : Nat} (hB : B ≤ D) (hD : W.heap[D]? = some (.deferred (some []))) (hn : D ∉ rs) : Marks B (D :: rs) W :=
  ⟨fun r hr => by rcases List.mem_cons.1 hr with rfl | hr <;> first | exact ⟨hB, hD⟩ | exact h.all r hr, List.nodup_cons.2 ⟨hn, h.one⟩⟩

/-- a frame that leaves with nothing but marks -/
theorem leavesM {F : Fence} {n : Nat} {P : Program} {fn : Func} {tmps : Array Value} {R : Ending → World → Prop} {B : Nat} (C : World → Prop) (hC : ∀ W r, C W → B ≤ r → W.heap[r]? = some (.deferred (some [])) → C (W.putObj r (.deferred none)))
    (h : ∀ W, C W → LeavesInM F n P fn tmps R [] .returning W) : ∀ (rs : List Nat) (W : World), Marks B rs W → C W → LeavesInM F n P fn tmps R (rs.map mark) .returning W := by
  intro rs
  induction rs with
  | nil => exact fun W _ hc => h W hc
  | cons r rs ih =>
    intro W hm hc
    obtain ⟨h1, h2⟩ := hm.all r (List.mem_cons_self ..)
    refine ⟨by simp, .inl ⟨r, _, rfl, run_takeDeferred h2, ih _ ⟨fun q hq => ?_, (List.nodup_cons.1 hm.one).2⟩ (hC W r hc h1 h2)⟩⟩
    obtain ⟨h3, h4⟩ := hm.all q (List.mem_cons_of_mem _ hq)
    have hne : q ≠ r := fun e => by subst e; exact (List.nodup_cons.1 hm.one).1 hq
    exact ⟨h3, ((grownBy_putObj' W r (.deferred none)).block q (Array.getElem?_eq_some_iff.1 h4).1 (fun e => hne (Option.some.inj e))).trans h4⟩

/-- what is held: the parts that are told, those that are still to come, the box of the latter, the marks -/
structure PSt (W : World) (B tb : Nat) (rs : List Nat) (out td : List PartD) (ao ax : Option Addr) (co cx : Nat) : Prop where
  bt : Blk W tb #[.slice ax td.length cx] 22
  htb : B ≤ tb
  o : Own W B 24 5 ao out.length co (out.flatMap PartD.cells)
  t : Own W B 24 5 ax td.length cx (td.flatMap PartD.cells)
  ap : 0 < co → 0 < cx → blockOf ao ≠ blockOf ax
  mks : Marks B rs W
section
variable {W W' : World} {B tb : Nat} {rs : List Nat} {out td : List PartD} {ao ax : Option Addr} {co cx : Nat}
theorem PSt.ext (h : PSt W B tb rs out td ao ax co cx) (hb : Below W.heap.size W W') : PSt W' B tb rs out td ao ax co cx := ⟨h.bt.ext hb, h.htb, h.o.ext hb, h.t.ext hb, h.ap, h.mks.ext hb⟩
theorem PSt.abide (h : PSt W B tb rs out td ao ax co cx) {row : Option Nat} (hg : W.grownBy W' row) (hr : ∀ r, row = some r → r ∉ rs ∧ ∃ o : Obj, W.heap[r]? = some o ∧ o.isCells = false) : PSt W' B tb rs out td ao ax co cx :=
  ⟨blk_abide h.bt hg fun r e => (hr r e).2, h.htb, own_abide h.o hg fun r e => (hr r e).2, own_abide h.t hg fun r e => (hr r e).2, h.ap, h.mks.grown hg fun r hrs e => (hr r e.symm).1 hrs⟩
theorem ne_types : 24 ≠ 22 := by decide
theorem PSt.oRow (h : PSt W B tb rs out td ao ax co cx) : ∀ r ∈ rs, some r ≠ rowOf ao co := fun r hr e => by have := own_cells h.o e.symm (h.mks.all r hr).2; cases this
theorem PSt.tRow (h : PSt W B tb rs out td ao ax co cx) : ∀ r ∈ rs, some r ≠ rowOf ax cx := fun r hr e => by have := own_cells h.t e.symm (h.mks.all r hr).2; cases this

theorem cells_app (l : List PartD) (x : PartD) : (l ++ [x]).flatMap PartD.cells = l.flatMap PartD.cells ++ x.cells := by simp
theorem cells_len (l : List PartD) : (l.flatMap PartD.cells).length = l.length * 5 := by
  induction l with
  | nil => rfl
  | cons x l ih => rw [List.flatMap_cons, List.length_append, ih, x.len, List.length_cons]; omega
/-- a row's block, behind an append to it: the elder one or a new one -/
theorem rowOf_pos {a : Option Addr} {c : Nat} (h : 0 < c) : rowOf a c = blockOf a := by unfold rowOf; rw [if_neg (by omega)]

/-- behind the append of the last to what is told, and its being taken off -/
theorem PSt.pop {x : PartD} (h : PSt W B tb rs out (td ++ [x]) ao ax co cx) {a5 : Option Addr} {c5 : Nat} (hown : Own W' B 24 5 a5 (out.length + 1) c5 (out.flatMap PartD.cells ++ x.cells)) (hg : W.grownBy W' (rowOf ao co)) (hbk : rowOf a5 c5 = rowOf ao co ∨ rowOf a5 c5 = some W.heap.size) :
    PSt (W'.setCell ⟨tb, 0, none⟩ (.slice ax td.length cx)) B tb rs (out ++ [x]) td a5 ax c5 cx := by
  have hbt : Blk W' tb #[.slice ax (td ++ [x]).length cx] 22 := h.bt.grown hg (fun e => own_ne h.o h.bt ne_types e.symm)
  have ht : Own W' B 24 5 ax (td ++ [x]).length cx ((td ++ [x]).flatMap PartD.cells) := h.t.keptApart (fun h1 h2 e => h.ap h2 h1 e.symm) hg
  have hmk : Marks B rs W' := h.mks.grown hg h.oRow
  have hle := h.t.le
  rw [List.length_append, List.length_singleton] at hle ht
  have hcx : 0 < cx := by omega
  have htt := own_take ht (m := td.length) (by omega)
  rw [cells_app, List.take_left' (cells_len td)] at htt
  refine ⟨?_, h.htb, ?_, ?_, fun h1 h2 e => ?_, hmk.setCell (p := ⟨tb, 0, none⟩) hbt _⟩
  · simpa using hbt.set 0 (.slice ax td.length cx)
  · rw [cells_app, List.length_append, List.length_singleton]
    exact hown.setCell_row (p := ⟨tb, 0, none⟩) (own_ne hown hbt ne_types) _
  · exact htt.setCell_row (p := ⟨tb, 0, none⟩) (own_ne htt hbt ne_types) _
  · rw [← rowOf_pos h1, ← rowOf_pos (a := ax) h2] at e
    rcases hbk with q | q
    · rcases Nat.eq_zero_or_pos co with hc | hc
      · rw [e] at q; unfold rowOf at q; rw [if_neg (by omega), if_pos hc] at q
        obtain ⟨g, off, rfl⟩ := h.t.addr hcx
        simp [blockOf] at q
      · rw [q, rowOf_pos hc, rowOf_pos h2] at e
        exact h.ap hc h2 e
    · rw [e] at q
      rw [rowOf_pos h2] at q
      have := (h.t.size hcx q).2
      omega
end
end Go.Proofs.Ytnepamdmjppglaa
