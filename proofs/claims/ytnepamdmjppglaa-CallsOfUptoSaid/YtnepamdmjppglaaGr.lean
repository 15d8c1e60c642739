/- Nodes as values and in memory; the graph that they are, plainly: who calls whom, as a list of pairs. -/
import Derived.Test.YtnepamdmjppglaaMap
namespace Go.Proofs.Ytnepamdmjppglaa
open Go Go.RowKit

structure NodeD where
  name : Nm
  calls : List Nm
  a : Option Addr
  c : Nat
def NodeD.cells (d : NodeD) : List Value := [strV d.name, .slice d.a d.calls.length d.c]
theorem NodeD.len (d : NodeD) : d.cells.length = 2 := rfl

/-- nodes that lie in memory -/
def NodesAt (w : World) (a : Option Addr) (l : List NodeD) : Prop := Row w 2 a l.length (l.flatMap NodeD.cells) ∧ ∀ d ∈ l, Row w 1 d.a d.calls.length (d.calls.map strV)
theorem NodesAt.ext {w w' : World} {a : Option Addr} {l : List NodeD} (h : NodesAt w a l) (hb : Below w.heap.size w w') : NodesAt w' a l := ⟨h.1.ext hb, fun d hd => (h.2 d hd).ext hb⟩
theorem node_at {w : World} {a : Option Addr} {l : List NodeD} (h : NodesAt w a l) {i : Nat} {x : NodeD} (hx : l[i]? = some x) :
    ∃ b off, a = some ⟨b, off, none⟩ ∧ w.cell? ⟨b, off + i * 2, none⟩ = some (.string ⟨x.name.toArray⟩) ∧ w.cell? ⟨b, off + i * 2 + 1, none⟩ = some (.slice x.a x.calls.length x.c) ∧ b < w.heap.size ∧ Row w 1 x.a x.calls.length (x.calls.map strV) := by
  obtain ⟨b, off, ha, hc⟩ := Row.elem NodeD.len (by decide) h.1 hx
  exact ⟨b, off, ha, hc 0 (by decide), hc 1 (by decide), cell_lt (hc 0 (by decide)), h.2 x (List.mem_of_getElem? hx)⟩

def M20 : Nat := 1048576
def total : List NodeD → Nat
  | [] => 0
  | d :: l => d.calls.length + total l
theorem total_app (l m : List NodeD) : total (l ++ m) = total l + total m := by
  induction l with
  | nil => simp [total]
  | cons x l ih => simp only [List.cons_append, total, ih]; omega
theorem total_mem {l : List NodeD} {d : NodeD} (h : d ∈ l) : d.calls.length ≤ total l := by
  induction l with
  | nil => cases h
  | cons y l ih =>
    rcases List.mem_cons.1 h with rfl | h
    · simp [total]
    · have := ih h; simp only [total]; omega
theorem total_take (l : List NodeD) (k : Nat) : total (l.take k) ≤ total l := by
  have := total_app (l.take k) (l.drop k)
  rw [List.take_append_drop] at this; omega

/-- few enough -/
structure SmallN (l : List NodeD) : Prop where
  len : l.length ≤ M20
  tot : total l ≤ M20
  name : ∀ d ∈ l, d.name.length ≤ M20
  call : ∀ d ∈ l, ∀ c ∈ d.calls, c.length ≤ M20

def names (l : List NodeD) : List Nm := l.map NodeD.name
/-- what a name's first node calls -/
def callsOf (l : List NodeD) (x : Nm) : List Nm := match l.find? (fun d => decide (d.name = x)) with
  | some d => d.calls
  | none => []
/-- .. that are nodes' names -/
def G (l : List NodeD) (x : Nm) : List Nm := (callsOf l x).filter fun c => decide (c ∈ names l)

theorem mem_names {l : List NodeD} {x : Nm} : x ∈ names l ↔ ∃ d ∈ l, d.name = x := by simp [names]
theorem find_some {l : List NodeD} {x : Nm} (h : x ∈ names l) : ∃ (i : Nat) (d : NodeD), l[i]? = some d ∧ d.name = x ∧ (∀ j (e : NodeD), j < i → l[j]? = some e → e.name ≠ x) ∧ l.find? (fun d => decide (d.name = x)) = some d := by
  induction l with
  | nil => simp [names] at h
  | cons y l ih =>
    by_cases q : y.name = x
    · exact ⟨0, y, rfl, q, fun j e hj => by omega, by simp [List.find?, q]⟩
    · have h' : x ∈ names l := by
        rw [mem_names] at h ⊢
        obtain ⟨d, hd, e⟩ := h
        rcases List.mem_cons.1 hd with rfl | hd
        · exact absurd e q
        · exact ⟨d, hd, e⟩
      obtain ⟨i, d, h1, h2, h3, h4⟩ := ih h'
      refine ⟨i + 1, d, by simpa using h1, h2, fun j e hj he => ?_, by simp [List.find?, q, h4]⟩
      cases j with
      | zero => simp at he; subst he; exact q
      | succ j => exact h3 j e (by omega) (by simpa using he)
theorem callsOf_none {l : List NodeD} {x : Nm} (h : x ∉ names l) : callsOf l x = [] := by
  have : l.find? (fun d => decide (d.name = x)) = none := List.find?_eq_none.2 fun d hd => by simpa using fun e => h (mem_names.2 ⟨d, hd, e⟩)
  simp [callsOf, this]
theorem callsOf_first {l : List NodeD} {i : Nat} {d : NodeD} (h : l[i]? = some d) (hf : ∀ j (e : NodeD), j < i → l[j]? = some e → e.name ≠ d.name) : callsOf l d.name = d.calls := by
  obtain ⟨i', d', h1, h2, h3, h4⟩ := find_some (mem_names.2 ⟨d, List.mem_of_getElem? h, rfl⟩)
  have : i = i' := by
    rcases Nat.lt_trichotomy i i' with q | q | q
    · exact absurd rfl (h3 i d q h)
    · exact q
    · exact absurd h2 (hf i' d' q h1)
  subst this
  rw [h] at h1; cases h1
  simp [callsOf, h4]
theorem mem_G {l : List NodeD} {x y : Nm} : y ∈ G l x ↔ y ∈ callsOf l x ∧ y ∈ names l := by simp [G]
theorem G_node {l : List NodeD} {x y : Nm} (h : y ∈ G l x) : x ∈ names l ∧ y ∈ names l := by
  rw [mem_G] at h
  refine ⟨?_, h.2⟩
  rcases Classical.em (x ∈ names l) with q | q
  · exact q
  · rw [callsOf_none q] at h; simp at h
theorem Rch.names {l : List NodeD} {x y : Nm} (h : Rch (G l) x y) (hx : x ∈ names l) : y ∈ names l := by
  cases h with
  | refl => exact hx
  | tail _ he => exact (G_node he).2

/-- pairs: who stands behind whom -/
def outs (E : List (Nm × Nm)) (x : Nm) : List Nm := (E.filter fun p => decide (p.1 = x)).map (·.2)
theorem mem_outs {E : List (Nm × Nm)} {x y : Nm} : y ∈ outs E x ↔ (x, y) ∈ E := by
  simp only [outs, List.mem_map, List.mem_filter, decide_eq_true_eq]
  constructor
  · rintro ⟨⟨a, b⟩, ⟨h1, rfl⟩, rfl⟩; exact h1
  · intro h; exact ⟨(x, y), ⟨h, rfl⟩, rfl⟩
theorem outs_snoc (E : List (Nm × Nm)) (p q : Nm) (x : Nm) : outs (E ++ [(p, q)]) x = if x = p then outs E x ++ [q] else outs E x := by
  by_cases h : x = p
  · subst h; simp [outs]
  · have h' : p ≠ x := fun e => h e.symm
    simp [outs, h, h']
theorem outs_len (E : List (Nm × Nm)) (x : Nm) : (outs E x).length ≤ E.length := by
  simp only [outs, List.length_map]; exact List.length_filter_le _ _

/-- which pairs the first i nodes, and k calls of the next one, make -/
def pair (t : Bool) (x y : Nm) : Nm × Nm := if t then (y, x) else (x, y)
theorem Rch.congr {g g' : Nm → List Nm} (h : ∀ x y, y ∈ g x → y ∈ g' x) {x y : Nm} (hr : Rch g x y) : Rch g' x y := by
  induction hr with
  | refl => exact .refl _
  | tail _ he ih => exact .tail ih (h _ _ he)
theorem Rch.flip {g g' : Nm → List Nm} (h : ∀ x y, y ∈ g x → x ∈ g' y) {x y : Nm} (hr : Rch g x y) : Rch g' y x := by
  induction hr with
  | refl => exact .refl _
  | tail _ he ih => exact (Rch.edge (h _ _ he)).trans ih

/-- the pairs are the edges (turned: turned) -/
structure Pairs (l : List NodeD) (t : Bool) (E : List (Nm × Nm)) : Prop where
  mem : ∀ x y, pair t x y ∈ E ↔ y ∈ G l x
  len : E.length ≤ total l

/-- what stands after the first i nodes and k calls of the next -/
structure PInv (l : List NodeD) (t : Bool) (i k : Nat) (E : List (Nm × Nm)) : Prop where
  mem : ∀ x y, pair t x y ∈ E ↔ ∃ (j : Nat) (d : NodeD), l[j]? = some d ∧ d.name = x ∧ (∀ j' (e : NodeD), j' < j → l[j']? = some e → e.name ≠ x) ∧ y ∈ names l ∧ (j < i ∧ y ∈ d.calls ∨ j = i ∧ y ∈ d.calls.take k)
  len : E.length ≤ total (l.take i) + k
theorem PInv.start (l : List NodeD) (t : Bool) : PInv l t 0 0 [] := ⟨fun x y => by simp, by simp⟩
theorem PInv.skip {l : List NodeD} {t : Bool} {i k : Nat} {E : List (Nm × Nm)} (h : PInv l t i k E) {d : NodeD} (hd : l[i]? = some d) {c : Nm} (hc : d.calls[k]? = some c) (hn : c ∉ names l) : PInv l t i (k + 1) E := by
  refine ⟨fun x y => (h.mem x y).trans ?_, by have := h.len; omega⟩
  constructor
  · rintro ⟨j, e, h1, h2, h3, h4, h5⟩
    refine ⟨j, e, h1, h2, h3, h4, h5.imp id fun ⟨p, q⟩ => ⟨p, ?_⟩⟩
    rw [List.take_add_one]; exact List.mem_append_left _ q
  · rintro ⟨j, e, h1, h2, h3, h4, h5⟩
    refine ⟨j, e, h1, h2, h3, h4, h5.imp id fun ⟨p, q⟩ => ⟨p, ?_⟩⟩
    subst p
    rw [hd] at h1; cases h1
    rw [List.take_add_one, hc, List.mem_append] at q
    rcases q with q | q
    · exact q
    · simp at q; subst q; exact absurd h4 hn
theorem pair_inj {t : Bool} {x y x' y' : Nm} (h : pair t x y = pair t x' y') : x = x' ∧ y = y' := by
  unfold pair at h; cases t
  · simp at h; exact h
  · simp at h; exact ⟨h.2, h.1⟩
theorem PInv.push {l : List NodeD} {t : Bool} {i k : Nat} {E : List (Nm × Nm)} (h : PInv l t i k E) {d : NodeD} (hd : l[i]? = some d) (hf : ∀ j (e : NodeD), j < i → l[j]? = some e → e.name ≠ d.name) {c : Nm} (hc : d.calls[k]? = some c) (hn : c ∈ names l) :
    PInv l t i (k + 1) (E ++ [pair t d.name c]) := by
  refine ⟨fun x y => ?_, by have := h.len; simp; omega⟩
  rw [List.mem_append, List.mem_singleton, h.mem x y]
  constructor
  · rintro (⟨j, e, h1, h2, h3, h4, h5⟩ | q)
    · refine ⟨j, e, h1, h2, h3, h4, h5.imp id fun ⟨p, q⟩ => ⟨p, ?_⟩⟩
      rw [List.take_add_one]; exact List.mem_append_left _ q
    · obtain ⟨rfl, rfl⟩ := pair_inj q
      refine ⟨i, d, hd, rfl, hf, hn, .inr ⟨rfl, ?_⟩⟩
      rw [List.take_add_one, hc]; simp
  · rintro ⟨j, e, h1, h2, h3, h4, h5⟩
    rcases h5 with h5 | ⟨p, q⟩
    · exact .inl ⟨j, e, h1, h2, h3, h4, .inl h5⟩
    · subst p
      rw [hd] at h1; cases h1
      rw [List.take_add_one, hc, List.mem_append] at q
      rcases q with q | q
      · exact .inl ⟨j, d, hd, h2, h3, h4, .inr ⟨rfl, q⟩⟩
      · simp at q; subst q; right; rw [h2]
theorem take_snoc_total {l : List NodeD} {i : Nat} {d : NodeD} (hd : l[i]? = some d) : total (l.take (i + 1)) = total (l.take i) + d.calls.length := by
  rw [List.take_add_one, hd, total_app]; simp [total]
/-- a node is through -/
theorem PInv.node {l : List NodeD} {t : Bool} {i : Nat} {E : List (Nm × Nm)} {d : NodeD} (hd : l[i]? = some d) (h : PInv l t i d.calls.length E) : PInv l t (i + 1) 0 E := by
  refine ⟨fun x y => (h.mem x y).trans ?_, by rw [take_snoc_total hd]; exact h.len⟩
  constructor
  · rintro ⟨j, e, h1, h2, h3, h4, h5⟩
    refine ⟨j, e, h1, h2, h3, h4, .inl ?_⟩
    rcases h5 with ⟨p, q⟩ | ⟨p, q⟩
    · exact ⟨by omega, q⟩
    · exact ⟨by omega, List.mem_of_mem_take q⟩
  · rintro ⟨j, e, h1, h2, h3, h4, h5⟩
    refine ⟨j, e, h1, h2, h3, h4, ?_⟩
    rcases h5 with ⟨p, q⟩ | ⟨p, q⟩
    · rcases Nat.lt_or_ge j i with r | r
      · exact .inl ⟨r, q⟩
      · obtain rfl : j = i := by omega
        rw [hd] at h1; cases h1
        exact .inr ⟨rfl, by rw [List.take_length]; exact q⟩
    · simp at q
/-- a node whose name has been -/
theorem PInv.again {l : List NodeD} {t : Bool} {i : Nat} {E : List (Nm × Nm)} {d : NodeD} (hd : l[i]? = some d) {j0 : Nat} {e0 : NodeD} (hj0 : j0 < i) (he0 : l[j0]? = some e0) (hn : e0.name = d.name) (h : PInv l t i 0 E) : PInv l t (i + 1) 0 E := by
  refine ⟨fun x y => (h.mem x y).trans ?_, by rw [take_snoc_total hd]; have := h.len; omega⟩
  constructor
  · rintro ⟨j, e, h1, h2, h3, h4, h5⟩
    refine ⟨j, e, h1, h2, h3, h4, .inl ?_⟩
    rcases h5 with ⟨p, q⟩ | ⟨p, q⟩
    · exact ⟨by omega, q⟩
    · simp at q
  · rintro ⟨j, e, h1, h2, h3, h4, h5⟩
    refine ⟨j, e, h1, h2, h3, h4, ?_⟩
    rcases h5 with ⟨p, q⟩ | ⟨p, q⟩
    · rcases Nat.lt_or_ge j i with r | r
      · exact .inl ⟨r, q⟩
      · obtain rfl : j = i := by omega
        rw [hd] at h1; cases h1
        exact absurd (hn.trans h2) (h3 j0 e0 hj0 he0)
    · simp at q
theorem PInv.done {l : List NodeD} {t : Bool} {E : List (Nm × Nm)} (h : PInv l t l.length 0 E) : Pairs l t E := by
  refine ⟨fun x y => (h.mem x y).trans ?_, by have := h.len; rw [List.take_length] at this; omega⟩
  rw [mem_G]
  constructor
  · rintro ⟨j, e, h1, rfl, h3, h4, h5⟩
    rw [callsOf_first h1 h3]
    rcases h5 with ⟨p, q⟩ | ⟨p, q⟩
    · exact ⟨q, h4⟩
    · simp at q
  · rintro ⟨h1, h2⟩
    have hx : x ∈ names l := by
      rcases Classical.em (x ∈ names l) with q | q
      · exact q
      · rw [callsOf_none q] at h1; simp at h1
    obtain ⟨i, d, k1, rfl, k3, k4⟩ := find_some hx
    rw [callsOf_first k1 k3] at h1
    exact ⟨i, d, k1, rfl, k3, h2, .inl ⟨get_lt k1, h1⟩⟩
end Go.Proofs.Ytnepamdmjppglaa
