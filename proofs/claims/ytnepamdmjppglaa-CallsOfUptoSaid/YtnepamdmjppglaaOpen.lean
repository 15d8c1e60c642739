/- What nodes and names that come in hold, read off their reading. -/
import Derived.Test.YtnepamdmjppglaaLawG
import Derived.ProofKit
import Derived.Deep.Slices
import Derived.Lib.SmallJoins
import Derived.JoinedCond
namespace Go.Proofs.Ytnepamdmjppglaa
open Go Go.RowKit Go.ChangeAt Go.ChangeShapes Go.WideShapes Go.Deep Go.Joins

/-- every reading counts; a list's counts add up -/
theorem bulk_pos {H : Type} : ∀ d : DataW H, 0 < Rows.uptoBulk d
  | .lit (.string b) => Nat.succ_pos b.length
  | .lit (.int _ _) => Nat.one_pos
  | .lit (.bool _) => Nat.one_pos
  | .lit (.float ..) => Nat.one_pos
  | .lit .nil => Nat.one_pos
  | .nil => by unfold Rows.uptoBulk; exact Nat.one_pos
  | .ptr _ => by unfold Rows.uptoBulk; exact Nat.succ_pos _
  | .slice _ _ => by unfold Rows.uptoBulk; exact Nat.succ_pos _
  | .agg _ => by unfold Rows.uptoBulk; exact Nat.succ_pos _
  | .iface _ _ => by unfold Rows.uptoBulk; exact Nat.succ_pos _
  | .map _ => by unfold Rows.uptoBulk; exact Nat.succ_pos _
  | .held _ => by unfold Rows.uptoBulk; exact Nat.one_pos
theorem bulk_cons {H : Type} (d : DataW H) (l : List (DataW H)) : Rows.uptoBulkAll (d :: l) = Rows.uptoBulk d + Rows.uptoBulkAll l := by rw [Rows.uptoBulkAll]
theorem bulk_app {H : Type} (k : List (DataW H)) : ∀ l, Rows.uptoBulkAll (l ++ k) = Rows.uptoBulkAll l + Rows.uptoBulkAll k
  | [] => by rw [List.nil_append]; simp only [Rows.uptoBulkAll]; omega
  | d :: l => by rw [List.cons_append, bulk_cons, bulk_cons, bulk_app k l, Nat.add_assoc]
theorem bulk_mem {H : Type} {d : DataW H} {l : List (DataW H)} (h : d ∈ l) : Rows.uptoBulk d ≤ Rows.uptoBulkAll l := by
  obtain ⟨p, q, rfl⟩ := List.append_of_mem h
  rw [bulk_app, bulk_cons]; omega
theorem bulk_len {H : Type} : ∀ l : List (DataW H), l.length ≤ Rows.uptoBulkAll l
  | [] => Nat.zero_le _
  | d :: l => by rw [bulk_cons, List.length_cons]; have h1 := bulk_pos d; have h2 := bulk_len l; omega

theorem cells_at {w : World} {base : Nat} {a : Addr} {n : Nat} {cs : List Value} (h : w.cells? base a n = some cs) (hn : 0 < n) : a.spot = none ∧ cs.length = n ∧ ∀ j, j < n → w.cell? ⟨a.block, a.off + j, none⟩ = cs[j]? := by
  obtain ⟨-, hl, hc⟩ := World.cells?_some h
  have hsp : a.spot = none := by
    have h0 := hc 0 hn
    rw [List.getElem?_eq_getElem (by omega)] at h0
    simp only [Addr.add, if_pos] at h0
    unfold World.cell? at h0
    split at h0
    · split at h0
      · simp at h0
      · rename_i hs; simpa using hs
    · simp at h0
  refine ⟨hsp, hl, fun j hj => ?_⟩
  rw [← hc j hj]
  obtain ⟨b, o, s⟩ := a
  simp at hsp
  subst hsp
  simp only [Addr.add]
  split
  · rename_i h0; subst h0; rfl
  · rfl

/-- a slice that is read holds elements, of no more bulk than it -/
theorem open_rowB {α : Type} [Inhabited α] (f : α → List Value) (sz : Nat) (hs : 0 < sz) (he : ∀ x, (f x).length = sz) {H : Type} {enc : TypeId × Value → H} {P : Program} {w : World} {base : Nat} {spare : Nat → Bool} {held : Bool} {t e : TypeId} (ht : P.underlying t = some (.slice e)) (hc : P.cellsOf e = sz)
    (Φ : α → DataW H → Prop) (hel : ∀ n cs y, DataW.trod enc P w base spare held n e cs = some y → ∃ x, cs = f x ∧ Φ x y.1) {fuel : Nat} {v : Value} {y : DataW H × List MemPlace} (h : DataW.trod enc P w base spare held fuel t [v] = some y) :
    ∃ (a : Option Addr) (l : List α) (cap : Nat) (X : Nat → α) (D : Nat → DataW H), v = .slice a l.length cap ∧ Row w sz a l.length (l.flatMap f) ∧ l = (List.range l.length).map X ∧ (∀ i, i < l.length → Φ (X i) (D i)) ∧ Rows.uptoBulkAll ((List.range l.length).map D) + 1 ≤ Rows.uptoBulk y.1 := by
  rcases open_slice ht h with ⟨h1, h2⟩ | ⟨a, len, cap, m, n, D, Pl, h1, hb, hl, hm, hmm, h2, hx⟩
  · simp only [List.cons.injEq, and_true] at h1
    exact ⟨none, [], 0, fun _ => default, fun _ => .nil, h1, Row.nil _ _ _, rfl, by simp, by rw [h2]; simp [Rows.uptoBulkAll, Rows.uptoBulk]⟩
  · simp only [List.cons.injEq, and_true] at h1
    have hlm : len ≤ m := by subst hmm; split <;> omega
    obtain ⟨X, hX⟩ := choose_lt (α := α) (n := len) (p := fun i x => w.cells? base (a.add (i * sz)) sz = some (f x) ∧ Φ x (D i)) (fun i hi => by
      obtain ⟨cs', h3, h4⟩ := hx i (by omega)
      obtain ⟨x, rfl, hΦ⟩ := hel _ _ _ h4
      exact ⟨x, by rw [← hc]; exact h3, hΦ⟩)
    have hlen : ((List.range len).map X).length = len := by simp
    refine ⟨some a, (List.range len).map X, cap, X, D, by rw [hlen]; exact h1, ?_, by rw [hlen], fun i hi => (hX i (by rw [hlen] at hi; exact hi)).2, ?_⟩
    · rw [hlen]
      refine ⟨by rw [flat_length f sz he, hlen], fun h0 => ?_⟩
      have hlp : 0 < len := Nat.pos_of_mul_pos_right h0
      obtain ⟨hsp, -, -⟩ := cells_at (hX 0 hlp).1 hs
      have hsp0 : a.spot = none := by simpa [Addr.add] using hsp
      obtain ⟨b, o, s⟩ := a
      simp at hsp0
      subst hsp0
      refine ⟨b, o, rfl, fun j hj => ?_⟩
      have hi : j / sz < len := Nat.div_lt_of_lt_mul (by rw [Nat.mul_comm]; exact hj)
      have hr : j % sz < sz := Nat.mod_lt _ hs
      obtain ⟨-, -, hcell⟩ := cells_at (hX (j / sz) hi).1 hs
      have e1 := hcell (j % sz) hr
      have ej : j / sz * sz + j % sz = j := Nat.div_add_mod' j sz
      have e2 : (Addr.add ⟨b, o, none⟩ (j / sz * sz)) = ⟨b, o + j / sz * sz, none⟩ := by
        simp only [Addr.add]; split
        · rename_i h1; rw [h1]; rfl
        · rfl
      rw [e2] at e1
      simp only at e1
      rw [show o + j / sz * sz + j % sz = o + j by omega] at e1
      rw [e1]
      have e3 := flat_get f sz he ((List.range len).map X) (j / sz) (j % sz) (X (j / sz)) (by simp [hi]) hr
      rw [ej] at e3
      exact e3.symm
    · rw [hlen, h2]; simp only [Rows.uptoBulk]; omega

theorem flat_one (l : List Nm) : l.flatMap (fun x => [strV x]) = l.map strV := by
  induction l with
  | nil => rfl
  | cons x l ih => rw [List.flatMap_cons, ih]; rfl
theorem Try.cells1String : Try.prog.cellsOf 9 = 1 := by kernel_rfl
theorem Try.cells1Strs : Try.prog.cellsOf 28 = 1 := by kernel_rfl
theorem Try.cellsNodeR : Try.prog.cellsOf 47 = 2 := by kernel_rfl
instance : Inhabited NodeD := ⟨⟨[], [], none, 0⟩⟩
theorem list2 {α : Type} {cs : List α} (h : cs.length = 2) : ∃ a b, cs = [a, b] := by
  match cs, h with
  | [a, b], _ => exact ⟨a, b, rfl⟩

section
variable {H : Type} {enc : TypeId × Value → H} {w : World} {base : Nat} {spare : Nat → Bool} {held : Bool}
theorem bulk_in {n : Nat} {D : Nat → DataW H} {i : Nat} (hi : i < n) : Rows.uptoBulk (D i) ≤ Rows.uptoBulkAll ((List.range n).map D) := bulk_mem (List.mem_map_of_mem (List.mem_range.2 hi))
theorem string_formB (n : Nat) (cs : List Value) (y : DataW H × List MemPlace) (h : DataW.trod enc Try.prog w base spare held n 9 cs = some y) : ∃ x : Nm, cs = [strV x] ∧ x.length + 1 ≤ Rows.uptoBulk y.1 := by
  obtain ⟨s, h1, h2, -⟩ := DataW.trod_string Try.underlying9 h
  exact ⟨s.data.toList, by rw [h1]; simp [strV], by rw [h2]; simp [Rows.uptoBulk]⟩
/-- names that come in -/
theorem open_names {fuel : Nat} {v : Value} {y : DataW H × List MemPlace} (h : DataW.trod enc Try.prog w base spare held fuel 28 [v] = some y) :
    ∃ (a : Option Addr) (l : List Nm) (cap : Nat), v = .slice a l.length cap ∧ Row w 1 a l.length (l.map strV) ∧ l.length + 1 ≤ Rows.uptoBulk y.1 ∧ ∀ x ∈ l, x.length ≤ Rows.uptoBulk y.1 := by
  obtain ⟨a, l, cap, X, D, h1, h2, h3, h4, h5⟩ := open_rowB (fun x : Nm => [strV x]) 1 (by decide) (fun _ => rfl) Try.underlying28 Try.cells1String (fun x d => x.length + 1 ≤ Rows.uptoBulk d) string_formB h
  rw [flat_one] at h2
  have h6 := bulk_len ((List.range l.length).map D)
  rw [List.length_map, List.length_range] at h6
  refine ⟨a, l, cap, h1, h2, by omega, fun x hx => ?_⟩
  rw [h3] at hx
  obtain ⟨i, hi, rfl⟩ := List.mem_map.1 hx
  have hi' := List.mem_range.1 hi
  have := h4 i hi'
  have := bulk_in (D := D) hi'
  omega
theorem node_formB (n : Nat) (cs : List Value) (y : DataW H × List MemPlace) (h : DataW.trod enc Try.prog w base spare held n 47 cs = some y) :
    ∃ x : NodeD, cs = x.cells ∧ (x.name.length ≤ Rows.uptoBulk y.1 ∧ x.calls.length ≤ Rows.uptoBulk y.1 ∧ (∀ c ∈ x.calls, c.length ≤ Rows.uptoBulk y.1) ∧ Row w 1 x.a x.calls.length (x.calls.map strV)) := by
  obtain ⟨xs, n', -, hy, hl, hn, hf⟩ := DataW.trod_struct Try.underlying47 h
  rw [Try.cellsNodeR] at hl
  obtain ⟨c0, c1, rfl⟩ := list2 hl
  obtain ⟨y0, y1, rfl⟩ := list2 hn
  have h0 := hf 0 _ rfl
  have h1 := hf 1 _ rfl
  simp [Try.cells1String, Try.cells1Strs] at h0 h1
  obtain ⟨x, hx, hxl⟩ := string_formB _ _ _ h0
  obtain ⟨a, l, cap, hv, hr, hll, hlm⟩ := open_names h1
  simp only [List.cons.injEq, and_true] at hx
  subst hx
  subst hv
  rw [hy]
  simp only [List.map_cons, List.map_nil, Rows.uptoBulk, Rows.uptoBulkAll]
  exact ⟨⟨x, l, a, cap⟩, rfl, by show x.length ≤ _; omega, by show l.length ≤ _; omega, fun c hc => by have := hlm c hc; omega, hr⟩
theorem total_bulk {n : Nat} {X : Nat → NodeD} {D : Nat → DataW H} (h : ∀ i, i < n → (X i).calls.length ≤ Rows.uptoBulk (D i)) : total ((List.range n).map X) ≤ Rows.uptoBulkAll ((List.range n).map D) := by
  induction n with
  | zero => simp [total, Rows.uptoBulkAll]
  | succ n ih =>
    rw [List.range_succ, List.map_append, List.map_append, total_app, bulk_app]
    have h1 := ih fun i hi => h i (by omega)
    have h2 := h n (Nat.lt_succ_self n)
    simp only [List.map_cons, List.map_nil, total, Rows.uptoBulkAll]; omega
/-- nodes that come in -/
theorem open_nodes {fuel : Nat} {v : Value} {y : DataW H × List MemPlace} (h : DataW.trod enc Try.prog w base spare held fuel 31 [v] = some y) (hb : Rows.uptoBulk y.1 ≤ 1048576) :
    ∃ (a : Option Addr) (l : List NodeD) (cap : Nat), v = .slice a l.length cap ∧ NodesAt w a l ∧ SmallN l := by
  obtain ⟨a, l, cap, X, D, h1, h2, h3, h4, h5⟩ := open_rowB NodeD.cells 2 (by decide) NodeD.len Try.underlying31 Try.cellsNodeR (fun x d => x.name.length ≤ Rows.uptoBulk d ∧ x.calls.length ≤ Rows.uptoBulk d ∧ (∀ c ∈ x.calls, c.length ≤ Rows.uptoBulk d) ∧ Row w 1 x.a x.calls.length (x.calls.map strV)) node_formB h
  have h6 := bulk_len ((List.range l.length).map D)
  rw [List.length_map, List.length_range] at h6
  have hel : ∀ d ∈ l, ∃ i, i < l.length ∧ d = X i := fun d hd => by
    rw [h3] at hd
    obtain ⟨i, hi, rfl⟩ := List.mem_map.1 hd
    exact ⟨i, List.mem_range.1 hi, rfl⟩
  refine ⟨a, l, cap, h1, ⟨h2, fun d hd => ?_⟩, ⟨by unfold M20; omega, ?_, fun d hd => ?_, fun d hd c hc => ?_⟩⟩
  · obtain ⟨i, hi, rfl⟩ := hel d hd
    exact (h4 i hi).2.2.2
  · have := total_bulk (n := l.length) (X := X) (D := D) fun i hi => (h4 i hi).2.1
    rw [← h3] at this
    unfold M20; omega
  · obtain ⟨i, hi, rfl⟩ := hel d hd
    have := (h4 i hi).1
    have := bulk_in (D := D) hi
    unfold M20; omega
  · obtain ⟨i, hi, rfl⟩ := hel d hd
    have := (h4 i hi).2.2.1 c hc
    have := bulk_in (D := D) hi
    unfold M20; omega
end
end Go.Proofs.Ytnepamdmjppglaa
