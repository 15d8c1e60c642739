/- ValueWrites, where what it reads is of bulk at most 1048576: the law answers true, and its arguments read as they did. Conditions: none but what the card ties. -/
import Derived.Test.YtahiopjplfnlmaaGreatDoorOfP
import Derived.ProofKit
import Derived.Deep.Slices
import Derived.Lib.SmallJoins
import Derived.JoinedCond
import Derived.Test.YtahiopjplfnlmaaGreatDoorLawW
import Derived.Test.YtahiopjplfnlmaaGreatDoorLaid
import Derived.Test.YtahiopjplfnlmaaGreatDoorTie
import Derived.Test.YtahiopjplfnlmaaGreatDoorCards
import Derived.SevenTiedAt
import Derived.OpenShut
import Derived.Deep.DeepHandedRow
namespace Go.Proofs.YtahiopjplfnlmaaGreatDoor
open Go Go.RowKit Go.ChangeAt Go.ChangeShapes Go.WideShapes

section
open Go.Deep Go.Joins

/-- every reading counts; a list's counts add up -/
theorem bulk_pos {H : Type} : ∀ d : DataW H, 0 < Rows.uptoBulk d
  | .lit (.string b) => Nat.succ_pos b.length
  | .lit (.int _ _) => Nat.one_pos
  | .lit (.bool _) => Nat.one_pos
  | .lit (.float ..) => Nat.one_pos
  | .lit .nil => Nat.one_pos
  | .nil => by unfold Rows.uptoBulk; exact Nat.one_pos
  | .ptr _ => by unfold Rows.uptoBulk; exact Nat.succ_pos _
  | .slice _ _ => by unfold Rows.uptoBulk; exact Nat.succ_pos _
  | .agg _ => by unfold Rows.uptoBulk; exact Nat.succ_pos _
  | .iface _ _ => by unfold Rows.uptoBulk; exact Nat.succ_pos _
  | .map _ => by unfold Rows.uptoBulk; exact Nat.succ_pos _
  | .held _ => by unfold Rows.uptoBulk; exact Nat.one_pos
theorem bulk_cons {H : Type} (d : DataW H) (l : List (DataW H)) : Rows.uptoBulkAll (d :: l) = Rows.uptoBulk d + Rows.uptoBulkAll l := by rw [Rows.uptoBulkAll]
theorem bulk_app {H : Type} (k : List (DataW H)) : ∀ l, Rows.uptoBulkAll (l ++ k) = Rows.uptoBulkAll l + Rows.uptoBulkAll k
  | [] => by rw [List.nil_append]; simp only [Rows.uptoBulkAll]; omega
  | d :: l => by rw [List.cons_append, bulk_cons, bulk_cons, bulk_app k l, Nat.add_assoc]
theorem bulk_mem {H : Type} {d : DataW H} {l : List (DataW H)} (h : d ∈ l) : Rows.uptoBulk d ≤ Rows.uptoBulkAll l := by
  obtain ⟨p, q, rfl⟩ := List.append_of_mem h
  rw [bulk_app, bulk_cons]; omega
theorem bulk_len {H : Type} : ∀ l : List (DataW H), l.length ≤ Rows.uptoBulkAll l
  | [] => Nat.zero_le _
  | d :: l => by rw [bulk_cons, List.length_cons]; have h1 := bulk_pos d; have h2 := bulk_len l; omega

theorem cells_at {w : World} {base : Nat} {a : Addr} {n : Nat} {cs : List Value} (h : w.cells? base a n = some cs) (hn : 0 < n) : a.spot = none ∧ cs.length = n ∧ ∀ j, j < n → w.cell? ⟨a.block, a.off + j, none⟩ = cs[j]? := by
  obtain ⟨-, hl, hc⟩ := World.cells?_some h
  have hsp : a.spot = none := by
    have h0 := hc 0 hn
    rw [List.getElem?_eq_getElem (by omega)] at h0
    simp only [Addr.add, if_pos] at h0
    unfold World.cell? at h0
    split at h0
    · split at h0
      · simp at h0
      · rename_i hs; simpa using hs
    · simp at h0
  refine ⟨hsp, hl, fun j hj => ?_⟩
  rw [← hc j hj]
  obtain ⟨b, o, s⟩ := a
  simp at hsp
  subst hsp
  simp only [Addr.add]
  split
  · rename_i h0; subst h0; rfl
  · rfl

/-- a slice that is read holds elements, of no more bulk than it -/
theorem open_rowB {α : Type} [Inhabited α] (f : α → List Value) (sz : Nat) (hs : 0 < sz) (he : ∀ x, (f x).length = sz) {H : Type} {enc : TypeId × Value → H} {P : Program} {w : World} {base : Nat} {spare : Nat → Bool} {held : Bool} {t e : TypeId} (ht : P.underlying t = some (.slice e)) (hc : P.cellsOf e = sz)
    (Φ : α → DataW H → Prop) (hel : ∀ n cs y, DataW.trod enc P w base spare held n e cs = some y → ∃ x, cs = f x ∧ Φ x y.1) {fuel : Nat} {v : Value} {y : DataW H × List MemPlace} (h : DataW.trod enc P w base spare held fuel t [v] = some y) :
    ∃ (a : Option Addr) (l : List α) (cap : Nat) (X : Nat → α) (D : Nat → DataW H), v = .slice a l.length cap ∧ Row w sz a l.length (l.flatMap f) ∧ l = (List.range l.length).map X ∧ (∀ i, i < l.length → Φ (X i) (D i)) ∧ Rows.uptoBulkAll ((List.range l.length).map D) + 1 ≤ Rows.uptoBulk y.1 := by
  rcases open_slice ht h with ⟨h1, h2⟩ | ⟨a, len, cap, m, n, D, Pl, h1, hb, hl, hm, hmm, h2, hx⟩
  · simp only [List.cons.injEq, and_true] at h1
    exact ⟨none, [], 0, fun _ => default, fun _ => .nil, h1, Row.nil _ _ _, rfl, by simp, by rw [h2]; simp [Rows.uptoBulkAll, Rows.uptoBulk]⟩
  · simp only [List.cons.injEq, and_true] at h1
    have hlm : len ≤ m := by subst hmm; split <;> omega
    obtain ⟨X, hX⟩ := choose_lt (α := α) (n := len) (p := fun i x => w.cells? base (a.add (i * sz)) sz = some (f x) ∧ Φ x (D i)) (fun i hi => by
      obtain ⟨cs', h3, h4⟩ := hx i (by omega)
      obtain ⟨x, rfl, hΦ⟩ := hel _ _ _ h4
      exact ⟨x, by rw [← hc]; exact h3, hΦ⟩)
    have hlen : ((List.range len).map X).length = len := by simp
    refine ⟨some a, (List.range len).map X, cap, X, D, by rw [hlen]; exact h1, ?_, by rw [hlen], fun i hi => (hX i (by rw [hlen] at hi; exact hi)).2, ?_⟩
    · rw [hlen]
      refine ⟨by rw [flat_length f sz he, hlen], fun h0 => ?_⟩
      have hlp : 0 < len := Nat.pos_of_mul_pos_right h0
      obtain ⟨hsp, -, -⟩ := cells_at (hX 0 hlp).1 hs
      have hsp0 : a.spot = none := by simpa [Addr.add] using hsp
      obtain ⟨b, o, s⟩ := a
      simp at hsp0
      subst hsp0
      refine ⟨b, o, rfl, fun j hj => ?_⟩
      have hi : j / sz < len := Nat.div_lt_of_lt_mul (by rw [Nat.mul_comm]; exact hj)
      have hr : j % sz < sz := Nat.mod_lt _ hs
      obtain ⟨-, -, hcell⟩ := cells_at (hX (j / sz) hi).1 hs
      have e1 := hcell (j % sz) hr
      have ej : j / sz * sz + j % sz = j := Nat.div_add_mod' j sz
      have e2 : (Addr.add ⟨b, o, none⟩ (j / sz * sz)) = ⟨b, o + j / sz * sz, none⟩ := by
        simp only [Addr.add]; split
        · rename_i h1; rw [h1]; rfl
        · rfl
      rw [e2] at e1
      simp only at e1
      rw [show o + j / sz * sz + j % sz = o + j by omega] at e1
      rw [e1]
      have e3 := flat_get f sz he ((List.range len).map X) (j / sz) (j % sz) (X (j / sz)) (by simp [hi]) hr
      rw [ej] at e3
      exact e3.symm
    · rw [hlen, h2]; simp only [Rows.uptoBulk]; omega

theorem flat_one (l : List Nm) : l.flatMap (fun x => [strV x]) = l.map strV := by
  induction l with
  | nil => rfl
  | cons x l ih => rw [List.flatMap_cons, ih]; rfl
theorem Tryz.cells1String : Tryz.prog.cellsOf 9 = 1 := by kernel_rfl
theorem Tryz.cells1Strs : Tryz.prog.cellsOf 24 = 1 := by kernel_rfl
theorem Tryz.cellsDoc : Tryz.prog.cellsOf 26 = 6 := by kernel_rfl
theorem Tryz.cellsSort : Tryz.prog.cellsOf 22 = 1 := by kernel_rfl
theorem Tryz.cellsBool : Tryz.prog.cellsOf 4 = 1 := by kernel_rfl
theorem Tryz.cellsInt1 : Tryz.prog.cellsOf 3 = 1 := by kernel_rfl
theorem Tryz.cellsDocs : Tryz.prog.cellsOf 23 = 1 := by kernel_rfl
theorem list6 {α : Type} {cs : List α} (h : cs.length = 6) : ∃ a b c d e f, cs = [a, b, c, d, e, f] := by
  match cs, h with
  | [a, b, c, d, e, f], _ => exact ⟨a, b, c, d, e, f, rfl⟩
section
variable {H : Type} {enc : TypeId × Value → H} {w : World} {base : Nat} {spare : Nat → Bool} {held : Bool}
theorem bulk_in {n : Nat} {D : Nat → DataW H} {i : Nat} (hi : i < n) : Rows.uptoBulk (D i) ≤ Rows.uptoBulkAll ((List.range n).map D) := bulk_mem (List.mem_map_of_mem (List.mem_range.2 hi))
theorem string_formB (n : Nat) (cs : List Value) (y : DataW H × List MemPlace) (h : DataW.trod enc Tryz.prog w base spare held n 9 cs = some y) : ∃ x : Nm, cs = [strV x] ∧ x.length + 1 ≤ Rows.uptoBulk y.1 := by
  obtain ⟨s, h1, h2, -⟩ := DataW.trod_string Tryz.underlying9 h
  exact ⟨s.data.toList, by rw [h1]; simp [strV], by rw [h2]; simp [Rows.uptoBulk]⟩
theorem keys_bulk {n : Nat} {X : Nat → Nm} {D : Nat → DataW H} (h : ∀ i, i < n → (X i).length + 1 ≤ Rows.uptoBulk (D i)) : keysN ((List.range n).map X) ≤ Rows.uptoBulkAll ((List.range n).map D) := by
  induction n with
  | zero => simp [keysN]
  | succ n ih =>
    rw [List.range_succ, List.map_append, List.map_append, bulk_app]
    have h1 := ih fun i hi => h i (by omega)
    have h2 := h n (Nat.lt_succ_self n)
    unfold keysN at h1 ⊢
    rw [List.map_append, List.sum_append]
    simp only [List.map_cons, List.map_nil, Rows.uptoBulkAll, List.sum_cons, List.sum_nil]; omega
/-- keys that come in -/
theorem open_keys {fuel : Nat} {v : Value} {y : DataW H × List MemPlace} (h : DataW.trod enc Tryz.prog w base spare held fuel 24 [v] = some y) :
    ∃ (a : Option Addr) (l : List Nm) (cap : Nat), v = .slice a l.length cap ∧ Row w 1 a l.length (l.map strV) ∧ keysN l + 1 ≤ Rows.uptoBulk y.1 := by
  obtain ⟨a, l, cap, X, D, h1, h2, h3, h4, h5⟩ := open_rowB (fun x : Nm => [strV x]) 1 (by decide) (fun _ => rfl) Tryz.underlying24 Tryz.cells1String (fun x d => x.length + 1 ≤ Rows.uptoBulk d) string_formB h
  rw [flat_one] at h2
  refine ⟨a, l, cap, h1, h2, ?_⟩
  have h6 := keys_bulk (n := l.length) (X := X) (D := D) h4
  rw [← h3] at h6
  omega
theorem kids_bulk {n : Nat} {X : Nat → VD} {D : Nat → DataW H} (h : ∀ i, i < n → sizeV (X i).v ≤ Rows.uptoBulk (D i)) : sizesV (((List.range n).map X).map VD.v) ≤ Rows.uptoBulkAll ((List.range n).map D) := by
  induction n with
  | zero => simp [sizesV]
  | succ n ih =>
    rw [List.range_succ, List.map_append, List.map_append, List.map_append, sizesV_app, bulk_app]
    have h1 := ih fun i hi => h i (by omega)
    have h2 := h n (Nat.lt_succ_self n)
    simp only [List.map_cons, List.map_nil, sizesV, Rows.uptoBulkAll]; omega
theorem open_kids {fuel : Nat} (hel : ∀ n, n < fuel → ∀ (cs : List Value) (y : DataW H × List MemPlace), DataW.trod enc Tryz.prog w base spare held n 26 cs = some y → ∃ x : VD, cs = x.cells ∧ ValAt w (fun _ => True) x ∧ sizeV x.v ≤ Rows.uptoBulk y.1)
    {v : Value} {y : DataW H × List MemPlace} (h : DataW.trod enc Tryz.prog w base spare held fuel 23 [v] = some y) :
    ∃ (a : Option Addr) (l : List VD) (cap : Nat), v = .slice a l.length cap ∧ Row w 6 a l.length (l.flatMap VD.cells) ∧ (∀ x ∈ l, ValAt w (fun _ => True) x) ∧ sizesV (l.map VD.v) + 1 ≤ Rows.uptoBulk y.1 := by
  rcases DataW.trod_slice Tryz.underlying23 h with ⟨h1, h2⟩ | ⟨a, len, cap, elems, rest, n, hfu, h1, h2, hb, hl, hm, hlen, hx, -, -⟩
  · simp only [List.cons.injEq, and_true] at h1
    exact ⟨none, [], 0, h1, Row.nil _ _ _, by simp, by rw [h2]; simp [sizesV, Rows.uptoBulk]⟩
  · simp only [List.cons.injEq, and_true] at h1
    rw [Tryz.cellsDoc] at hx
    obtain ⟨X, hX⟩ := choose_lt (α := VD) (n := len) (p := fun i x => w.cells? base (a.add (i * 6)) 6 = some x.cells ∧ ValAt w (fun _ => True) x ∧ sizeV x.v ≤ Rows.uptoBulk (elems.getD i (.nil, [])).1) (fun i hi => by
      have h3 := hx i hi
      rw [List.getElem?_eq_getElem (by omega)] at h3
      obtain ⟨cs', h4, h5⟩ := Option.bind_eq_some_iff.1 h3
      obtain ⟨x, rfl, hp, hw⟩ := hel n (by omega) _ _ h5
      exact ⟨x, h4, hp, by rw [List.getD_eq_getElem?_getD, List.getElem?_eq_getElem (by omega)]; exact hw⟩)
    have hln : ((List.range len).map X).length = len := by simp
    refine ⟨some a, (List.range len).map X, cap, by rw [hln]; exact h1, ?_, fun x hx' => ?_, ?_⟩
    · rw [hln]
      refine ⟨by rw [flat_length VD.cells 6 VD.len, hln], fun h0 => ?_⟩
      have hlp : 0 < len := Nat.pos_of_mul_pos_right h0
      obtain ⟨hsp, -, -⟩ := cells_at (hX 0 hlp).1 (by decide)
      have hsp0 : a.spot = none := by simpa [Addr.add] using hsp
      obtain ⟨b, o, s⟩ := a
      simp at hsp0
      subst hsp0
      refine ⟨b, o, rfl, fun j hj => ?_⟩
      have hi : j / 6 < len := Nat.div_lt_of_lt_mul (by rw [Nat.mul_comm]; exact hj)
      have hr : j % 6 < 6 := Nat.mod_lt _ (by decide)
      obtain ⟨-, -, hcell⟩ := cells_at (hX (j / 6) hi).1 (by decide)
      have e1 := hcell (j % 6) hr
      have ej : j / 6 * 6 + j % 6 = j := Nat.div_add_mod' j 6
      have e2 : (Addr.add ⟨b, o, none⟩ (j / 6 * 6)) = ⟨b, o + j / 6 * 6, none⟩ := by
        simp only [Addr.add]; split
        · rename_i h1; rw [h1]; rfl
        · rfl
      rw [e2] at e1
      simp only at e1
      rw [show o + j / 6 * 6 + j % 6 = o + j by omega] at e1
      rw [e1]
      have e3 := flat_get VD.cells 6 VD.len ((List.range len).map X) (j / 6) (j % 6) (X (j / 6)) (by simp [hi]) hr
      rw [ej] at e3
      exact e3.symm
    · obtain ⟨i, hi, rfl⟩ := List.mem_map.1 hx'
      exact (hX i (List.mem_range.1 hi)).2.1
    · have h6 := kids_bulk (n := len) (X := X) (D := fun i => (elems.getD i (.nil, [])).1) fun i hi => (hX i hi).2.2
      have h7 := map_by_index elems (.nil, []) (·.1)
      rw [hlen] at h7
      rw [h2]
      simp only [Rows.uptoBulk]
      rw [h7]
      omega
/-- a value that comes in -/
theorem open_doc : ∀ (fuel : Nat) (cs : List Value) (y : DataW H × List MemPlace), DataW.trod enc Tryz.prog w base spare held fuel 26 cs = some y → ∃ x : VD, cs = x.cells ∧ ValAt w (fun _ => True) x ∧ sizeV x.v ≤ Rows.uptoBulk y.1 := by
  intro fuel
  induction fuel using Nat.strongRecOn with
  | _ fuel ih =>
    intro cs y h
    obtain ⟨xs, n', hfu, hy, hl, hn, hf⟩ := DataW.trod_struct Tryz.underlying26 h
    rw [Tryz.cellsDoc] at hl
    obtain ⟨c0, c1, c2, c3, c4, c5, rfl⟩ := list6 hl
    obtain ⟨y0, y1, y2, y3, y4, y5, rfl⟩ := list6 hn
    have h0 := hf 0 _ rfl
    have h1 := hf 1 _ rfl
    have h2 := hf 2 _ rfl
    have h3 := hf 3 _ rfl
    have h4 := hf 4 _ rfl
    have h5 := hf 5 _ rfl
    simp [Tryz.cells1String, Tryz.cellsInt1, Tryz.cellsSort, Tryz.cellsBool, Tryz.cellsDocs, Tryz.cells1Strs] at h0 h1 h2 h3 h4 h5
    obtain ⟨so, hso, hy0, -⟩ := DataW.trod_int Tryz.underlying22 h0
    obtain ⟨on, hon, hy1, -⟩ := DataW.trod_bool Tryz.underlying4 h1
    obtain ⟨nn, hnn, hy2, -⟩ := DataW.trod_int Tryz.underlying3 h2
    obtain ⟨t, ht, htl⟩ := string_formB _ _ _ h3
    obtain ⟨a, ks, cap, hv, hr, hks, hw⟩ := open_kids (fun n hn => ih n (by omega)) h4
    obtain ⟨ka, keys, kc, hkv, hkr, hkw⟩ := open_keys h5
    simp only [List.cons.injEq, and_true] at hso hon hnn ht
    subst hso hon hnn ht hv hkv
    refine ⟨.mk so on nn t a cap ks ka kc keys, rfl, .mk hr hkr (fun _ _ _ => trivial) (fun _ _ _ => trivial) hks, ?_⟩
    rw [hy, sizeV_eq]
    simp only [List.map_cons, List.map_nil, Rows.uptoBulk, Rows.uptoBulkAll, VD.text, VD.keys, VD.list]
    omega
end
end

theorem Tryz.laidOutV : laidOutB Tryz.prog = true := by kernel_rfl
def zeroDoc : Value := .agg #[.int .i64 0, .bool false, .int .i64 0, .string ⟨#[]⟩, .slice none 0 0, .slice none 0 0]
def zeroRead {H : Type} : DataW H := .agg [.lit (.int .i64 0), .lit (.bool false), .lit (.int .i64 0), .lit (.string []), .nil, .nil]
theorem writes_row {H : Type} (os : Os) (enc : TypeId × Value → H) : (Rows.OpenSpec.upto Rows.valueWritesSpec).preRow enc Tryz.prog Tryz.f3 Rows.valueWritesUptoRow.domain false laidAll ((World.laidAll Tryz.prog os laidAll).forCall (fun _ _ => 0) ⟨#[], #[zeroDoc, zeroDoc, .slice none 0 0], []⟩).memory #[zeroDoc, zeroDoc, .slice none 0 0] := by
  have hx : DataW.whole enc Tryz.prog ((World.laidAll Tryz.prog os laidAll).forCall (fun _ _ => 0) ⟨#[], #[zeroDoc, zeroDoc, .slice none 0 0], []⟩).memory Tryz.f3.params.toList (Rows.OpenSpec.upto Rows.valueWritesSpec).vars false #[zeroDoc, zeroDoc, .slice none 0 0].toList 8 = some ([zeroRead, zeroRead, .nil], [], []) := by kernel_rfl
  exact OpenSpec.preRow_of_cond 8 hx (by kernel_rfl) (fun k hk => by cases hk; rfl) (by kernel_rfl) (by rw [MakeChecks.laidMetH_plain _ _ _ (by kernel_rfl)]; exact laidMet_laidAll _ (by kernel_rfl) (by kernel_rfl))

set_option maxRecDepth 100000 in
set_option maxHeartbeats 2000000 in
theorem writes_lifted (os : Os) (started : os.Started) (H : Type) (enc : TypeId × Value → H) (F : Stop.Interp) :
    ReturnsInHanded {} Tryz.checked os 3 .any ((Rows.OpenSpec.upto Rows.valueWritesSpec).preRow enc Tryz.prog Tryz.f3 Rows.valueWritesUptoRow.domain false laidAll) (((Rows.OpenSpec.upto Rows.valueWritesSpec).at F).post enc Tryz.prog Tryz.f3 false true false false) := by
  refine returnsInHanded_of_row (C := Tryz.checked) (s := Rows.OpenSpec.upto Rows.valueWritesSpec) Tryz.ownL started (by kernel_rfl) Tryz.func3
    ⟨World.laidAll Tryz.prog os laidAll, fun _ _ => 0, ⟨#[], #[zeroDoc, zeroDoc, .slice none 0 0], []⟩, World.laidAll_os _ _ _, World.shaped_of_ZipB (by kernel_rfl) (by kernel_rfl), rfl, (Input.okWide_of_okWideB (by kernel_rfl)).2, writes_row os enc, by
      simp only [Assume.holds]
      exact ⟨by simp, by simp, fun _ => Modest.zero, by simp, by simp⟩⟩ ?_
  intro W base args ds gs before hval0 hW _ hk _ hL _ _
  have hW' := hW
  obtain ⟨p, q, hA0, hV, rfl, hfz, hnd⟩ := hW
  have hA : DataW.TrodAll enc Tryz.prog W 0 (fun _ => true) true Tryz.f3.params.toList args.toList ds p := hA0
  have hval : ∀ (j : Nat) t v, Tryz.f3.params[j]? = some t → args[j]? = some v → Value.okWide Tryz.prog W .any base t v := hval0
  rw [Tryz.params3] at hA hval
  obtain ⟨v0, v1, v2, d0, d1, d2, p0, p1, p2, rfl, rfl, rfl, h0, h1, h2⟩ := trodAll_three hA
  obtain ⟨rfl, rfl⟩ := trodVars_none hV
  have hlt0 : ∀ x ∈ p0, x.block < W.heap.size := fun x hx => hW'.lt x (by simp [hx])
  have hlt1 : ∀ x ∈ p1, x.block < W.heap.size := fun x hx => hW'.lt x (by simp [hx])
  have hlt2 : ∀ x ∈ p2, x.block < W.heap.size := fun x hx => hW'.lt x (by simp [hx])
  have hk' : Rows.uptoBulkAll [d0, d1, d2] ≤ 1048576 := of_decide_eq_true (hk _ rfl)
  rw [bulk_cons, bulk_cons, bulk_cons] at hk'
  obtain ⟨cs0, rfl, -⟩ := okWide_struct Tryz.underlying26 (hval 0 26 v0 rfl rfl)
  obtain ⟨cs1, rfl, -⟩ := okWide_struct Tryz.underlying26 (hval 1 26 v1 rfl rfl)
  obtain ⟨a2, len2, c2, rfl⟩ := okWide_slice Tryz.underlying24 (hval 2 24 v2 rfl rfl)
  obtain ⟨f0, h0'⟩ := h0
  obtain ⟨f2, h2'⟩ := h2
  obtain ⟨f1, h1'⟩ := h1
  obtain ⟨x, hx, hp, hw⟩ := open_doc f0 cs0.toList _ h0'
  obtain ⟨y, hy, hpy, hwy⟩ := open_doc f1 cs1.toList _ h1'
  obtain ⟨an, ks, cn, hv2, hks, hkw⟩ := open_keys (v := .slice a2 len2 c2) h2'
  obtain ⟨rfl, rfl, rfl⟩ := Value.slice.inj hv2
  have hkb : ks.length ≤ 1048576 := by
    have h3 : keysN ks + 1 ≤ Rows.uptoBulk d2 := hkw
    have := keysN_len ks
    omega
  have hxb : sizeV x.v ≤ 1048576 := by
    have : sizeV x.v ≤ Rows.uptoBulk d0 := hw
    omega
  have hyb : sizeV y.v ≤ 1048576 := by
    have : sizeV y.v ≤ Rows.uptoBulk d1 := hwy
    omega
  have hcs : (Value.agg cs0) = x.val := by unfold VD.val; rw [← hx]
  have hcs1 : (Value.agg cs1) = y.val := by unfold VD.val; rw [← hy]
  clear hA0 hval0
  rw [hcs, hcs1]
  refine (lawV_any x y a2 c2 ks W (glob_of hL) hp hpy hks hkb hxb hyb).mono fun e W' hres => ?_
  obtain ⟨rfl, hb⟩ := hres
  have t0 := Below.trod Tryz.laidOutV (by kernel_rfl) (of_decide_eq_true (by kernel_rfl)) ⟨f0, h0'⟩ hb hlt0
  have t1 := Below.trod Tryz.laidOutV (by kernel_rfl) (of_decide_eq_true (by kernel_rfl)) ⟨f1, h1'⟩ hb hlt1
  have t2 := Below.trod Tryz.laidOutV (by kernel_rfl) (of_decide_eq_true (by kernel_rfl)) ⟨f2, h2'⟩ hb hlt2
  rw [hcs] at t0
  rw [hcs1] at t1
  rw [hcs, hcs1] at hW'
  refine ⟨_, rfl, _, _, _, [], p0 ++ (p1 ++ p2), [], hW', ?_, ?_, ?_, hb.frame _, fun h => by cases h⟩
  · exact trodAll_mk1 (shut_bool Tryz.underlying4 true)
  · exact trodAll_mk3 t0 t1 t2
  · rfl

theorem writes_holds : Rows.ValueWritesUptoSaid :=
  OpenClaim.holds_of_cond 3 Tryz.f3 rfl rfl rfl rfl rfl rfl rfl ⟨rfl, rfl, rfl, rfl, rfl⟩ rfl rfl rfl rfl rfl (by kernel_rfl) Tryz.func3 (by kernel_rfl)
    (of_decide_eq_true (by kernel_rfl)) (by unfold Func.isWrapper; first | (rw [if_pos (by decide +kernel)]; kernel_rfl) | (rw [if_neg (by decide +kernel)]; exact ⟨rfl, rfl⟩))
    (fun os started H enc _ F => by rw [OpenClaim.pre_eq_preRow]; exact writes_lifted os started H enc F)

theorem writes_card : Rows.ValueWritesUptoCardSaid :=
  Claim7.holds_tied_plain_at .later [] [.data, .data, .data, .data, .sentinel, .sentinel, .pinned] true (true, "96bf91f028ed53806f989092a336daa6c87036e2a7a70418273ada7e38878583") true writes_holds (fun _ h => by cases h) (by kernel_rfl) (fun _ h => by cases h) valueWritesUpto_row_tie rfl ⟨rfl, rfl⟩ (by kernel_rfl) rfl
    (fun f fn hf hfn => by
      obtain rfl : f = 3 := Option.some.inj ((show Tryz.prog.funcNamed "bolthole/boltholelaw02.ValueWrites" = some 3 by kernel_rfl).symm.trans hf) |>.symm
      obtain rfl : fn = Tryz.f3 := (Option.some.inj (Tryz.func3.symm.trans hfn)).symm
      exact ⟨by kernel_rfl, fun j t ht => by
        rw [Tryz.params3] at ht
        have hm : t ∈ [26, 26, 24] := by simpa using Array.mem_of_getElem? ht
        have hall : ([26, 26, 24].all fun u => !Tryz.prog.wantsStandIn u) = true := by kernel_rfl
        exact (show Tryz.prog.wantsStandIn t = false by simpa using List.all_eq_true.1 hall t hm)⟩)
    (by kernel_rfl)
end Go.Proofs.YtahiopjplfnlmaaGreatDoor
