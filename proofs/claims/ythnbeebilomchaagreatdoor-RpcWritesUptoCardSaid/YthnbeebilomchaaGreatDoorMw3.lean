/- What a value that comes in holds, read off its reading. Messages, plainly: what a call's message is, and what a message is read to. Answers, notices and codes, plainly; and the live message. A call in memory. rpc's smallest functions: walked. The document's smallest functions: walked. The kinds' names: walked. The document's answers: walked. The document's notices: walked. A place as a value, the document's: walked. Whether two values are one, the document's: walked. A part of a Record, the document's: walked. Parts that are a Text, or a Number, the document's: walked. A region whose operations come up in whatever order: one law, by what is held between them. rpc.record: walked. rpc.record: its walk. rpc's answers: walked. rpc's params: a part of a sort, a text, a number; walked. slices.Clone at texts; a place of params: walked. A place of params: walked. A change of params: walked. What params tell: the states between. -/
import Derived.Test.YthnbeebilomchaaGreatDoorMw2
import Derived.ProofKit
import Derived.Deep.Slices
import Derived.Lib.SmallJoins
import Derived.JoinedCond
import Derived.Test.YthnbeebilomchaaGreatDoorMw1
import Derived.Deep.RegionHeld3
import Derived.Deep.RegionHeld
namespace Go.Proofs.YthnbeebilomchaaGreatDoor
open Go Go.RowKit Go.ChangeAt Go.ChangeShapes Go.WideShapes Go.Deep Go.Joins

theorem bulk_cons {H : Type} (d : DataW H) (l : List (DataW H)) : Rows.uptoBulkAll (d :: l) = Rows.uptoBulk d + Rows.uptoBulkAll l := by rw [Rows.uptoBulkAll]
theorem bulk_app {H : Type} (k : List (DataW H)) : ∀ l, Rows.uptoBulkAll (l ++ k) = Rows.uptoBulkAll l + Rows.uptoBulkAll k
  | [] => by rw [List.nil_append]; simp only [Rows.uptoBulkAll]; omega
  | d :: l => by rw [List.cons_append, bulk_cons, bulk_cons, bulk_app k l, Nat.add_assoc]
theorem cells_at {w : World} {base : Nat} {a : Addr} {n : Nat} {cs : List Value} (h : w.cells? base a n = some cs) (hn : 0 < n) : a.spot = none ∧ cs.length = n ∧ ∀ j, j < n → w.cell? ⟨a.block, a.off + j, none⟩ = cs[j]? := by
  obtain ⟨-, hl, hc⟩ := World.cells?_some h
  have hsp : a.spot = none := by
    have h0 := hc 0 hn
    rw [List.getElem?_eq_getElem (by omega)] at h0
    simp only [Addr.add, if_pos] at h0
    unfold World.cell? at h0
    split at h0
    · split at h0
      · simp at h0
      · rename_i hs; simpa using hs
    · simp at h0
  refine ⟨hsp, hl, fun j hj => ?_⟩
  rw [← hc j hj]
  obtain ⟨b, o, s⟩ := a
  simp at hsp
  subst hsp
  simp only [Addr.add]
  split
  · rename_i h0; subst h0; rfl
  · rfl

theorem open_rowB {α : Type} [Inhabited α] (f : α → List Value) (sz : Nat) (hs : 0 < sz) (he : ∀ x, (f x).length = sz) {H : Type} {enc : TypeId × Value → H} {P : Program} {w : World} {base : Nat} {spare : Nat → Bool} {held : Bool} {t e : TypeId} (ht : P.underlying t = some (.slice e)) (hc : P.cellsOf e = sz)
  (Φ : α → DataW H → Prop) (hel : ∀ n cs y, DataW.trod enc P w base spare held n e cs = some y → ∃ x, cs = f x ∧ Φ x y.1) {fuel : Nat} {v : Value} {y : DataW H × List MemPlace} (h : DataW.trod enc P w base spare held fuel t [v] = some y) :
  ∃ (a : Option Addr) (l : List α) (cap : Nat) (X : Nat → α) (D : Nat → DataW H), v = .slice a l.length cap ∧ Row w sz a l.length (l.flatMap f) ∧ l = (List.range l.length).map X ∧ (∀ i, i < l.length → Φ (X i) (D i)) ∧ Rows.uptoBulkAll ((List.range l.length).map D) + 1 ≤ Rows.uptoBulk y.1 := by
 rcases open_slice ht h with ⟨h1, h2⟩ | ⟨a, len, cap, m, n, D, Pl, h1, hb, hl, hm, hmm, h2, hx⟩
 ·
  simp only [List.cons.injEq, and_true] at h1
  exact ⟨none, [], 0, fun _ => default, fun _ => .nil, h1, Row.nil _ _ _, rfl, by simp, by rw [h2]; simp [Rows.uptoBulkAll, Rows.uptoBulk]⟩
 ·
  simp only [List.cons.injEq, and_true] at h1
  have hlm : len ≤ m := by subst hmm; split <;> omega
  obtain ⟨X, hX⟩ := choose_lt (α := α) (n := len) (p := fun i x => w.cells? base (a.add (i * sz)) sz = some (f x) ∧ Φ x (D i)) (fun i hi => by
   obtain ⟨cs', h3, h4⟩ := hx i (by omega)
   obtain ⟨x, rfl, hΦ⟩ := hel _ _ _ h4
   exact ⟨x, by rw [← hc]; exact h3, hΦ⟩)
  have hlen : ((List.range len).map X).length = len := by simp
  refine ⟨some a, (List.range len).map X, cap, X, D, by rw [hlen]; exact h1, ?_, by rw [hlen], fun i hi => (hX i (by rw [hlen] at hi; exact hi)).2, ?_⟩
  ·
   rw [hlen]
   refine ⟨by rw [flat_length f sz he, hlen], fun h0 => ?_⟩
   have hlp : 0 < len := Nat.pos_of_mul_pos_right h0
   obtain ⟨hsp, -, -⟩ := cells_at (hX 0 hlp).1 hs
   have hsp0 : a.spot = none := by simpa [Addr.add] using hsp
   obtain ⟨b, o, s⟩ := a
   simp at hsp0
   subst hsp0
   refine ⟨b, o, rfl, fun j hj => ?_⟩
   have hi : j / sz < len := Nat.div_lt_of_lt_mul (by rw [Nat.mul_comm]; exact hj)
   have hr : j % sz < sz := Nat.mod_lt _ hs
   obtain ⟨-, -, hcell⟩ := cells_at (hX (j / sz) hi).1 hs
   have e1 := hcell (j % sz) hr
   have ej : j / sz * sz + j % sz = j := Nat.div_add_mod' j sz
   have e2 : (Addr.add ⟨b, o, none⟩ (j / sz * sz)) = ⟨b, o + j / sz * sz, none⟩ := by
    simp only [Addr.add]; split
    ·
     rename_i h1; rw [h1]; rfl
    ·
     rfl
   rw [e2] at e1
   simp only at e1
   rw [show o + j / sz * sz + j % sz = o + j by omega] at e1
   rw [e1]
   have e3 := flat_get f sz he ((List.range len).map X) (j / sz) (j % sz) (X (j / sz)) (by simp [hi]) hr
   rw [ej] at e3
   exact e3.symm
  ·
   rw [hlen, h2]; simp only [Rows.uptoBulk]; omega

theorem flat_one (l : List Nm) : l.flatMap (fun x => [strV x]) = l.map strV := by
  induction l with
  | nil => rfl
  | cons x l ih => rw [List.flatMap_cons, ih]; rfl
theorem Tryz.cells1String : Tryz.prog.cellsOf 9 = 1 := by kernel_rfl
theorem Tryz.cells1Strs : Tryz.prog.cellsOf 24 = 1 := by kernel_rfl
theorem Tryz.cellsDoc : Tryz.prog.cellsOf 26 = 6 := by kernel_rfl
theorem Tryz.cellsSort : Tryz.prog.cellsOf 22 = 1 := by kernel_rfl
theorem Tryz.cellsBool : Tryz.prog.cellsOf 4 = 1 := by kernel_rfl
theorem Tryz.cellsInt1 : Tryz.prog.cellsOf 3 = 1 := by kernel_rfl
theorem Tryz.cellsDocs : Tryz.prog.cellsOf 23 = 1 := by kernel_rfl
theorem list6 {α : Type} {cs : List α} (h : cs.length = 6) : ∃ a b c d e f, cs = [a, b, c, d, e, f] := by
  match cs, h with
  | [a, b, c, d, e, f], _ => exact ⟨a, b, c, d, e, f, rfl⟩
section
variable {H : Type} {enc : TypeId × Value → H} {w : World} {base : Nat} {spare : Nat → Bool} {held : Bool}
theorem string_formB (n : Nat) (cs : List Value) (y : DataW H × List MemPlace) (h : DataW.trod enc Tryz.prog w base spare held n 9 cs = some y) : ∃ x : Nm, cs = [strV x] ∧ x.length + 1 ≤ Rows.uptoBulk y.1 := by
  obtain ⟨s, h1, h2, -⟩ := DataW.trod_string Tryz.underlying9 h
  exact ⟨s.data.toList, by rw [h1]; simp [strV], by rw [h2]; simp [Rows.uptoBulk]⟩
theorem keys_bulk {n : Nat} {X : Nat → Nm} {D : Nat → DataW H} (h : ∀ i, i < n → (X i).length + 1 ≤ Rows.uptoBulk (D i)) : keysN ((List.range n).map X) ≤ Rows.uptoBulkAll ((List.range n).map D) := by
  induction n with
  | zero => simp [keysN]
  | succ n ih =>
    rw [List.range_succ, List.map_append, List.map_append, bulk_app]
    have h1 := ih fun i hi => h i (by omega)
    have h2 := h n (Nat.lt_succ_self n)
    unfold keysN at h1 ⊢
    rw [List.map_append, List.sum_append]
    simp only [List.map_cons, List.map_nil, Rows.uptoBulkAll, List.sum_cons, List.sum_nil]; omega
theorem open_keys {fuel : Nat} {v : Value} {y : DataW H × List MemPlace} (h : DataW.trod enc Tryz.prog w base spare held fuel 24 [v] = some y) :
    ∃ (a : Option Addr) (l : List Nm) (cap : Nat), v = .slice a l.length cap ∧ Row w 1 a l.length (l.map strV) ∧ keysN l + 1 ≤ Rows.uptoBulk y.1 := by
  obtain ⟨a, l, cap, X, D, h1, h2, h3, h4, h5⟩ := open_rowB (fun x : Nm => [strV x]) 1 (by decide) (fun _ => rfl) Tryz.underlying24 Tryz.cells1String (fun x d => x.length + 1 ≤ Rows.uptoBulk d) string_formB h
  rw [flat_one] at h2
  refine ⟨a, l, cap, h1, h2, ?_⟩
  have h6 := keys_bulk (n := l.length) (X := X) (D := D) h4
  rw [← h3] at h6
  omega
theorem kids_bulk {n : Nat} {X : Nat → VD} {D : Nat → DataW H} (h : ∀ i, i < n → sizeV (X i).v ≤ Rows.uptoBulk (D i)) : sizesV (((List.range n).map X).map VD.v) ≤ Rows.uptoBulkAll ((List.range n).map D) := by
  induction n with
  | zero => simp [sizesV]
  | succ n ih =>
    rw [List.range_succ, List.map_append, List.map_append, List.map_append, sizesV_app, bulk_app]
    have h1 := ih fun i hi => h i (by omega)
    have h2 := h n (Nat.lt_succ_self n)
    simp only [List.map_cons, List.map_nil, sizesV, Rows.uptoBulkAll]; omega
theorem open_kids {fuel : Nat} (hel : ∀ n, n < fuel → ∀ (cs : List Value) (y : DataW H × List MemPlace), DataW.trod enc Tryz.prog w base spare held n 26 cs = some y → ∃ x : VD, cs = x.cells ∧ ValAt w (fun _ => True) x ∧ sizeV x.v ≤ Rows.uptoBulk y.1)
  {v : Value} {y : DataW H × List MemPlace} (h : DataW.trod enc Tryz.prog w base spare held fuel 23 [v] = some y) :
  ∃ (a : Option Addr) (l : List VD) (cap : Nat), v = .slice a l.length cap ∧ Row w 6 a l.length (l.flatMap VD.cells) ∧ (∀ x ∈ l, ValAt w (fun _ => True) x) ∧ sizesV (l.map VD.v) + 1 ≤ Rows.uptoBulk y.1 := by
 rcases DataW.trod_slice Tryz.underlying23 h with ⟨h1, h2⟩ | ⟨a, len, cap, elems, rest, n, hfu, h1, h2, hb, hl, hm, hlen, hx, -, -⟩
 ·
  simp only [List.cons.injEq, and_true] at h1
  exact ⟨none, [], 0, h1, Row.nil _ _ _, by simp, by rw [h2]; simp [sizesV, Rows.uptoBulk]⟩
 ·
  simp only [List.cons.injEq, and_true] at h1
  rw [Tryz.cellsDoc] at hx
  obtain ⟨X, hX⟩ := choose_lt (α := VD) (n := len) (p := fun i x => w.cells? base (a.add (i * 6)) 6 = some x.cells ∧ ValAt w (fun _ => True) x ∧ sizeV x.v ≤ Rows.uptoBulk (elems.getD i (.nil, [])).1) (fun i hi => by
   have h3 := hx i hi
   rw [List.getElem?_eq_getElem (by omega)] at h3
   obtain ⟨cs', h4, h5⟩ := Option.bind_eq_some_iff.1 h3
   obtain ⟨x, rfl, hp, hw⟩ := hel n (by omega) _ _ h5
   exact ⟨x, h4, hp, by rw [List.getD_eq_getElem?_getD, List.getElem?_eq_getElem (by omega)]; exact hw⟩)
  have hln : ((List.range len).map X).length = len := by simp
  refine ⟨some a, (List.range len).map X, cap, by rw [hln]; exact h1, ?_, fun x hx' => ?_, ?_⟩
  ·
   rw [hln]
   refine ⟨by rw [flat_length VD.cells 6 VD.len, hln], fun h0 => ?_⟩
   have hlp : 0 < len := Nat.pos_of_mul_pos_right h0
   obtain ⟨hsp, -, -⟩ := cells_at (hX 0 hlp).1 (by decide)
   have hsp0 : a.spot = none := by simpa [Addr.add] using hsp
   obtain ⟨b, o, s⟩ := a
   simp at hsp0
   subst hsp0
   refine ⟨b, o, rfl, fun j hj => ?_⟩
   have hi : j / 6 < len := Nat.div_lt_of_lt_mul (by rw [Nat.mul_comm]; exact hj)
   have hr : j % 6 < 6 := Nat.mod_lt _ (by decide)
   obtain ⟨-, -, hcell⟩ := cells_at (hX (j / 6) hi).1 (by decide)
   have e1 := hcell (j % 6) hr
   have ej : j / 6 * 6 + j % 6 = j := Nat.div_add_mod' j 6
   have e2 : (Addr.add ⟨b, o, none⟩ (j / 6 * 6)) = ⟨b, o + j / 6 * 6, none⟩ := by
    simp only [Addr.add]; split
    ·
     rename_i h1; rw [h1]; rfl
    ·
     rfl
   rw [e2] at e1
   simp only at e1
   rw [show o + j / 6 * 6 + j % 6 = o + j by omega] at e1
   rw [e1]
   have e3 := flat_get VD.cells 6 VD.len ((List.range len).map X) (j / 6) (j % 6) (X (j / 6)) (by simp [hi]) hr
   rw [ej] at e3
   exact e3.symm
  ·
   obtain ⟨i, hi, rfl⟩ := List.mem_map.1 hx'
   exact (hX i (List.mem_range.1 hi)).2.1
  ·
   have h6 := kids_bulk (n := len) (X := X) (D := fun i => (elems.getD i (.nil, [])).1) fun i hi => (hX i hi).2.2
   have h7 := map_by_index elems (.nil, []) (·.1)
   rw [hlen] at h7
   rw [h2]
   simp only [Rows.uptoBulk]
   rw [h7]
   omega
theorem open_doc : ∀ (fuel : Nat) (cs : List Value) (y : DataW H × List MemPlace), DataW.trod enc Tryz.prog w base spare held fuel 26 cs = some y → ∃ x : VD, cs = x.cells ∧ ValAt w (fun _ => True) x ∧ sizeV x.v ≤ Rows.uptoBulk y.1 := by
 intro fuel
 induction fuel using Nat.strongRecOn with
 | _ fuel ih =>
  intro cs y h
  obtain ⟨xs, n', hfu, hy, hl, hn, hf⟩ := DataW.trod_struct Tryz.underlying26 h
  rw [Tryz.cellsDoc] at hl
  obtain ⟨c0, c1, c2, c3, c4, c5, rfl⟩ := list6 hl
  obtain ⟨y0, y1, y2, y3, y4, y5, rfl⟩ := list6 hn
  have h0 := hf 0 _ rfl
  have h1 := hf 1 _ rfl
  have h2 := hf 2 _ rfl
  have h3 := hf 3 _ rfl
  have h4 := hf 4 _ rfl
  have h5 := hf 5 _ rfl
  simp [Tryz.cells1String, Tryz.cellsInt1, Tryz.cellsSort, Tryz.cellsBool, Tryz.cellsDocs, Tryz.cells1Strs] at h0 h1 h2 h3 h4 h5
  obtain ⟨so, hso, hy0, -⟩ := DataW.trod_int Tryz.underlying22 h0
  obtain ⟨on, hon, hy1, -⟩ := DataW.trod_bool Tryz.underlying4 h1
  obtain ⟨nn, hnn, hy2, -⟩ := DataW.trod_int Tryz.underlying3 h2
  obtain ⟨t, ht, htl⟩ := string_formB _ _ _ h3
  obtain ⟨a, ks, cap, hv, hr, hks, hw⟩ := open_kids (fun n hn => ih n (by omega)) h4
  obtain ⟨ka, keys, kc, hkv, hkr, hkw⟩ := open_keys h5
  simp only [List.cons.injEq, and_true] at hso hon hnn ht
  subst hso hon hnn ht hv hkv
  refine ⟨.mk so on nn t a cap ks ka kc keys, rfl, .mk hr hkr (fun _ _ _ => trivial) (fun _ _ _ => trivial) hks, ?_⟩
  rw [hy, sizeV_eq]
  simp only [List.map_cons, List.map_nil, Rows.uptoBulk, Rows.uptoBulkAll, VD.text, VD.keys, VD.list]
  omega
end
end Go.Proofs.YthnbeebilomchaaGreatDoor

namespace Go.Proofs.YthnbeebilomchaaGreatDoor
open Go

def kJson : Nm := [106, 115, 111, 110, 114, 112, 99]
def kMethod : Nm := [109, 101, 116, 104, 111, 100]
def kId : Nm := [105, 100]
def kParams : Nm := [112, 97, 114, 97, 109, 115]
def kDoc : Nm := [116, 101, 120, 116, 68, 111, 99, 117, 109, 101, 110, 116]
def kUri : Nm := [117, 114, 105]
def kVersion : Nm := [118, 101, 114, 115, 105, 111, 110]
def kText : Nm := [116, 101, 120, 116]
def kChanges : Nm := [99, 111, 110, 116, 101, 110, 116, 67, 104, 97, 110, 103, 101, 115]
def kPosition : Nm := [112, 111, 115, 105, 116, 105, 111, 110]
def kLine : Nm := [108, 105, 110, 101]
def kChar : Nm := [99, 104, 97, 114, 97, 99, 116, 101, 114]
def kRange : Nm := [114, 97, 110, 103, 101]
def kStart : Nm := [115, 116, 97, 114, 116]
def kEnd : Nm := [101, 110, 100]
def kResult : Nm := [114, 101, 115, 117, 108, 116]
def v20 : Nm := [50, 46, 48]
def methodL : List Nm := [[],
  [105, 110, 105, 116, 105, 97, 108, 105, 122, 101],
  [115, 104, 117, 116, 100, 111, 119, 110],
  [101, 120, 105, 116],
  [116, 101, 120, 116, 68, 111, 99, 117, 109, 101, 110, 116, 47, 100, 105, 100, 79, 112, 101, 110],
  [116, 101, 120, 116, 68, 111, 99, 117, 109, 101, 110, 116, 47, 100, 105, 100, 67, 104, 97, 110, 103, 101],
  [116, 101, 120, 116, 68, 111, 99, 117, 109, 101, 110, 116, 47, 100, 105, 100, 67, 108, 111, 115, 101],
  [116, 101, 120, 116, 68, 111, 99, 117, 109, 101, 110, 116, 47, 104, 111, 118, 101, 114],
  [116, 101, 120, 116, 68, 111, 99, 117, 109, 101, 110, 116, 47, 100, 105, 97, 103, 110, 111, 115, 116, 105, 99],
  [36, 47, 99, 97, 110, 99, 101, 108, 82, 101, 113, 117, 101, 115, 116]]
def methodN (k : Nat) : Nm := methodL.getD k []
def asksN (k : Nat) : Bool := k == 1 || k == 2 || k == 7 || k == 8
structure E where
  fl : Int
  fu : Int
  tl : Int
  tu : Int
  text : Nm
  whole : Bool
structure C where
  kind : Nat
  id : V
  name : Nm
  version : Int
  text : Nm
  changes : List E
  pl : Int
  pu : Int
  other : V
def C.zero : C := ⟨0, .null, [], 0, [], [], 0, 0, .null⟩
def C.of (k : Nat) (x : V) : C := { C.zero with kind := k, id := x }
def gText (v : V) (p : List Nm) : Option Nm := (getV v p).bind fun x => if x.sort = 3 then some x.text else none
def gNum (v : V) (p : List Nm) : Option Int := (getV v p).bind fun x => if x.sort = 2 then some x.n else none
def gList (v : V) (p : List Nm) : Option (List V) := (getV v p).bind fun x => if x.sort = 4 then some x.list else none
def idOk (v : V) : Bool := v.sort == 2 || v.sort == 3
def gPlace (v : V) (p : List Nm) : Option (Int × Int) := (gNum v (p ++ [kLine])).bind fun a => (gNum v (p ++ [kChar])).map fun b => (a, b)
def chL (v : V) : Option E :=
  (gText v [kText]).bind fun t =>
    match getV v [kRange] with
    | none => some ⟨0, 0, 0, 0, t, true⟩
    | some _ => (gPlace v [kRange, kStart]).bind fun a => (gPlace v [kRange, kEnd]).map fun b => ⟨a.1, a.2, b.1, b.2, t, false⟩
def chsL : List V → Option (List E)
  | [] => some []
  | v :: l => (chL v).bind fun e => (chsL l).map fun m => e :: m
def tellL (k : Nat) (x p : V) : Option C :=
  if k ≤ 3 then some (C.of k x)
  else if k = 9 then (match getV p [kId] with | some y => if idOk y then some { C.of k x with other := y } else none | none => none)
  else (gText p [kDoc, kUri]).bind fun name =>
    if k = 4 then (gNum p [kDoc, kVersion]).bind fun n => (gText p [kDoc, kText]).map fun t => { C.of k x with name := name, version := n, text := t }
    else if k = 5 then (gNum p [kDoc, kVersion]).bind fun n => ((gList p [kChanges]).bind chsL).map fun l => { C.of k x with name := name, version := n, changes := l }
    else if k = 7 then (gPlace p [kPosition]).map fun a => { C.of k x with name := name, pl := a.1, pu := a.2 }
    else some { C.of k x with name := name }
def readC (v : V) : Int × C :=
  match gText v [kJson], gText v [kMethod] with
  | some told, some name =>
    if told ≠ v20 ∨ ((getV v [kId]).any fun x => !idOk x) = true ∨ ((getV v [kParams]).any fun p => p.sort != 5 && p.sort != 4) = true then (42, C.zero)
    else
      match indexK name methodL with
      | none => (43, C.of 0 ((getV v [kId]).getD .null))
      | some k =>
        if k = 0 ∨ asksN k ≠ (getV v [kId]).isSome then (43, C.of 0 ((getV v [kId]).getD .null))
        else match tellL k ((getV v [kId]).getD .null) ((getV v [kParams]).getD .null) with
          | none => (44, C.of k ((getV v [kId]).getD .null))
          | some c => (0, c)
  | _, _ => (42, C.zero)
/-! ### what is written -/
def strW (s : Nm) : V := .mk 3 false 0 s [] []
def numW (n : Int) : V := .mk 2 false n [] [] []
def recW (l : List (Nm × V)) : V := .mk 5 false 0 [] (l.map (·.2)) (l.map (·.1))
def listW (l : List V) : V := .mk 4 false 0 [] l []
def atW (a b : Int) : V := recW [(kLine, numW a), (kChar, numW b)]
def editW (e : E) : V := recW ((kText, strW e.text) :: if e.whole then [] else [(kRange, recW [(kStart, atW e.fl e.fu), (kEnd, atW e.tl e.tu)])])
def paramsW (c : C) : V :=
  if c.kind = 9 then recW [(kId, c.other)]
  else recW ((kDoc, recW ((kUri, strW c.name) :: if c.kind = 4 then [(kVersion, numW c.version), (kText, strW c.text)] else if c.kind = 5 then [(kVersion, numW c.version)] else [])) ::
    if c.kind = 5 then [(kChanges, listW (c.changes.map editW))] else if c.kind = 7 then [(kPosition, atW c.pl c.pu)] else [])
def msgW (c : C) : V := recW ((kJson, strW v20) :: ((if c.id.sort = 0 then [] else [(kId, c.id)]) ++ (kMethod, strW (methodN c.kind)) :: if 3 < c.kind then [(kParams, paramsW c)] else []))

theorem getV_nil (v : V) : getV v [] = some v := by rw [getV]
theorem index_method : ∀ k : Fin 10, k.val ≠ 0 → indexK (methodN k.val) methodL = some k.val := by decide
theorem get_lt9 {x : Nm} {k : Nat} (h : indexK x methodL = some k) : k < 10 := by
  have := (List.getElem?_eq_some_iff.1 (indexK_some h).1).1
  exact this
theorem tell_kind {k : Nat} {x p : V} {c : C} (h : tellL k x p = some c) : c.kind = k ∧ c.id = x := by
 unfold tellL at h
 split at h
 ·
  simp only [Option.some.injEq] at h; rw [← h]; exact ⟨rfl, rfl⟩
 split at h
 ·
  split at h
  ·
   split at h
   ·
    simp only [Option.some.injEq] at h; rw [← h]; exact ⟨rfl, rfl⟩
   ·
    cases h
  ·
   cases h
 cases hn : gText p [kDoc, kUri] with
 | none => rw [hn] at h; cases h
 | some name =>
  rw [hn, Option.bind_some] at h
  split at h
  ·
   cases ha : gNum p [kDoc, kVersion] with
   | none => rw [ha] at h; cases h
   | some a =>
    rw [ha, Option.bind_some] at h
    cases hb : gText p [kDoc, kText] with
    | none => rw [hb] at h; cases h
    | some b => rw [hb] at h; simp only [Option.map_some, Option.some.injEq] at h; rw [← h]; exact ⟨rfl, rfl⟩
  split at h
  ·
   cases ha : gNum p [kDoc, kVersion] with
   | none => rw [ha] at h; cases h
   | some a =>
    rw [ha, Option.bind_some] at h
    cases hb : (gList p [kChanges]).bind chsL with
    | none => rw [hb] at h; cases h
    | some b => rw [hb] at h; simp only [Option.map_some, Option.some.injEq] at h; rw [← h]; exact ⟨rfl, rfl⟩
  split at h
  ·
   cases ha : gPlace p [kPosition] with
   | none => rw [ha] at h; cases h
   | some a => rw [ha] at h; simp only [Option.map_some, Option.some.injEq] at h; rw [← h]; exact ⟨rfl, rfl⟩
  ·
   simp only [Option.some.injEq] at h; rw [← h]; exact ⟨rfl, rfl⟩
end Go.Proofs.YthnbeebilomchaaGreatDoor

namespace Go.Proofs.YthnbeebilomchaaGreatDoor
open Go

def codeN (e : Int) : Int :=
  if e = 41 then -32700 else if e = 42 ∨ e = 232 then -32600 else if e = 43 then -32601 else if e = 44 then -32602 else if e = 231 then -32002 else if e = 233 then -32800 else if e = 71 then -32801 else -32001
def codeNm (n : Int) : Nm :=
  if n = -32700 then [80, 97, 114, 115, 101, 69, 114, 114, 111, 114] else if n = -32600 then [73, 110, 118, 97, 108, 105, 100, 82, 101, 113, 117, 101, 115, 116] else if n = -32601 then [77, 101, 116, 104, 111, 100, 78, 111, 116, 70, 111, 117, 110, 100] else if n = -32602 then [73, 110, 118, 97, 108, 105, 100, 80, 97, 114, 97, 109, 115] else if n = -32002 then [83, 101, 114, 118, 101, 114, 78, 111, 116, 73, 110, 105, 116, 105, 97, 108, 105, 122, 101, 100] else if n = -32800 then [82, 101, 113, 117, 101, 115, 116, 67, 97, 110, 99, 101, 108, 108, 101, 100] else if n = -32801 then [67, 111, 110, 116, 101, 110, 116, 77, 111, 100, 105, 102, 105, 101, 100] else [76, 105, 109, 105, 116, 69, 120, 99, 101, 101, 100, 101, 100]
def replyW (i r : V) : V := recW [(kJson, strW v20), (kId, i), (kResult, r)]
def c4 : C := { C.of 7 (numW 7) with name := [97], pl := 3, pu := 4 }
end Go.Proofs.YthnbeebilomchaaGreatDoor

namespace Go.Proofs.YthnbeebilomchaaGreatDoor
open Go Go.RowKit

instance : Inhabited E := ⟨⟨0, 0, 0, 0, [], false⟩⟩
def E.cells (e : E) : List Value := [.int .i64 e.fl, .int .i64 e.fu, .int .i64 e.tl, .int .i64 e.tu, strV e.text, .bool e.whole]
theorem E.len (e : E) : e.cells.length = 6 := rfl
structure CD where
  kind : Int
  id : VD
  name : Nm
  version : Int
  text : Nm
  a : Option Addr
  c : Nat
  changes : List E
  pl : Int
  pu : Int
  other : VD
def CD.cells (d : CD) : List Value :=
  .int .i64 d.kind :: (d.id.cells ++ [strV d.name, .int .i64 d.version, strV d.text, .slice d.a d.changes.length d.c, .int .i64 d.pl, .int .i64 d.pu] ++ d.other.cells)
theorem CD.len (d : CD) : d.cells.length = 19 := by
  unfold CD.cells; simp [VD.len]
def CD.val (d : CD) : Value := .agg d.cells.toArray
def CD.k (d : CD) : C := ⟨d.kind.toNat, d.id.v, d.name, d.version, d.text, d.changes, d.pl, d.pu, d.other.v⟩
structure CallAt (w : World) (d : CD) : Prop where
  id : ValAt w (fun _ => True) d.id
  other : ValAt w (fun _ => True) d.other
  row : Row w 6 d.a d.changes.length (d.changes.flatMap E.cells)
theorem CallAt.ext {w w' : World} {d : CD} (h : CallAt w d) (hb : Below w.heap.size w w') : CallAt w' d := ⟨h.id.ext hb, h.other.ext hb, h.row.ext hb⟩
end Go.Proofs.YthnbeebilomchaaGreatDoor

namespace Go.Proofs.YthnbeebilomchaaGreatDoor
open Go Go.RowKit

def StrE (w : World) (s : Nm) (e : Ending) (w' : World) : Prop := e = .returned (.agg #[.int .i64 3, .bool false, .int .i64 0, .string ⟨s.toArray⟩, .slice none 0 0, .slice none 0 0]) ∧ Below w.heap.size w w'
def NumE (w : World) (n : Int) (e : Ending) (w' : World) : Prop := e = .returned (.agg #[.int .i64 2, .bool false, .int .i64 n, .string { data := #[] }, .slice none 0 0, .slice none 0 0]) ∧ Below w.heap.size w w'
def Bo (w : World) (b : Bool) (e : Ending) (w' : World) : Prop := e = .returned (.bool b) ∧ Below w.heap.size w w'
theorem str_end {W : World} {tm : Array Value} {R : Ending → World → Prop} {g : Nat} {u0 u1 u2 u3 u4 u5 : Value} (h2 : tm.getD 2 undef = .pointer (some ⟨g, 0, none⟩)) (hB : Blk W g #[u0, u1, u2, u3, u4, u5] 36)
    (hR : R (.returned (.agg #[u0, u1, u2, u3, u4, u5])) W) : bodyPost Tryz.prog Tryz.f29 R .ret { tmps := tm, defers := [] } W := by
  have d0 := hB.cell 0
  have d1 := hB.cell 1
  have d2 := hB.cell 2
  have d3 := hB.cell 3
  have d4 := hB.cell 4
  have d5 := hB.cell 5
  simp only [List.getElem?_toArray, List.getElem?_cons_zero, List.getElem?_cons_succ] at d0 d1 d2 d3 d4 d5
  rw [Array.getD_eq_getD_getElem?] at h2
  refine bodyPost_ret (v := .agg #[u0, u1, u2, u3, u4, u5]) ?_ rfl hR
  simp [results, Tryz.results29, go_sem, h2, d0, d1, d2, d3, d4, d5]
theorem str_any (s : Nm) (w : World) : Calls Tryz.prog 29 #[.string ⟨s.toArray⟩] w (StrE w s) := by
  generalize hz : (⟨s.toArray⟩ : ByteArray) = z
  have HZ := Lib.hid hz
  clear hz
  go_enter Tryz.func29, Tryz.ntmps29
  go_wp2
  refine str_end (g := w.heap.size) rfl (Blk.new rfl) ?_
  exact ⟨by rw [HZ.out], below_a1 _ _⟩
theorem num_end {W : World} {tm : Array Value} {R : Ending → World → Prop} {g : Nat} {u0 u1 u2 u3 u4 u5 : Value} (h2 : tm.getD 2 undef = .pointer (some ⟨g, 0, none⟩)) (hB : Blk W g #[u0, u1, u2, u3, u4, u5] 36)
    (hR : R (.returned (.agg #[u0, u1, u2, u3, u4, u5])) W) : bodyPost Tryz.prog Tryz.f38 R .ret { tmps := tm, defers := [] } W := by
  have d0 := hB.cell 0
  have d1 := hB.cell 1
  have d2 := hB.cell 2
  have d3 := hB.cell 3
  have d4 := hB.cell 4
  have d5 := hB.cell 5
  simp only [List.getElem?_toArray, List.getElem?_cons_zero, List.getElem?_cons_succ] at d0 d1 d2 d3 d4 d5
  rw [Array.getD_eq_getD_getElem?] at h2
  refine bodyPost_ret (v := .agg #[u0, u1, u2, u3, u4, u5]) ?_ rfl hR
  simp [results, Tryz.results38, go_sem, h2, d0, d1, d2, d3, d4, d5]
theorem num_any (n : Int) (w : World) : Calls Tryz.prog 38 #[.int .i64 n] w (NumE w n) := by
  go_enter Tryz.func38, Tryz.ntmps38
  go_wp2
  refine num_end (g := w.heap.size) rfl (Blk.new rfl) ?_
  exact ⟨rfl, below_a1 _ _⟩
def CodeE (w : World) (e : Int) (r : Ending) (w' : World) : Prop := r = .returned (.agg #[.int .i64 (codeN e), .string ⟨(codeNm (codeN e)).toArray⟩]) ∧ Below w.heap.size w w'
theorem codes_end {W : World} {tm : Array Value} {R : Ending → World → Prop} {g : Nat} {u0 u1 : Value} (h2 : tm.getD 2 undef = .pointer (some ⟨g, 0, none⟩)) (hB : Blk W g #[u0, u1] 88)
    (hR : R (.returned (.agg #[u0, u1])) W) : bodyPost Tryz.prog Tryz.f37 R .ret { tmps := tm, defers := [] } W := by
  have d0 := hB.cell 0
  have d1 := hB.cell 1
  simp only [List.getElem?_toArray, List.getElem?_cons_zero, List.getElem?_cons_succ] at d0 d1
  rw [Array.getD_eq_getD_getElem?] at h2
  refine bodyPost_ret (v := .agg #[u0, u1]) ?_ rfl hR
  simp [results, Tryz.results37, go_sem, h2, d0, d1]
set_option maxHeartbeats 2000000 in
set_option maxRecDepth 4000 in
theorem codes_any (e : Int) (w : World) : Calls Tryz.prog 37 #[.int .i64 e] w (CodeE w e) := by
 obtain ⟨n, hn⟩ : ∃ n, n = codeN e := ⟨_, rfl⟩
 obtain ⟨z, hz⟩ : ∃ z : ByteArray, z = ⟨(codeNm n).toArray⟩ := ⟨_, rfl⟩
 have hP : CodeE w e = fun r w' => r = .returned (.agg #[.int .i64 n, .string z]) ∧ Below w.heap.size w w' := by unfold CodeE; rw [hz, hn]
 rw [hP]
 clear hP
 by_cases e41 : e = 41
 ·
  have HN : Hid (n = codeN 41) := Lib.hid (by rw [hn, e41])
  have HZ : Hid (z = ⟨(codeNm (codeN 41)).toArray⟩) := Lib.hid (by rw [hz, HN.out])
  subst e41
  clear hn hz
  go_enter Tryz.func37, Tryz.ntmps37
  go_wp2
  refine codes_end (g := w.heap.size) rfl (Blk.new rfl) ?_
  exact ⟨by rw [HN.out, HZ.out]; rfl, below_a1 _ _⟩
 have f41 : (e == 41) = false := by simpa using e41
 by_cases e42 : e = 42
 ·
  have HN : Hid (n = codeN 42) := Lib.hid (by rw [hn, e42])
  have HZ : Hid (z = ⟨(codeNm (codeN 42)).toArray⟩) := Lib.hid (by rw [hz, HN.out])
  subst e42
  clear hn hz
  go_enter Tryz.func37, Tryz.ntmps37
  go_wp2
  refine codes_end (g := w.heap.size) rfl (Blk.new rfl) ?_
  exact ⟨by rw [HN.out, HZ.out]; rfl, below_a1 _ _⟩
 have f42 : (e == 42) = false := by simpa using e42
 by_cases e232 : e = 232
 ·
  have HN : Hid (n = codeN 232) := Lib.hid (by rw [hn, e232])
  have HZ : Hid (z = ⟨(codeNm (codeN 232)).toArray⟩) := Lib.hid (by rw [hz, HN.out])
  subst e232
  clear hn hz
  go_enter Tryz.func37, Tryz.ntmps37
  go_wp2
  refine codes_end (g := w.heap.size) rfl (Blk.new rfl) ?_
  exact ⟨by rw [HN.out, HZ.out]; rfl, below_a1 _ _⟩
 have f232 : (e == 232) = false := by simpa using e232
 by_cases e43 : e = 43
 ·
  have HN : Hid (n = codeN 43) := Lib.hid (by rw [hn, e43])
  have HZ : Hid (z = ⟨(codeNm (codeN 43)).toArray⟩) := Lib.hid (by rw [hz, HN.out])
  subst e43
  clear hn hz
  go_enter Tryz.func37, Tryz.ntmps37
  go_wp2
  refine codes_end (g := w.heap.size) rfl (Blk.new rfl) ?_
  exact ⟨by rw [HN.out, HZ.out]; rfl, below_a1 _ _⟩
 have f43 : (e == 43) = false := by simpa using e43
 by_cases e44 : e = 44
 ·
  have HN : Hid (n = codeN 44) := Lib.hid (by rw [hn, e44])
  have HZ : Hid (z = ⟨(codeNm (codeN 44)).toArray⟩) := Lib.hid (by rw [hz, HN.out])
  subst e44
  clear hn hz
  go_enter Tryz.func37, Tryz.ntmps37
  go_wp2
  refine codes_end (g := w.heap.size) rfl (Blk.new rfl) ?_
  exact ⟨by rw [HN.out, HZ.out]; rfl, below_a1 _ _⟩
 have f44 : (e == 44) = false := by simpa using e44
 by_cases e231 : e = 231
 ·
  have HN : Hid (n = codeN 231) := Lib.hid (by rw [hn, e231])
  have HZ : Hid (z = ⟨(codeNm (codeN 231)).toArray⟩) := Lib.hid (by rw [hz, HN.out])
  subst e231
  clear hn hz
  go_enter Tryz.func37, Tryz.ntmps37
  go_wp2
  refine codes_end (g := w.heap.size) rfl (Blk.new rfl) ?_
  exact ⟨by rw [HN.out, HZ.out]; rfl, below_a1 _ _⟩
 have f231 : (e == 231) = false := by simpa using e231
 by_cases e233 : e = 233
 ·
  have HN : Hid (n = codeN 233) := Lib.hid (by rw [hn, e233])
  have HZ : Hid (z = ⟨(codeNm (codeN 233)).toArray⟩) := Lib.hid (by rw [hz, HN.out])
  subst e233
  clear hn hz
  go_enter Tryz.func37, Tryz.ntmps37
  go_wp2
  refine codes_end (g := w.heap.size) rfl (Blk.new rfl) ?_
  exact ⟨by rw [HN.out, HZ.out]; rfl, below_a1 _ _⟩
 have f233 : (e == 233) = false := by simpa using e233
 by_cases e71 : e = 71
 ·
  have HN : Hid (n = codeN 71) := Lib.hid (by rw [hn, e71])
  have HZ : Hid (z = ⟨(codeNm (codeN 71)).toArray⟩) := Lib.hid (by rw [hz, HN.out])
  subst e71
  clear hn hz
  go_enter Tryz.func37, Tryz.ntmps37
  go_wp2
  refine codes_end (g := w.heap.size) rfl (Blk.new rfl) ?_
  exact ⟨by rw [HN.out, HZ.out]; rfl, below_a1 _ _⟩
 have f71 : (e == 71) = false := by simpa using e71
 have HN : Hid (n = -32001) := Lib.hid (by rw [hn]; unfold codeN; simp [e41, e42, e232, e43, e44, e231, e233, e71])
 have HZ : Hid (z = ⟨(codeNm (-32001)).toArray⟩) := Lib.hid (by rw [hz, HN.out])
 clear hn hz e41 e42 e232 e43 e44 e231 e233 e71
 go_enter Tryz.func37, Tryz.ntmps37
 go_wp2
 refine codes_end (g := w.heap.size) rfl (Blk.new rfl) ?_
 exact ⟨by rw [HN.out, HZ.out]; rfl, below_a1 _ _⟩
theorem field_code (n : Int) (z : ByteArray) (w : World) : Sem.run Tryz.prog (Instr.field 88 (.agg #[.int .i64 n, .string z]) 0) w = .ok (.int .i64 n) w := by kernel_rfl
theorem code_any (e : Int) (w : World) : Calls Tryz.prog 22 #[.int .i64 e] w (fun r w' => r = .returned (.int .i64 (codeN e)) ∧ Below w.heap.size w w') := by
  have h1 : Calls Tryz.prog 37 #[.int .i64 e] w (fun r w' => ∃ z : ByteArray, r = .returned (.agg #[.int .i64 (codeN e), .string z]) ∧ Below w.heap.size w w') := (codes_any e w).mono fun r w' h => ⟨_, h⟩
  have H1 := Lib.hid h1
  clear h1
  generalize codeN e = n at *
  go_enter Tryz.func22, Tryz.ntmps22
  go_wp2_with fail
  refine H1.out.mono ?_
  clear H1
  rintro r w1 ⟨z, rfl, hb⟩
  have HB := Lib.hid hb
  have hf := field_code n z w1
  clear hb
  go_wp2
  go_ret
  exact ⟨rfl, HB.out⟩
theorem id_any (d : VD) (w : World) : Calls Tryz.prog 45 #[d.val] w (Bo w (idOk d.v)) := by
 obtain ⟨s, o, n, t, a, c, l, ka, kc, ks⟩ := d
 have hi : idOk (VD.mk s o n t a c l ka kc ks).v = (s == 2 || s == 3) := rfl
 rw [hi]
 have HB := Lib.hid (below_a1 w (.cells #[.int .i64 s, .bool o, .int .i64 n, .string ⟨t.toArray⟩, .slice a l.length c, .slice ka ks.length kc] 36))
 simp only [VD.val, VD.cells, strV]
 obtain ⟨b, hb⟩ : ∃ b, b = (s == 2 || s == 3) := ⟨_, rfl⟩
 rw [← hb]
 by_cases h2 : s = 2
 ·
  have HR : Hid (b = true) := Lib.hid (by rw [hb, h2]; rfl)
  subst h2
  clear hb
  go_enter Tryz.func45, Tryz.ntmps45
  go_wp2
  go_ret
  exact ⟨by first | (rw [HR.out]; done) | (rw [HR.out]; rfl), HB.out⟩
 have f2 : (s == 2) = false := by simpa using h2
 have HR : Hid (b = (s == 3)) := Lib.hid (by rw [hb, f2]; rfl)
 clear hb h2
 go_enter Tryz.func45, Tryz.ntmps45
 go_wp2
 go_ret
 exact ⟨by first | (rw [HR.out]; done) | (rw [HR.out]; rfl), HB.out⟩
theorem request_any (k : Int) (w : World) : Calls Tryz.prog 47 #[.int .i64 k] w (Bo w (k == 1 || k == 2 || k == 7 || k == 8)) := by
 obtain ⟨b, hb⟩ : ∃ b, b = (k == 1 || k == 2 || k == 7 || k == 8) := ⟨_, rfl⟩
 rw [← hb]
 by_cases e1 : k = 1
 ·
  have HR : Hid (b = true) := Lib.hid (by rw [hb, e1]; rfl)
  subst e1
  clear hb
  go_enter Tryz.func47, Tryz.ntmps47
  go_wp2
  go_ret
  exact ⟨by first | (rw [HR.out]; done) | (rw [HR.out]; rfl), Below.refl _ _⟩
 have f1 : (k == 1) = false := by simpa using e1
 by_cases e2 : k = 2
 ·
  have HR : Hid (b = true) := Lib.hid (by rw [hb, e2]; rfl)
  subst e2
  clear hb
  go_enter Tryz.func47, Tryz.ntmps47
  go_wp2
  go_ret
  exact ⟨by first | (rw [HR.out]; done) | (rw [HR.out]; rfl), Below.refl _ _⟩
 have f2 : (k == 2) = false := by simpa using e2
 by_cases e7 : k = 7
 ·
  have HR : Hid (b = true) := Lib.hid (by rw [hb, e7]; rfl)
  subst e7
  clear hb
  go_enter Tryz.func47, Tryz.ntmps47
  go_wp2
  go_ret
  exact ⟨by first | (rw [HR.out]; done) | (rw [HR.out]; rfl), Below.refl _ _⟩
 have f7 : (k == 7) = false := by simpa using e7
 have HR : Hid (b = (k == 8)) := Lib.hid (by rw [hb, f1, f2, f7]; rfl)
 clear hb e1 e2 e7
 go_enter Tryz.func47, Tryz.ntmps47
 go_wp2
 go_ret
 exact ⟨by first | (rw [HR.out]; done) | (rw [HR.out]; rfl), Below.refl _ _⟩
end Go.Proofs.YthnbeebilomchaaGreatDoor

namespace Go.Proofs.YthnbeebilomchaaGreatDoor
open Go Go.RowKit

theorem strR_end {W : World} {tm : Array Value} {R : Ending → World → Prop} {g : Nat} {u0 u1 u2 u3 u4 u5 : Value} (h2 : tm.getD 2 undef = .pointer (some ⟨g, 0, none⟩)) (hB : Blk W g #[u0, u1, u2, u3, u4, u5] 26)
    (hR : R (.returned (.agg #[u0, u1, u2, u3, u4, u5])) W) : bodyPost Tryz.prog Tryz.f40 R .ret { tmps := tm, defers := [] } W := by
  have d0 := hB.cell 0
  have d1 := hB.cell 1
  have d2 := hB.cell 2
  have d3 := hB.cell 3
  have d4 := hB.cell 4
  have d5 := hB.cell 5
  simp only [List.getElem?_toArray, List.getElem?_cons_zero, List.getElem?_cons_succ] at d0 d1 d2 d3 d4 d5
  rw [Array.getD_eq_getD_getElem?] at h2
  refine bodyPost_ret (v := .agg #[u0, u1, u2, u3, u4, u5]) ?_ rfl hR
  simp [results, Tryz.results40, go_sem, h2, d0, d1, d2, d3, d4, d5]
theorem strR_any (s : Nm) (w : World) : Calls Tryz.prog 40 #[.string ⟨s.toArray⟩] w (StrE w s) := by
  generalize hz : (⟨s.toArray⟩ : ByteArray) = z
  have HZ := Lib.hid hz
  clear hz
  go_enter Tryz.func40, Tryz.ntmps40
  go_wp2
  refine strR_end (g := w.heap.size) rfl (Blk.new rfl) ?_
  exact ⟨by rw [HZ.out], below_a1 _ _⟩
theorem numR_end {W : World} {tm : Array Value} {R : Ending → World → Prop} {g : Nat} {u0 u1 u2 u3 u4 u5 : Value} (h2 : tm.getD 2 undef = .pointer (some ⟨g, 0, none⟩)) (hB : Blk W g #[u0, u1, u2, u3, u4, u5] 26)
    (hR : R (.returned (.agg #[u0, u1, u2, u3, u4, u5])) W) : bodyPost Tryz.prog Tryz.f41 R .ret { tmps := tm, defers := [] } W := by
  have d0 := hB.cell 0
  have d1 := hB.cell 1
  have d2 := hB.cell 2
  have d3 := hB.cell 3
  have d4 := hB.cell 4
  have d5 := hB.cell 5
  simp only [List.getElem?_toArray, List.getElem?_cons_zero, List.getElem?_cons_succ] at d0 d1 d2 d3 d4 d5
  rw [Array.getD_eq_getD_getElem?] at h2
  refine bodyPost_ret (v := .agg #[u0, u1, u2, u3, u4, u5]) ?_ rfl hR
  simp [results, Tryz.results41, go_sem, h2, d0, d1, d2, d3, d4, d5]
theorem numR_any (n : Int) (w : World) : Calls Tryz.prog 41 #[.int .i64 n] w (NumE w n) := by
  go_enter Tryz.func41, Tryz.ntmps41
  go_wp2
  refine numR_end (g := w.heap.size) rfl (Blk.new rfl) ?_
  exact ⟨rfl, below_a1 _ _⟩
theorem recR_end {W : World} {tm : Array Value} {R : Ending → World → Prop} {g : Nat} {u0 u1 u2 u3 u4 u5 : Value} (h2 : tm.getD 4 undef = .pointer (some ⟨g, 0, none⟩)) (hB : Blk W g #[u0, u1, u2, u3, u4, u5] 26)
    (hR : R (.returned (.agg #[u0, u1, u2, u3, u4, u5])) W) : bodyPost Tryz.prog Tryz.f39 R .ret { tmps := tm, defers := [] } W := by
  have d0 := hB.cell 0
  have d1 := hB.cell 1
  have d2 := hB.cell 2
  have d3 := hB.cell 3
  have d4 := hB.cell 4
  have d5 := hB.cell 5
  simp only [List.getElem?_toArray, List.getElem?_cons_zero, List.getElem?_cons_succ] at d0 d1 d2 d3 d4 d5
  rw [Array.getD_eq_getD_getElem?] at h2
  refine bodyPost_ret (v := .agg #[u0, u1, u2, u3, u4, u5]) ?_ rfl hR
  simp [results, Tryz.results39, go_sem, h2, d0, d1, d2, d3, d4, d5]
theorem recR_any (ka a : Option Addr) (nk kc n c : Nat) (w : World) : Calls Tryz.prog 39 #[.slice ka nk kc, .slice a n c] w (fun e w' => e = .returned (.agg #[.int .i64 5, .bool false, .int .i64 0, .string { data := #[] }, .slice a n c, .slice ka nk kc]) ∧ Below w.heap.size w w') := by
  go_enter Tryz.func39, Tryz.ntmps39
  go_wp2
  refine recR_end (g := w.heap.size) rfl (Blk.new rfl) ?_
  exact ⟨rfl, below_a1 _ _⟩
theorem idR_any (d : VD) (w : World) : Calls Tryz.prog 61 #[d.val] w (Bo w (idOk d.v)) := by
 obtain ⟨s, o, n, t, a, c, l, ka, kc, ks⟩ := d
 have hi : idOk (VD.mk s o n t a c l ka kc ks).v = (s == 2 || s == 3) := rfl
 rw [hi]
 have HB := Lib.hid (below_a1 w (.cells #[.int .i64 s, .bool o, .int .i64 n, .string ⟨t.toArray⟩, .slice a l.length c, .slice ka ks.length kc] 26))
 simp only [VD.val, VD.cells, strV]
 obtain ⟨b, hb⟩ : ∃ b, b = (s == 2 || s == 3) := ⟨_, rfl⟩
 rw [← hb]
 by_cases h2 : s = 2
 ·
  have HR : Hid (b = true) := Lib.hid (by rw [hb, h2]; rfl)
  subst h2
  clear hb
  go_enter Tryz.func61, Tryz.ntmps61
  go_wp2
  go_ret
  exact ⟨by first | (rw [HR.out]; done) | (rw [HR.out]; rfl), HB.out⟩
 have f2 : (s == 2) = false := by simpa using h2
 have HR : Hid (b = (s == 3)) := Lib.hid (by rw [hb, f2]; rfl)
 clear hb h2
 go_enter Tryz.func61, Tryz.ntmps61
 go_wp2
 go_ret
 exact ⟨by first | (rw [HR.out]; done) | (rw [HR.out]; rfl), HB.out⟩
theorem requestR_any (k : Int) (w : World) : Calls Tryz.prog 62 #[.int .i64 k] w (Bo w (k == 1 || k == 2 || k == 7 || k == 8)) := by
 obtain ⟨b, hb⟩ : ∃ b, b = (k == 1 || k == 2 || k == 7 || k == 8) := ⟨_, rfl⟩
 rw [← hb]
 by_cases e1 : k = 1
 ·
  have HR : Hid (b = true) := Lib.hid (by rw [hb, e1]; rfl)
  subst e1
  clear hb
  go_enter Tryz.func62, Tryz.ntmps62
  go_wp2
  go_ret
  exact ⟨by first | (rw [HR.out]; done) | (rw [HR.out]; rfl), Below.refl _ _⟩
 have f1 : (k == 1) = false := by simpa using e1
 by_cases e2 : k = 2
 ·
  have HR : Hid (b = true) := Lib.hid (by rw [hb, e2]; rfl)
  subst e2
  clear hb
  go_enter Tryz.func62, Tryz.ntmps62
  go_wp2
  go_ret
  exact ⟨by first | (rw [HR.out]; done) | (rw [HR.out]; rfl), Below.refl _ _⟩
 have f2 : (k == 2) = false := by simpa using e2
 by_cases e7 : k = 7
 ·
  have HR : Hid (b = true) := Lib.hid (by rw [hb, e7]; rfl)
  subst e7
  clear hb
  go_enter Tryz.func62, Tryz.ntmps62
  go_wp2
  go_ret
  exact ⟨by first | (rw [HR.out]; done) | (rw [HR.out]; rfl), Below.refl _ _⟩
 have f7 : (k == 7) = false := by simpa using e7
 have HR : Hid (b = (k == 8)) := Lib.hid (by rw [hb, f1, f2, f7]; rfl)
 clear hb e1 e2 e7
 go_enter Tryz.func62, Tryz.ntmps62
 go_wp2
 go_ret
 exact ⟨by first | (rw [HR.out]; done) | (rw [HR.out]; rfl), Below.refl _ _⟩
end Go.Proofs.YthnbeebilomchaaGreatDoor

namespace Go.Proofs.YthnbeebilomchaaGreatDoor
open Go Go.RowKit

set_option maxHeartbeats 2000000 in
theorem methodR_any (k : Nat) (w : World) (hk : k < 10) : Calls Tryz.prog 57 #[.int .i64 k] w (fun e w' => e = .returned (.string ⟨(methodN k).toArray⟩) ∧ Below w.heap.size w w') := by
 obtain ⟨z, hz⟩ : ∃ z : ByteArray, z = ⟨(methodN k).toArray⟩ := ⟨_, rfl⟩
 rw [← hz]
 have hall : k = 0 ∨ k = 1 ∨ k = 2 ∨ k = 3 ∨ k = 4 ∨ k = 5 ∨ k = 6 ∨ k = 7 ∨ k = 8 ∨ k = 9 := by omega
 clear hk
 rcases hall with rfl | rfl | rfl | rfl | rfl | rfl | rfl | rfl | rfl | rfl
 ·
  have HZ := Lib.hid hz
  clear hz
  go_enter Tryz.func57, Tryz.ntmps57
  go_wp2
  go_ret
  exact ⟨by first | (rw [HZ.out]; done) | (rw [HZ.out]; rfl), below_a1 _ _⟩
 ·
  have HZ := Lib.hid hz
  clear hz
  go_enter Tryz.func57, Tryz.ntmps57
  go_wp2
  go_ret
  exact ⟨by first | (rw [HZ.out]; done) | (rw [HZ.out]; rfl), below_a1 _ _⟩
 ·
  have HZ := Lib.hid hz
  clear hz
  go_enter Tryz.func57, Tryz.ntmps57
  go_wp2
  go_ret
  exact ⟨by first | (rw [HZ.out]; done) | (rw [HZ.out]; rfl), below_a1 _ _⟩
 ·
  have HZ := Lib.hid hz
  clear hz
  go_enter Tryz.func57, Tryz.ntmps57
  go_wp2
  go_ret
  exact ⟨by first | (rw [HZ.out]; done) | (rw [HZ.out]; rfl), below_a1 _ _⟩
 ·
  have HZ := Lib.hid hz
  clear hz
  go_enter Tryz.func57, Tryz.ntmps57
  go_wp2
  go_ret
  exact ⟨by first | (rw [HZ.out]; done) | (rw [HZ.out]; rfl), below_a1 _ _⟩
 ·
  have HZ := Lib.hid hz
  clear hz
  go_enter Tryz.func57, Tryz.ntmps57
  go_wp2
  go_ret
  exact ⟨by first | (rw [HZ.out]; done) | (rw [HZ.out]; rfl), below_a1 _ _⟩
 ·
  have HZ := Lib.hid hz
  clear hz
  go_enter Tryz.func57, Tryz.ntmps57
  go_wp2
  go_ret
  exact ⟨by first | (rw [HZ.out]; done) | (rw [HZ.out]; rfl), below_a1 _ _⟩
 ·
  have HZ := Lib.hid hz
  clear hz
  go_enter Tryz.func57, Tryz.ntmps57
  go_wp2
  go_ret
  exact ⟨by first | (rw [HZ.out]; done) | (rw [HZ.out]; rfl), below_a1 _ _⟩
 ·
  have HZ := Lib.hid hz
  clear hz
  go_enter Tryz.func57, Tryz.ntmps57
  go_wp2
  go_ret
  exact ⟨by first | (rw [HZ.out]; done) | (rw [HZ.out]; rfl), below_a1 _ _⟩
 ·
  have HZ := Lib.hid hz
  clear hz
  go_enter Tryz.func57, Tryz.ntmps57
  go_wp2
  go_ret
  exact ⟨by first | (rw [HZ.out]; done) | (rw [HZ.out]; rfl), below_a1 _ _⟩
def methodVs : List Value := methodL.map strV
theorem methods_end {W : World} {tm : Array Value} {R : Ending → World → Prop} {g : Nat} {u0 u1 u2 u3 u4 u5 u6 u7 u8 u9 : Value} (h2 : tm.getD 0 undef = .pointer (some ⟨g, 0, none⟩)) (hB : Blk W g #[u0, u1, u2, u3, u4, u5, u6, u7, u8, u9] 76)
    (hR : R (.returned (.agg #[u0, u1, u2, u3, u4, u5, u6, u7, u8, u9])) W) : bodyPost Tryz.prog Tryz.f30 R .ret { tmps := tm, defers := [] } W := by
  have d0 := hB.cell 0
  have d1 := hB.cell 1
  have d2 := hB.cell 2
  have d3 := hB.cell 3
  have d4 := hB.cell 4
  have d5 := hB.cell 5
  have d6 := hB.cell 6
  have d7 := hB.cell 7
  have d8 := hB.cell 8
  have d9 := hB.cell 9
  simp only [List.getElem?_toArray, List.getElem?_cons_zero, List.getElem?_cons_succ] at d0 d1 d2 d3 d4 d5 d6 d7 d8 d9
  rw [Array.getD_eq_getD_getElem?] at h2
  refine bodyPost_ret (v := .agg #[u0, u1, u2, u3, u4, u5, u6, u7, u8, u9]) ?_ rfl hR
  simp [results, Tryz.results30, go_sem, h2, d0, d1, d2, d3, d4, d5, d6, d7, d8, d9]
theorem methods_any (w : World) : Calls Tryz.prog 30 #[] w (fun e w' => e = .returned (.agg methodVs.toArray) ∧ Below w.heap.size w w') := by
  go_enter Tryz.func30, Tryz.ntmps30
  go_wp2
  refine methods_end (g := w.heap.size) rfl (Blk.new rfl) ?_
  exact ⟨rfl, below_a1 _ _⟩
end Go.Proofs.YthnbeebilomchaaGreatDoor

namespace Go.Proofs.YthnbeebilomchaaGreatDoor
open Go Go.RowKit

def DocE (w : World) (v : V) (e : Ending) (w' : World) : Prop := ∃ d : VD, e = .returned (.agg #[.int .i64 d.sort, .bool d.on, .int .i64 d.n, .string ⟨d.text.toArray⟩, .slice d.a d.list.length d.c, .slice d.ka d.keys.length d.kc]) ∧ d.v = v ∧ ValAt w' (fun _ => True) d ∧ Below w.heap.size w w'
theorem row_blk {w : World} {g sz n : Nat} {xs : List Value} {T : TypeId} (h : Blk w g xs.toArray T) (hn : xs.length = n * sz) : Row w sz (some ⟨g, 0, none⟩) n xs :=
  ⟨hn, fun _ => ⟨g, 0, rfl, fun j _ => by rw [Nat.zero_add]; exact (h.cell j).trans (by simp)⟩⟩
end Go.Proofs.YthnbeebilomchaaGreatDoor

namespace Go.Proofs.YthnbeebilomchaaGreatDoor
open Go Go.RowKit

end Go.Proofs.YthnbeebilomchaaGreatDoor

namespace Go.Proofs.YthnbeebilomchaaGreatDoor
open Go Go.RowKit

theorem atR_end {W : World} {tm : Array Value} {R : Ending → World → Prop} {g : Nat} {u0 u1 u2 u3 u4 u5 : Value} (h2 : tm.getD 2 undef = .pointer (some ⟨g, 0, none⟩)) (hB : Blk W g #[u0, u1, u2, u3, u4, u5] 26)
    (hR : R (.returned (.agg #[u0, u1, u2, u3, u4, u5])) W) : bodyPost Tryz.prog Tryz.f79 R .ret { tmps := tm, defers := [] } W := by
  have d0 := hB.cell 0
  have d1 := hB.cell 1
  have d2 := hB.cell 2
  have d3 := hB.cell 3
  have d4 := hB.cell 4
  have d5 := hB.cell 5
  simp only [List.getElem?_toArray, List.getElem?_cons_zero, List.getElem?_cons_succ] at d0 d1 d2 d3 d4 d5
  rw [Array.getD_eq_getD_getElem?] at h2
  refine bodyPost_ret (v := .agg #[u0, u1, u2, u3, u4, u5]) ?_ rfl hR
  simp [results, Tryz.results79, go_sem, h2, d0, d1, d2, d3, d4, d5]
theorem atb {g k b : Nat} (h : blockOf (some ⟨g, 0, none⟩) = some k) (hb : b ≤ g) : b ≤ k := by
  have : g = k := by simpa [blockOf] using h
  omega
def DocN (w : World) (v : V) (e : Ending) (w' : World) : Prop := ∃ d : VD, e = .returned (.agg #[.int .i64 d.sort, .bool d.on, .int .i64 d.n, .string ⟨d.text.toArray⟩, .slice d.a d.list.length d.c, .slice d.ka d.keys.length d.kc]) ∧ d.v = v ∧ ValAt w' (fun k => w.heap.size ≤ k) d ∧ Below w.heap.size w w'
theorem docA {w W0 wr : World} {a b : Int} {gk gv o : Nat} (hw : Below w.heap.size w W0) (hb : Below W0.heap.size W0 wr) (hk : Blk wr gk #[.string ⟨#[108, 105, 110, 101]⟩, .string ⟨#[99, 104, 97, 114, 97, 99, 116, 101, 114]⟩] 9) (hv : Blk wr gv #[.int .i64 2, .bool false, .int .i64 a, .string { data := #[] }, .slice none 0 0, .slice none 0 0, .int .i64 2, .bool false, .int .i64 b, .string { data := #[] }, .slice none 0 0, .slice none 0 0] 26) (h0 : w.heap.size + 1 < W0.heap.size) (hgk : W0.heap.size ≤ gk) (hgv : W0.heap.size ≤ gv) :
  DocN w (atW a b) (.returned (.agg #[.int .i64 5, .bool false, .int .i64 0, .string { data := #[] }, .slice (some ⟨gv, 0, none⟩) 2 2, .slice (some ⟨gk, 0, none⟩) 2 2]))
   (put6 wr (w.heap.size + 1) o (.int .i64 5) (.bool false) (.int .i64 0) (.string { data := #[] }) (.slice (some ⟨gv, 0, none⟩) 2 2) (.slice (some ⟨gk, 0, none⟩) 2 2)) := by
 have hbw : Below w.heap.size w (put6 wr (w.heap.size + 1) o (.int .i64 5) (.bool false) (.int .i64 0) (.string { data := #[] }) (.slice (some ⟨gv, 0, none⟩) 2 2) (.slice (some ⟨gk, 0, none⟩) 2 2)) := put6_below (hw.trans (hb.mono hw.size)) (by omega)
 refine ⟨VD.mk 5 false 0 [] (some ⟨gv, 0, none⟩) 2 [VD.mk 2 false a [] none 0 [] none 0 [], VD.mk 2 false b [] none 0 [] none 0 []] (some ⟨gk, 0, none⟩) 2 [kLine, kChar], rfl, rfl, ?_, hbw⟩
 have hvo : Blk (put6 wr (w.heap.size + 1) o (.int .i64 5) (.bool false) (.int .i64 0) (.string { data := #[] }) (.slice (some ⟨gv, 0, none⟩) 2 2) (.slice (some ⟨gk, 0, none⟩) 2 2)) gv #[.int .i64 2, .bool false, .int .i64 a, .string { data := #[] }, .slice none 0 0, .slice none 0 0, .int .i64 2, .bool false, .int .i64 b, .string { data := #[] }, .slice none 0 0, .slice none 0 0] 26 := (put6_other (by omega)).trans hv
 have hko : Blk (put6 wr (w.heap.size + 1) o (.int .i64 5) (.bool false) (.int .i64 0) (.string { data := #[] }) (.slice (some ⟨gv, 0, none⟩) 2 2) (.slice (some ⟨gk, 0, none⟩) 2 2)) gk #[.string ⟨#[108, 105, 110, 101]⟩, .string ⟨#[99, 104, 97, 114, 97, 99, 116, 101, 114]⟩] 9 := (put6_other (by omega)).trans hk
 refine .mk (row_blk (T := 26) (by exact hvo) (by rfl)) (row_blk (T := 9) hko rfl) (fun g _ hg => atb hg (by omega)) (fun g _ hg => atb hg (by omega)) (fun x hx => ?_)
 simp only [List.mem_cons, List.mem_nil_iff, or_false] at hx
 rcases hx with rfl | rfl
 ·
  exact .leaf
 ·
  exact .leaf
set_option maxHeartbeats 4000000 in
set_option maxRecDepth 20000 in
theorem atR_any (a b : Int) (w : World) : Calls Tryz.prog 79 #[.agg #[.int .i64 a, .int .i64 b]] w (DocN w (atW a b)) := by
 obtain ⟨W0, hW0⟩ : ∃ W0, W0 = (w.alloc (.cells #[.int .i64 a, .int .i64 b] 29)).alloc (.cells #[.int .i64 0, .bool false, .int .i64 0, .string { data := #[] }, .slice none 0 0, .slice none 0 0] 26) := ⟨_, rfl⟩
 have HR : Hid (Blk W0 w.heap.size #[.int .i64 a, .int .i64 b] 29) := Lib.hid (by rw [hW0]; exact (Blk.new rfl).alloc _)
 have HZ : Hid (Blk W0 (w.heap.size + 1) #[.int .i64 0, .bool false, .int .i64 0, .string { data := #[] }, .slice none 0 0, .slice none 0 0] 26) := Lib.hid (by rw [hW0]; exact Blk.new (by simp))
 have HW : Hid (Below w.heap.size w W0) := Lib.hid (by rw [hW0]; exact (below_a1 w _).alloc (by simp) _)
 have hw0 := HZ.out.lt
 have HK : Hid (∀ w' : World, (∀ k, k ≤ w.heap.size → w'.heap[k]? = W0.heap[k]?) → w'.cell? ⟨w.heap.size, 0, none⟩ = some (.int .i64 a) ∧ w'.cell? ⟨w.heap.size, 1, none⟩ = some (.int .i64 b)) := Lib.hid fun w' hb => ⟨Blk.cell ((hb _ (by omega)).trans HR.out) 0, Blk.cell ((hb _ (by omega)).trans HR.out) 1⟩
 go_enter Tryz.func79, Tryz.ntmps79
 go_upto_region 1 with (fail)
 rw [← hW0]
 clear hW0
 have HB0 : Hid (Below W0.heap.size W0 W0.drew) := Lib.hid (Below.refl _ _).drew
 obtain ⟨Wd, hWd⟩ : ∃ Wd, Wd = W0.drew := ⟨_, rfl⟩
 have HB : Hid (Below W0.heap.size W0 Wd) := Lib.hid (by rw [hWd]; exact HB0.out)
 refine wp_region_held_drew (S := fun w' => w'.cell? ⟨w.heap.size, 0, none⟩ = some (.int .i64 a) ∧ w'.cell? ⟨w.heap.size, 1, none⟩ = some (.int .i64 b)) (by kernel_rfl) ?_ (fun hHeld => ?_)
 ·
  exact HK.out _ (fun k hk => HB0.out.block k (by omega))
 rw [← hWd] at hHeld ⊢
 clear hWd HB0
 refine wpAnyH_take (i := 1) (oi := ⟨some 4, _, _, _, _, _⟩) (v := ?_) rfl (by kernel_rfl) (by kernel_rfl) (by kernel_rfl) (fun _ _ _ h => h) (Or.inl ⟨by rfl, ?_⟩) (by assumption) ?_; rotate_left; focus (intro w hSw; (try dsimp only at hSw); first | (go_simp; done) | (go_simp; with_reducible rfl))
 try simp only [Act.put, List.setIfInBounds_toArray, List.set_cons_succ, List.set_cons_zero]
 refine wpAnyH_take (i := 2) (oi := ⟨some 5, _, _, _, _, _⟩) (v := ?_) rfl (by kernel_rfl) (by kernel_rfl) (by kernel_rfl) (fun _ _ _ h => h) (Or.inl ⟨by rfl, ?_⟩) (by assumption) ?_; rotate_left; focus (intro w hSw; (try dsimp only at hSw); obtain ⟨p0, p1⟩ := hSw; first | (go_simp; done) | (go_simp; with_reducible rfl))
 try simp only [Act.put, List.setIfInBounds_toArray, List.set_cons_succ, List.set_cons_zero]
 refine wpAnyH_take (i := 4) (oi := ⟨some 7, _, _, _, _, _⟩) (v := ?_) rfl (by kernel_rfl) (by kernel_rfl) (by kernel_rfl) (fun _ _ _ h => h) (Or.inl ⟨by rfl, ?_⟩) (by assumption) ?_; rotate_left; focus (intro w hSw; (try dsimp only at hSw); first | (go_simp; done) | (go_simp; with_reducible rfl))
 try simp only [Act.put, List.setIfInBounds_toArray, List.set_cons_succ, List.set_cons_zero]
 refine wpAnyH_take (i := 5) (oi := ⟨some 8, _, _, _, _, _⟩) (v := ?_) rfl (by kernel_rfl) (by kernel_rfl) (by kernel_rfl) (fun _ _ _ h => h) (Or.inl ⟨by rfl, ?_⟩) (by assumption) ?_; rotate_left; focus (intro w hSw; (try dsimp only at hSw); obtain ⟨p0, p1⟩ := hSw; first | (go_simp; done) | (go_simp; with_reducible rfl))
 try simp only [Act.put, List.setIfInBounds_toArray, List.set_cons_succ, List.set_cons_zero]
 refine wpAnyH_ready (rs := [0, 3]) (by kernel_rfl) (by simp) ?_
 refine AllReadyH.cons (i := 0) (o := ⟨some 3, _, _, _, _, _⟩) rfl (fun K hK => ?_) ?_
 ·
  obtain ⟨gk, hgk⟩ : ∃ gk, gk = Wd.heap.size := ⟨_, rfl⟩
  have HGK : Hid (W0.heap.size ≤ gk) := Lib.hid (by rw [hgk]; exact HB.out.size)
  obtain ⟨wk, hwk⟩ : ∃ wk, wk = Wd.alloc (.cells #[.string ⟨#[108, 105, 110, 101]⟩, .string ⟨#[99, 104, 97, 114, 97, 99, 116, 101, 114]⟩] 9) := ⟨_, rfl⟩
  have HBwk : Hid (Below W0.heap.size W0 wk) := Lib.hid (by rw [hwk]; exact HB.out.alloc HB.out.size _)
  have HKB : Hid (Blk wk gk #[.string ⟨#[108, 105, 110, 101]⟩, .string ⟨#[99, 104, 97, 114, 97, 99, 116, 101, 114]⟩] 9) := Lib.hid (by rw [hwk, hgk]; exact Blk.new rfl)
  try have HKB := Lib.hid (HKB.out.ext (show Below Wd.heap.size Wd wk by rw [hwk]; exact below_a1 _ _))
  try have HVB := Lib.hid (HVB.out.ext (show Below Wd.heap.size Wd wk by rw [hwk]; exact below_a1 _ _))
  clear HB
  have HB := HBwk
  clear HBwk
  go_simp
  rw [← hwk]
  clear hwk
  rw [← hgk]
  clear hgk
  refine hK.out _ _ ?_ (fun hHeld => ?_)
  ·
   exact HK.out _ (fun k hk => HB.out.block k (by omega))
  try simp only [Act.put, List.setIfInBounds_toArray, List.set_cons_succ, List.set_cons_zero]
  refine wpAnyH_ready (rs := [3]) (by kernel_rfl) (by simp) ?_
  refine AllReadyH.cons (i := 3) (o := ⟨some 6, _, _, _, _, _⟩) rfl (fun K hK => ?_) ?_
  ·
   go_simp
   refine (numR_any a wk).mono ?_
   rintro e ws ⟨rfl, hbs⟩
   have HBs : Hid (Below W0.heap.size W0 ws) := Lib.hid (HB.out.trans (hbs.mono HB.out.size))
   try have HKB := Lib.hid (HKB.out.ext hbs)
   clear HB
   have HB := HBs
   clear HBs
   refine hK.out _ _ ?_ (fun hHeld => ?_)
   ·
    exact HK.out _ (fun k hk => HB.out.block k (by omega))
   try simp only [Act.put, List.setIfInBounds_toArray, List.set_cons_succ, List.set_cons_zero]
   refine wpAnyH_ready (rs := [6]) (by kernel_rfl) (by simp) ?_
   refine AllReadyH.cons (i := 6) (o := ⟨some 9, _, _, _, _, _⟩) rfl (fun K hK => ?_) ?_
   ·
    go_simp
    refine (numR_any b ws).mono ?_
    rintro e wt ⟨rfl, hbt⟩
    have HBt : Hid (Below W0.heap.size W0 wt) := Lib.hid (HB.out.trans (hbt.mono HB.out.size))
    try have HKB := Lib.hid (HKB.out.ext hbt)
    clear HB
    have HB := HBt
    clear HBt
    refine hK.out _ _ ?_ (fun hHeld => ?_)
    ·
     exact HK.out _ (fun k hk => HB.out.block k (by omega))
    try simp only [Act.put, List.setIfInBounds_toArray, List.set_cons_succ, List.set_cons_zero]
    refine wpAnyH_ready (rs := [7]) (by kernel_rfl) (by simp) ?_
    refine AllReadyH.cons (i := 7) (o := ⟨some 10, _, _, _, _, _⟩) rfl (fun K hK => ?_) ?_
    ·
     obtain ⟨gv, hgv⟩ : ∃ gv, gv = wt.heap.size := ⟨_, rfl⟩
     have HGV : Hid (W0.heap.size ≤ gv) := Lib.hid (by rw [hgv]; exact HB.out.size)
     obtain ⟨wv, hwv⟩ : ∃ wv, wv = wt.alloc (.cells #[.int .i64 2, .bool false, .int .i64 a, .string { data := #[] }, .slice none 0 0, .slice none 0 0, .int .i64 2, .bool false, .int .i64 b, .string { data := #[] }, .slice none 0 0, .slice none 0 0] 26) := ⟨_, rfl⟩
     have HBwv : Hid (Below W0.heap.size W0 wv) := Lib.hid (by rw [hwv]; exact HB.out.alloc HB.out.size _)
     have HVB : Hid (Blk wv gv #[.int .i64 2, .bool false, .int .i64 a, .string { data := #[] }, .slice none 0 0, .slice none 0 0, .int .i64 2, .bool false, .int .i64 b, .string { data := #[] }, .slice none 0 0, .slice none 0 0] 26) := Lib.hid (by rw [hwv, hgv]; exact Blk.new rfl)
     try have HKB := Lib.hid (HKB.out.ext (show Below wt.heap.size wt wv by rw [hwv]; exact below_a1 _ _))
     try have HVB := Lib.hid (HVB.out.ext (show Below wt.heap.size wt wv by rw [hwv]; exact below_a1 _ _))
     clear HB
     have HB := HBwv
     clear HBwv
     go_simp
     rw [← hwv]
     clear hwv
     rw [← hgv]
     clear hgv
     refine hK.out _ _ ?_ (fun hHeld => ?_)
     ·
      exact HK.out _ (fun k hk => HB.out.block k (by omega))
     try simp only [Act.put, List.setIfInBounds_toArray, List.set_cons_succ, List.set_cons_zero]
     refine wpAnyH_ready (rs := [8]) (by kernel_rfl) (by simp) ?_
     refine AllReadyH.cons (i := 8) (o := ⟨some 11, _, _, _, _, _⟩) rfl (fun K hK => ?_) ?_
     ·
      go_simp
      refine (recR_any (some ⟨gk, 0, none⟩) (some ⟨gv, 0, none⟩) 2 2 2 2 _).mono ?_
      rintro e wr ⟨rfl, hbr⟩
      have HBr : Hid (Below W0.heap.size W0 wr) := Lib.hid (HB.out.trans (hbr.mono HB.out.size))
      have HKBr := Lib.hid (HKB.out.ext hbr)
      have HVBr := Lib.hid (HVB.out.ext hbr)
      clear HB hbr
      have HB := HBr
      clear HBr
      have HZr := Lib.hid (HZ.out.ext HB.out)
      have f0 := HZr.out.free 0
      have f1 := HZr.out.free 1
      have f2 := HZr.out.free 2
      have f3 := HZr.out.free 3
      have f4 := HZr.out.free 4
      have f5 := HZr.out.free 5
      obtain ⟨z0, z1, z2, z3, z4, z5⟩ := HZr.out.sixT
      refine hK.out _ _ ?_ (fun hHeld => ?_)
      ·
       exact HK.out _ (fun k hk => HB.out.block k (by omega))
      try simp only [Act.put, List.setIfInBounds_toArray, List.set_cons_succ, List.set_cons_zero]
      refine wpAnyH_ready (rs := [9]) (by kernel_rfl) (by simp) ?_
      refine AllReadyH.cons (i := 9) (o := ⟨none, _, _, _, _, _⟩) rfl (fun K hK => ?_) ?_
      ·
       go_simp
       refine hK.out _ _ ?_ (fun hHeld => ?_)
       ·
        exact HK.out _ (fun k hk => (put6_other (g := w.heap.size + 1) (by omega)).trans (HB.out.block k (by omega)))
       try simp only [Act.put, List.setIfInBounds_toArray, List.set_cons_succ, List.set_cons_zero]
       refine wpAnyH_done (by kernel_rfl) ?_ _
       clear hHeld
       go_wp2
       refine atR_end (g := w.heap.size + 1) rfl (store6 HZr.out) ?_
       exact docA (o := 0) HW.out HB.out HKBr.out HVBr.out (by omega) (by have := HGK.out; omega) (by have := HGV.out; omega)
      exact AllReadyH.nil
     exact AllReadyH.nil
    exact AllReadyH.nil
   exact AllReadyH.nil
  exact AllReadyH.nil
 refine AllReadyH.cons (i := 3) (o := ⟨some 6, _, _, _, _, _⟩) rfl (fun K hK => ?_) ?_
 ·
  go_simp
  refine (numR_any a Wd).mono ?_
  rintro e ws ⟨rfl, hbs⟩
  have HBs : Hid (Below W0.heap.size W0 ws) := Lib.hid (HB.out.trans (hbs.mono HB.out.size))
  try have HKB := Lib.hid (HKB.out.ext hbs)
  clear HB
  have HB := HBs
  clear HBs
  refine hK.out _ _ ?_ (fun hHeld => ?_)
  ·
   exact HK.out _ (fun k hk => HB.out.block k (by omega))
  try simp only [Act.put, List.setIfInBounds_toArray, List.set_cons_succ, List.set_cons_zero]
  refine wpAnyH_ready (rs := [0, 6]) (by kernel_rfl) (by simp) ?_
  refine AllReadyH.cons (i := 0) (o := ⟨some 3, _, _, _, _, _⟩) rfl (fun K hK => ?_) ?_
  ·
   obtain ⟨gk, hgk⟩ : ∃ gk, gk = ws.heap.size := ⟨_, rfl⟩
   have HGK : Hid (W0.heap.size ≤ gk) := Lib.hid (by rw [hgk]; exact HB.out.size)
   obtain ⟨wk, hwk⟩ : ∃ wk, wk = ws.alloc (.cells #[.string ⟨#[108, 105, 110, 101]⟩, .string ⟨#[99, 104, 97, 114, 97, 99, 116, 101, 114]⟩] 9) := ⟨_, rfl⟩
   have HBwk : Hid (Below W0.heap.size W0 wk) := Lib.hid (by rw [hwk]; exact HB.out.alloc HB.out.size _)
   have HKB : Hid (Blk wk gk #[.string ⟨#[108, 105, 110, 101]⟩, .string ⟨#[99, 104, 97, 114, 97, 99, 116, 101, 114]⟩] 9) := Lib.hid (by rw [hwk, hgk]; exact Blk.new rfl)
   try have HKB := Lib.hid (HKB.out.ext (show Below ws.heap.size ws wk by rw [hwk]; exact below_a1 _ _))
   try have HVB := Lib.hid (HVB.out.ext (show Below ws.heap.size ws wk by rw [hwk]; exact below_a1 _ _))
   clear HB
   have HB := HBwk
   clear HBwk
   go_simp
   rw [← hwk]
   clear hwk
   rw [← hgk]
   clear hgk
   refine hK.out _ _ ?_ (fun hHeld => ?_)
   ·
    exact HK.out _ (fun k hk => HB.out.block k (by omega))
   try simp only [Act.put, List.setIfInBounds_toArray, List.set_cons_succ, List.set_cons_zero]
   refine wpAnyH_ready (rs := [6]) (by kernel_rfl) (by simp) ?_
   refine AllReadyH.cons (i := 6) (o := ⟨some 9, _, _, _, _, _⟩) rfl (fun K hK => ?_) ?_
   ·
    go_simp
    refine (numR_any b wk).mono ?_
    rintro e wt ⟨rfl, hbt⟩
    have HBt : Hid (Below W0.heap.size W0 wt) := Lib.hid (HB.out.trans (hbt.mono HB.out.size))
    try have HKB := Lib.hid (HKB.out.ext hbt)
    clear HB
    have HB := HBt
    clear HBt
    refine hK.out _ _ ?_ (fun hHeld => ?_)
    ·
     exact HK.out _ (fun k hk => HB.out.block k (by omega))
    try simp only [Act.put, List.setIfInBounds_toArray, List.set_cons_succ, List.set_cons_zero]
    refine wpAnyH_ready (rs := [7]) (by kernel_rfl) (by simp) ?_
    refine AllReadyH.cons (i := 7) (o := ⟨some 10, _, _, _, _, _⟩) rfl (fun K hK => ?_) ?_
    ·
     obtain ⟨gv, hgv⟩ : ∃ gv, gv = wt.heap.size := ⟨_, rfl⟩
     have HGV : Hid (W0.heap.size ≤ gv) := Lib.hid (by rw [hgv]; exact HB.out.size)
     obtain ⟨wv, hwv⟩ : ∃ wv, wv = wt.alloc (.cells #[.int .i64 2, .bool false, .int .i64 a, .string { data := #[] }, .slice none 0 0, .slice none 0 0, .int .i64 2, .bool false, .int .i64 b, .string { data := #[] }, .slice none 0 0, .slice none 0 0] 26) := ⟨_, rfl⟩
     have HBwv : Hid (Below W0.heap.size W0 wv) := Lib.hid (by rw [hwv]; exact HB.out.alloc HB.out.size _)
     have HVB : Hid (Blk wv gv #[.int .i64 2, .bool false, .int .i64 a, .string { data := #[] }, .slice none 0 0, .slice none 0 0, .int .i64 2, .bool false, .int .i64 b, .string { data := #[] }, .slice none 0 0, .slice none 0 0] 26) := Lib.hid (by rw [hwv, hgv]; exact Blk.new rfl)
     try have HKB := Lib.hid (HKB.out.ext (show Below wt.heap.size wt wv by rw [hwv]; exact below_a1 _ _))
     try have HVB := Lib.hid (HVB.out.ext (show Below wt.heap.size wt wv by rw [hwv]; exact below_a1 _ _))
     clear HB
     have HB := HBwv
     clear HBwv
     go_simp
     rw [← hwv]
     clear hwv
     rw [← hgv]
     clear hgv
     refine hK.out _ _ ?_ (fun hHeld => ?_)
     ·
      exact HK.out _ (fun k hk => HB.out.block k (by omega))
     try simp only [Act.put, List.setIfInBounds_toArray, List.set_cons_succ, List.set_cons_zero]
     refine wpAnyH_ready (rs := [8]) (by kernel_rfl) (by simp) ?_
     refine AllReadyH.cons (i := 8) (o := ⟨some 11, _, _, _, _, _⟩) rfl (fun K hK => ?_) ?_
     ·
      go_simp
      refine (recR_any (some ⟨gk, 0, none⟩) (some ⟨gv, 0, none⟩) 2 2 2 2 _).mono ?_
      rintro e wr ⟨rfl, hbr⟩
      have HBr : Hid (Below W0.heap.size W0 wr) := Lib.hid (HB.out.trans (hbr.mono HB.out.size))
      have HKBr := Lib.hid (HKB.out.ext hbr)
      have HVBr := Lib.hid (HVB.out.ext hbr)
      clear HB hbr
      have HB := HBr
      clear HBr
      have HZr := Lib.hid (HZ.out.ext HB.out)
      have f0 := HZr.out.free 0
      have f1 := HZr.out.free 1
      have f2 := HZr.out.free 2
      have f3 := HZr.out.free 3
      have f4 := HZr.out.free 4
      have f5 := HZr.out.free 5
      obtain ⟨z0, z1, z2, z3, z4, z5⟩ := HZr.out.sixT
      refine hK.out _ _ ?_ (fun hHeld => ?_)
      ·
       exact HK.out _ (fun k hk => HB.out.block k (by omega))
      try simp only [Act.put, List.setIfInBounds_toArray, List.set_cons_succ, List.set_cons_zero]
      refine wpAnyH_ready (rs := [9]) (by kernel_rfl) (by simp) ?_
      refine AllReadyH.cons (i := 9) (o := ⟨none, _, _, _, _, _⟩) rfl (fun K hK => ?_) ?_
      ·
       go_simp
       refine hK.out _ _ ?_ (fun hHeld => ?_)
       ·
        exact HK.out _ (fun k hk => (put6_other (g := w.heap.size + 1) (by omega)).trans (HB.out.block k (by omega)))
       try simp only [Act.put, List.setIfInBounds_toArray, List.set_cons_succ, List.set_cons_zero]
       refine wpAnyH_done (by kernel_rfl) ?_ _
       clear hHeld
       go_wp2
       refine atR_end (g := w.heap.size + 1) rfl (store6 HZr.out) ?_
       exact docA (o := 0) HW.out HB.out HKBr.out HVBr.out (by omega) (by have := HGK.out; omega) (by have := HGV.out; omega)
      exact AllReadyH.nil
     exact AllReadyH.nil
    exact AllReadyH.nil
   exact AllReadyH.nil
  refine AllReadyH.cons (i := 6) (o := ⟨some 9, _, _, _, _, _⟩) rfl (fun K hK => ?_) ?_
  ·
   go_simp
   refine (numR_any b ws).mono ?_
   rintro e wt ⟨rfl, hbt⟩
   have HBt : Hid (Below W0.heap.size W0 wt) := Lib.hid (HB.out.trans (hbt.mono HB.out.size))
   try have HKB := Lib.hid (HKB.out.ext hbt)
   clear HB
   have HB := HBt
   clear HBt
   refine hK.out _ _ ?_ (fun hHeld => ?_)
   ·
    exact HK.out _ (fun k hk => HB.out.block k (by omega))
   try simp only [Act.put, List.setIfInBounds_toArray, List.set_cons_succ, List.set_cons_zero]
   refine wpAnyH_ready (rs := [0, 7]) (by kernel_rfl) (by simp) ?_
   refine AllReadyH.cons (i := 0) (o := ⟨some 3, _, _, _, _, _⟩) rfl (fun K hK => ?_) ?_
   ·
    obtain ⟨gk, hgk⟩ : ∃ gk, gk = wt.heap.size := ⟨_, rfl⟩
    have HGK : Hid (W0.heap.size ≤ gk) := Lib.hid (by rw [hgk]; exact HB.out.size)
    obtain ⟨wk, hwk⟩ : ∃ wk, wk = wt.alloc (.cells #[.string ⟨#[108, 105, 110, 101]⟩, .string ⟨#[99, 104, 97, 114, 97, 99, 116, 101, 114]⟩] 9) := ⟨_, rfl⟩
    have HBwk : Hid (Below W0.heap.size W0 wk) := Lib.hid (by rw [hwk]; exact HB.out.alloc HB.out.size _)
    have HKB : Hid (Blk wk gk #[.string ⟨#[108, 105, 110, 101]⟩, .string ⟨#[99, 104, 97, 114, 97, 99, 116, 101, 114]⟩] 9) := Lib.hid (by rw [hwk, hgk]; exact Blk.new rfl)
    try have HKB := Lib.hid (HKB.out.ext (show Below wt.heap.size wt wk by rw [hwk]; exact below_a1 _ _))
    try have HVB := Lib.hid (HVB.out.ext (show Below wt.heap.size wt wk by rw [hwk]; exact below_a1 _ _))
    clear HB
    have HB := HBwk
    clear HBwk
    go_simp
    rw [← hwk]
    clear hwk
    rw [← hgk]
    clear hgk
    refine hK.out _ _ ?_ (fun hHeld => ?_)
    ·
     exact HK.out _ (fun k hk => HB.out.block k (by omega))
    try simp only [Act.put, List.setIfInBounds_toArray, List.set_cons_succ, List.set_cons_zero]
    refine wpAnyH_ready (rs := [7]) (by kernel_rfl) (by simp) ?_
    refine AllReadyH.cons (i := 7) (o := ⟨some 10, _, _, _, _, _⟩) rfl (fun K hK => ?_) ?_
    ·
     obtain ⟨gv, hgv⟩ : ∃ gv, gv = wk.heap.size := ⟨_, rfl⟩
     have HGV : Hid (W0.heap.size ≤ gv) := Lib.hid (by rw [hgv]; exact HB.out.size)
     obtain ⟨wv, hwv⟩ : ∃ wv, wv = wk.alloc (.cells #[.int .i64 2, .bool false, .int .i64 a, .string { data := #[] }, .slice none 0 0, .slice none 0 0, .int .i64 2, .bool false, .int .i64 b, .string { data := #[] }, .slice none 0 0, .slice none 0 0] 26) := ⟨_, rfl⟩
     have HBwv : Hid (Below W0.heap.size W0 wv) := Lib.hid (by rw [hwv]; exact HB.out.alloc HB.out.size _)
     have HVB : Hid (Blk wv gv #[.int .i64 2, .bool false, .int .i64 a, .string { data := #[] }, .slice none 0 0, .slice none 0 0, .int .i64 2, .bool false, .int .i64 b, .string { data := #[] }, .slice none 0 0, .slice none 0 0] 26) := Lib.hid (by rw [hwv, hgv]; exact Blk.new rfl)
     try have HKB := Lib.hid (HKB.out.ext (show Below wk.heap.size wk wv by rw [hwv]; exact below_a1 _ _))
     try have HVB := Lib.hid (HVB.out.ext (show Below wk.heap.size wk wv by rw [hwv]; exact below_a1 _ _))
     clear HB
     have HB := HBwv
     clear HBwv
     go_simp
     rw [← hwv]
     clear hwv
     rw [← hgv]
     clear hgv
     refine hK.out _ _ ?_ (fun hHeld => ?_)
     ·
      exact HK.out _ (fun k hk => HB.out.block k (by omega))
     try simp only [Act.put, List.setIfInBounds_toArray, List.set_cons_succ, List.set_cons_zero]
     refine wpAnyH_ready (rs := [8]) (by kernel_rfl) (by simp) ?_
     refine AllReadyH.cons (i := 8) (o := ⟨some 11, _, _, _, _, _⟩) rfl (fun K hK => ?_) ?_
     ·
      go_simp
      refine (recR_any (some ⟨gk, 0, none⟩) (some ⟨gv, 0, none⟩) 2 2 2 2 _).mono ?_
      rintro e wr ⟨rfl, hbr⟩
      have HBr : Hid (Below W0.heap.size W0 wr) := Lib.hid (HB.out.trans (hbr.mono HB.out.size))
      have HKBr := Lib.hid (HKB.out.ext hbr)
      have HVBr := Lib.hid (HVB.out.ext hbr)
      clear HB hbr
      have HB := HBr
      clear HBr
      have HZr := Lib.hid (HZ.out.ext HB.out)
      have f0 := HZr.out.free 0
      have f1 := HZr.out.free 1
      have f2 := HZr.out.free 2
      have f3 := HZr.out.free 3
      have f4 := HZr.out.free 4
      have f5 := HZr.out.free 5
      obtain ⟨z0, z1, z2, z3, z4, z5⟩ := HZr.out.sixT
      refine hK.out _ _ ?_ (fun hHeld => ?_)
      ·
       exact HK.out _ (fun k hk => HB.out.block k (by omega))
      try simp only [Act.put, List.setIfInBounds_toArray, List.set_cons_succ, List.set_cons_zero]
      refine wpAnyH_ready (rs := [9]) (by kernel_rfl) (by simp) ?_
      refine AllReadyH.cons (i := 9) (o := ⟨none, _, _, _, _, _⟩) rfl (fun K hK => ?_) ?_
      ·
       go_simp
       refine hK.out _ _ ?_ (fun hHeld => ?_)
       ·
        exact HK.out _ (fun k hk => (put6_other (g := w.heap.size + 1) (by omega)).trans (HB.out.block k (by omega)))
       try simp only [Act.put, List.setIfInBounds_toArray, List.set_cons_succ, List.set_cons_zero]
       refine wpAnyH_done (by kernel_rfl) ?_ _
       clear hHeld
       go_wp2
       refine atR_end (g := w.heap.size + 1) rfl (store6 HZr.out) ?_
       exact docA (o := 0) HW.out HB.out HKBr.out HVBr.out (by omega) (by have := HGK.out; omega) (by have := HGV.out; omega)
      exact AllReadyH.nil
     exact AllReadyH.nil
    exact AllReadyH.nil
   refine AllReadyH.cons (i := 7) (o := ⟨some 10, _, _, _, _, _⟩) rfl (fun K hK => ?_) ?_
   ·
    obtain ⟨gv, hgv⟩ : ∃ gv, gv = wt.heap.size := ⟨_, rfl⟩
    have HGV : Hid (W0.heap.size ≤ gv) := Lib.hid (by rw [hgv]; exact HB.out.size)
    obtain ⟨wv, hwv⟩ : ∃ wv, wv = wt.alloc (.cells #[.int .i64 2, .bool false, .int .i64 a, .string { data := #[] }, .slice none 0 0, .slice none 0 0, .int .i64 2, .bool false, .int .i64 b, .string { data := #[] }, .slice none 0 0, .slice none 0 0] 26) := ⟨_, rfl⟩
    have HBwv : Hid (Below W0.heap.size W0 wv) := Lib.hid (by rw [hwv]; exact HB.out.alloc HB.out.size _)
    have HVB : Hid (Blk wv gv #[.int .i64 2, .bool false, .int .i64 a, .string { data := #[] }, .slice none 0 0, .slice none 0 0, .int .i64 2, .bool false, .int .i64 b, .string { data := #[] }, .slice none 0 0, .slice none 0 0] 26) := Lib.hid (by rw [hwv, hgv]; exact Blk.new rfl)
    try have HKB := Lib.hid (HKB.out.ext (show Below wt.heap.size wt wv by rw [hwv]; exact below_a1 _ _))
    try have HVB := Lib.hid (HVB.out.ext (show Below wt.heap.size wt wv by rw [hwv]; exact below_a1 _ _))
    clear HB
    have HB := HBwv
    clear HBwv
    go_simp
    rw [← hwv]
    clear hwv
    rw [← hgv]
    clear hgv
    refine hK.out _ _ ?_ (fun hHeld => ?_)
    ·
     exact HK.out _ (fun k hk => HB.out.block k (by omega))
    try simp only [Act.put, List.setIfInBounds_toArray, List.set_cons_succ, List.set_cons_zero]
    refine wpAnyH_ready (rs := [0]) (by kernel_rfl) (by simp) ?_
    refine AllReadyH.cons (i := 0) (o := ⟨some 3, _, _, _, _, _⟩) rfl (fun K hK => ?_) ?_
    ·
     obtain ⟨gk, hgk⟩ : ∃ gk, gk = wv.heap.size := ⟨_, rfl⟩
     have HGK : Hid (W0.heap.size ≤ gk) := Lib.hid (by rw [hgk]; exact HB.out.size)
     obtain ⟨wk, hwk⟩ : ∃ wk, wk = wv.alloc (.cells #[.string ⟨#[108, 105, 110, 101]⟩, .string ⟨#[99, 104, 97, 114, 97, 99, 116, 101, 114]⟩] 9) := ⟨_, rfl⟩
     have HBwk : Hid (Below W0.heap.size W0 wk) := Lib.hid (by rw [hwk]; exact HB.out.alloc HB.out.size _)
     have HKB : Hid (Blk wk gk #[.string ⟨#[108, 105, 110, 101]⟩, .string ⟨#[99, 104, 97, 114, 97, 99, 116, 101, 114]⟩] 9) := Lib.hid (by rw [hwk, hgk]; exact Blk.new rfl)
     try have HKB := Lib.hid (HKB.out.ext (show Below wv.heap.size wv wk by rw [hwk]; exact below_a1 _ _))
     try have HVB := Lib.hid (HVB.out.ext (show Below wv.heap.size wv wk by rw [hwk]; exact below_a1 _ _))
     clear HB
     have HB := HBwk
     clear HBwk
     go_simp
     rw [← hwk]
     clear hwk
     rw [← hgk]
     clear hgk
     refine hK.out _ _ ?_ (fun hHeld => ?_)
     ·
      exact HK.out _ (fun k hk => HB.out.block k (by omega))
     try simp only [Act.put, List.setIfInBounds_toArray, List.set_cons_succ, List.set_cons_zero]
     refine wpAnyH_ready (rs := [8]) (by kernel_rfl) (by simp) ?_
     refine AllReadyH.cons (i := 8) (o := ⟨some 11, _, _, _, _, _⟩) rfl (fun K hK => ?_) ?_
     ·
      go_simp
      refine (recR_any (some ⟨gk, 0, none⟩) (some ⟨gv, 0, none⟩) 2 2 2 2 _).mono ?_
      rintro e wr ⟨rfl, hbr⟩
      have HBr : Hid (Below W0.heap.size W0 wr) := Lib.hid (HB.out.trans (hbr.mono HB.out.size))
      have HKBr := Lib.hid (HKB.out.ext hbr)
      have HVBr := Lib.hid (HVB.out.ext hbr)
      clear HB hbr
      have HB := HBr
      clear HBr
      have HZr := Lib.hid (HZ.out.ext HB.out)
      have f0 := HZr.out.free 0
      have f1 := HZr.out.free 1
      have f2 := HZr.out.free 2
      have f3 := HZr.out.free 3
      have f4 := HZr.out.free 4
      have f5 := HZr.out.free 5
      obtain ⟨z0, z1, z2, z3, z4, z5⟩ := HZr.out.sixT
      refine hK.out _ _ ?_ (fun hHeld => ?_)
      ·
       exact HK.out _ (fun k hk => HB.out.block k (by omega))
      try simp only [Act.put, List.setIfInBounds_toArray, List.set_cons_succ, List.set_cons_zero]
      refine wpAnyH_ready (rs := [9]) (by kernel_rfl) (by simp) ?_
      refine AllReadyH.cons (i := 9) (o := ⟨none, _, _, _, _, _⟩) rfl (fun K hK => ?_) ?_
      ·
       go_simp
       refine hK.out _ _ ?_ (fun hHeld => ?_)
       ·
        exact HK.out _ (fun k hk => (put6_other (g := w.heap.size + 1) (by omega)).trans (HB.out.block k (by omega)))
       try simp only [Act.put, List.setIfInBounds_toArray, List.set_cons_succ, List.set_cons_zero]
       refine wpAnyH_done (by kernel_rfl) ?_ _
       clear hHeld
       go_wp2
       refine atR_end (g := w.heap.size + 1) rfl (store6 HZr.out) ?_
       exact docA (o := 0) HW.out HB.out HKBr.out HVBr.out (by omega) (by have := HGK.out; omega) (by have := HGV.out; omega)
      exact AllReadyH.nil
     exact AllReadyH.nil
    exact AllReadyH.nil
   exact AllReadyH.nil
  exact AllReadyH.nil
 exact AllReadyH.nil
end Go.Proofs.YthnbeebilomchaaGreatDoor

namespace Go.Proofs.YthnbeebilomchaaGreatDoor
open Go Go.RowKit

theorem val_cells {wr W : World} {b o : Nat} {x : VD} (hW : Below wr.heap.size wr W) (v0 : wr.cell? ⟨b, o, none⟩ = some (.int .i64 x.sort)) (v1 : wr.cell? ⟨b, o + 1, none⟩ = some (.bool x.on)) (v2 : wr.cell? ⟨b, o + 2, none⟩ = some (.int .i64 x.n)) (v3 : wr.cell? ⟨b, o + 3, none⟩ = some (strV x.text)) (v4 : wr.cell? ⟨b, o + 4, none⟩ = some (.slice x.a x.list.length x.c)) (v5 : wr.cell? ⟨b, o + 5, none⟩ = some (.slice x.ka x.keys.length x.kc)) :
    W.cell? ⟨b, o, none⟩ = some (.int .i64 x.sort) ∧ W.cell? ⟨b, o + 1, none⟩ = some (.bool x.on) ∧ W.cell? ⟨b, o + 2, none⟩ = some (.int .i64 x.n) ∧ W.cell? ⟨b, o + 3, none⟩ = some (.string ⟨x.text.toArray⟩) ∧ W.cell? ⟨b, o + 4, none⟩ = some (.slice x.a x.list.length x.c) ∧ W.cell? ⟨b, o + 5, none⟩ = some (.slice x.ka x.keys.length x.kc) :=
  ⟨below_ext hW v0, below_ext hW v1, below_ext hW v2, below_ext hW v3, below_ext hW v4, below_ext hW v5⟩
structure SBR (w W : World) (d e : VD) : Prop where
  one : Blk W w.heap.size #[.int .i64 d.sort, .bool d.on, .int .i64 d.n, .string ⟨d.text.toArray⟩, .slice d.a d.list.length d.c, .slice d.ka d.keys.length d.kc] 26
  two : Blk W (w.heap.size + 1) #[.int .i64 e.sort, .bool e.on, .int .i64 e.n, .string ⟨e.text.toArray⟩, .slice e.a e.list.length e.c, .slice e.ka e.keys.length e.kc] 26
  below : Below w.heap.size w W
theorem SBR.ext {w W W' : World} {d e : VD} (h : SBR w W d e) (hb : Below W.heap.size W W') : SBR w W' d e := ⟨h.one.ext hb, h.two.ext hb, h.below.trans (hb.mono h.below.size)⟩
set_option maxHeartbeats 8000000 in
theorem sameR_walk (d e : VD) (w : World) (hd : ValAt w (fun _ => True) d) (he : ValAt w (fun _ => True) e) (hs : sizeV d.v ≤ 1048576)
  (hc : ∀ W (j : Nat) x y, Below w.heap.size w W → d.list[j]? = some x → e.list[j]? = some y → Calls Tryz.prog 11 #[x.val, y.val] W (Ret W (IsB (x.v = y.v)))) :
  Calls Tryz.prog 11 #[d.val, e.val] w (Ret w (IsB (d.v = e.v))) := by
 obtain ⟨W0, hW0⟩ : ∃ W0, W0 = (w.alloc (.cells #[.int .i64 d.sort, .bool d.on, .int .i64 d.n, .string ⟨d.text.toArray⟩, .slice d.a d.list.length d.c, .slice d.ka d.keys.length d.kc] 26)).alloc (.cells #[.int .i64 e.sort, .bool e.on, .int .i64 e.n, .string ⟨e.text.toArray⟩, .slice e.a e.list.length e.c, .slice e.ka e.keys.length e.kc] 26) := ⟨_, rfl⟩
 have S0 : Hid (SBR w W0 d e) := Lib.hid (by rw [hW0]; exact ⟨(Blk.new rfl).alloc _, Blk.new (by simp), (below_a1 w _).alloc (by simp) _⟩)
 have hsz : sizeV (.mk d.sort d.on d.n d.text (d.list.map VD.v) d.keys) ≤ 1048576 := by rw [← VD.v_eq]; exact hs
 obtain ⟨s1, s2, s3, s4, s5⟩ := size_parts hsz
 rw [List.length_map] at s3
 clear s4 s5 hsz hs
 have HC := Lib.hid hc
 have HD := Lib.hid hd
 have HE := Lib.hid he
 have hk := strings_any d.ka e.ka d.kc e.kc d.keys e.keys W0 (HD.out.ext S0.out.below).krow (HE.out.ext S0.out.below).krow (by omega)
 have HK := Lib.hid hk
 rw [VD.val6, VD.val6]
 clear hd he hc hk
 go_enter Tryz.func11, Tryz.ntmps11
 go_upto_region 1 with (fail)
 rw [← hW0]
 clear hW0
 have hp := v_same d e
 generalize hP : (d.v = e.v) = P at *
 clear hP
 obtain ⟨c0, c1, c2, c3, c4, c5⟩ := S0.out.one.sixT
 obtain ⟨e0, e1, e2, e3, e4, e5⟩ := S0.out.two.sixT
 go_wp2_with fail
 refine HK.out.mono ?_
 rintro r W1 ⟨v, rfl, hb, bo, rfl, hbo⟩
 have S1 := Lib.hid (S0.out.ext hb)
 clear c0 c1 c2 c3 c4 c5 e0 e1 e2 e3 e4 e5 hb HK S0
 obtain ⟨c0, c1, c2, c3, c4, c5⟩ := S1.out.one.sixT
 obtain ⟨e0, e1, e2, e3, e4, e5⟩ := S1.out.two.sixT
 cases bo with
 | false =>
  have Hn : Hid (¬ P) := Lib.hid (fun h => by have := hbo.2 (hp.1 h).2.2.2.2.1; cases this)
  clear hbo hp
  go_wp2
  go_ret
  exact ⟨_, rfl, S1.out.below, isB_false Hn.out⟩
 | true =>
 have Hk : Hid (d.keys = e.keys) := Lib.hid (hbo.1 rfl)
 clear hbo
 by_cases a1 : d.sort = e.sort
 case neg =>
  have a1' : (d.sort == e.sort) = false := by simpa using a1
  have a1'' : (d.sort != e.sort) = true := by simpa using a1
  have Hn : Hid (¬ P) := Lib.hid (fun h => a1 (hp.1 h).1)
  clear hp a1
  go_wp2
  go_ret
  exact ⟨_, rfl, S1.out.below, isB_false Hn.out⟩
 have a1' : (d.sort == e.sort) = true := by simpa using a1
 have a1'' : (d.sort != e.sort) = false := by simpa using a1
 by_cases a2 : d.on = e.on
 case neg =>
  have a2' : (d.on == e.on) = false := by simpa using a2
  have a2'' : (d.on != e.on) = true := by simpa using a2
  have Hn : Hid (¬ P) := Lib.hid (fun h => a2 (hp.1 h).2.1)
  clear hp a2
  go_wp2
  go_ret
  exact ⟨_, rfl, S1.out.below, isB_false Hn.out⟩
 have a2' : (d.on == e.on) = true := by simpa using a2
 have a2'' : (d.on != e.on) = false := by simpa using a2
 by_cases a3 : d.n = e.n
 case neg =>
  have a3' : (d.n == e.n) = false := by simpa using a3
  have a3'' : (d.n != e.n) = true := by simpa using a3
  have Hn : Hid (¬ P) := Lib.hid (fun h => a3 (hp.1 h).2.2.1)
  clear hp a3
  go_wp2
  go_ret
  exact ⟨_, rfl, S1.out.below, isB_false Hn.out⟩
 have a3' : (d.n == e.n) = true := by simpa using a3
 have a3'' : (d.n != e.n) = false := by simpa using a3
 by_cases a4 : d.text = e.text
 case neg =>
  have a4' : (d.text == e.text) = false := by simpa using a4
  have a4'' : (d.text != e.text) = true := by simpa using a4
  have Hn : Hid (¬ P) := Lib.hid (fun h => a4 (hp.1 h).2.2.2.1)
  clear hp a4
  go_wp2
  go_ret
  exact ⟨_, rfl, S1.out.below, isB_false Hn.out⟩
 have a4' : (d.text == e.text) = true := by simpa using a4
 have a4'' : (d.text != e.text) = false := by simpa using a4
 have HP : Hid (P ↔ d.list.map VD.v = e.list.map VD.v) := Lib.hid (by rw [hp]; simp [a1, a2, a3, a4, Hk.out])
 clear hp a1 a2 a3 a4
 by_cases hn : d.list.length = e.list.length
 case neg =>
  have hn1 : ((d.list.length : Int) == (e.list.length : Int)) = false := by simp; omega
  have hn2 : ((d.list.length : Int) != (e.list.length : Int)) = true := by simp; omega
  have Hn : Hid (¬ P) := Lib.hid (fun h => hn (by have := congrArg List.length (HP.out.1 h); simpa using this))
  clear hn
  go_wp2
  go_ret
  exact ⟨_, rfl, S1.out.below, isB_false Hn.out⟩
 obtain ⟨nl, hnl⟩ : ∃ nl, nl = d.list.length := ⟨_, rfl⟩
 obtain ⟨ea, hea⟩ : ∃ ea, ea = d.a := ⟨_, rfl⟩
 obtain ⟨eb, heb⟩ : ∃ eb, eb = e.a := ⟨_, rfl⟩
 have hS1 : Blk W1 w.heap.size #[.int .i64 d.sort, .bool d.on, .int .i64 d.n, .string ⟨d.text.toArray⟩, .slice ea nl d.c, .slice d.ka d.keys.length d.kc] 26 ∧ Blk W1 (w.heap.size + 1) #[.int .i64 e.sort, .bool e.on, .int .i64 e.n, .string ⟨e.text.toArray⟩, .slice eb nl e.c, .slice e.ka e.keys.length e.kc] 26 := by
  rw [hnl, hea, heb]; exact ⟨S1.out.one, by rw [hn]; exact S1.out.two⟩
 have HS1 := Lib.hid hS1
 rw [← hn] at e4
 rw [← hnl] at c4 e4 s3
 rw [← hea] at c4
 rw [← heb] at e4
 rw [← hn, ← hnl, ← hea, ← heb]
 have HNL := Lib.hid hnl
 have HN2 := Lib.hid (hnl.trans hn)
 have HEA := Lib.hid hea
 have HEB := Lib.hid heb
 clear hn hnl hea heb hS1
 have hn1 : ((nl : Int) != (nl : Int)) = false := by simp
 go_wp2_with fail
 clear c0 c1 c2 c3 c4 c5 e0 e1 e2 e3 e4 e5 a1' a1'' a2' a2'' a3' a3'' a4' a4'' hn1
 go_loopw [6, 7] (fun i _ wr => ∃ k : Nat, k ≤ nl ∧ i = .int .i64 k ∧ Hid (Below W1.heap.size W1 wr ∧ ∀ j, j < k → (d.list.map VD.v)[j]? = (e.list.map VD.v)[j]?)) (fun i _ _ => nl - (intOf i).toNat)
 case atStart => exact ⟨0, Nat.zero_le _, rfl, Lib.hid ⟨Below.refl _ _, fun j h => by omega⟩⟩
 case round =>
  obtain ⟨k, hk, rfl, hq⟩ := hrel
  obtain ⟨c0, c1, c2, c3, c4, c5⟩ := (HS1.out.1.ext hq.out.1).sixT
  obtain ⟨e0, e1, e2, e3, e4, e5⟩ := (HS1.out.2.ext hq.out.1).sixT
  by_cases hlt : k < nl
  ·
   obtain ⟨x, hx⟩ := get_some (l := d.list) (i := k) (by have := HNL.out; omega)
   obtain ⟨y, hy⟩ := get_some (l := e.list) (i := k) (by have := HN2.out; omega)
   have hbw := S1.out.below.trans (hq.out.1.mono S1.out.below.size)
   obtain ⟨ab, ao, hda, v0, v1, v2, v3, v4, v5⟩ := val_at (HD.out.ext hbw).row hx
   obtain ⟨bb, bo, hdb, u0, u1, u2, u3, u4, u5⟩ := val_at (HE.out.ext hbw).row hy
   rw [← HEA.out] at hda
   rw [← HEB.out] at hdb
   subst hda hdb
   have HCX : Hid (∀ W, Below wr.heap.size wr W → Calls Tryz.prog 11 #[.agg #[.int .i64 x.sort, .bool x.on, .int .i64 x.n, .string ⟨x.text.toArray⟩, .slice x.a x.list.length x.c, .slice x.ka x.keys.length x.kc], .agg #[.int .i64 y.sort, .bool y.on, .int .i64 y.n, .string ⟨y.text.toArray⟩, .slice y.a y.list.length y.c, .slice y.ka y.keys.length y.kc]] W (Ret W (IsB (x.v = y.v)))) := Lib.hid fun W hW => by
    have := HC.out W k x y (hbw.trans (hW.mono hbw.size)) hx hy
    rwa [VD.val6, VD.val6] at this
   have Hx := Lib.hid hx
   have Hy := Lib.hid hy
   have HS : Hid (∀ w', Below wr.heap.size wr w' → w'.cell? ⟨w.heap.size, 4, none⟩ = some (.slice (some ⟨ab, ao, none⟩) nl d.c) ∧ w'.cell? ⟨w.heap.size + 1, 4, none⟩ = some (.slice (some ⟨bb, bo, none⟩) nl e.c) ∧ (w'.cell? ⟨ab, ao + k * 6, none⟩ = some (.int .i64 x.sort) ∧ w'.cell? ⟨ab, ao + k * 6 + 1, none⟩ = some (.bool x.on) ∧ w'.cell? ⟨ab, ao + k * 6 + 2, none⟩ = some (.int .i64 x.n) ∧ w'.cell? ⟨ab, ao + k * 6 + 3, none⟩ = some (.string ⟨x.text.toArray⟩) ∧ w'.cell? ⟨ab, ao + k * 6 + 4, none⟩ = some (.slice x.a x.list.length x.c) ∧ w'.cell? ⟨ab, ao + k * 6 + 5, none⟩ = some (.slice x.ka x.keys.length x.kc)) ∧ (w'.cell? ⟨bb, bo + k * 6, none⟩ = some (.int .i64 y.sort) ∧ w'.cell? ⟨bb, bo + k * 6 + 1, none⟩ = some (.bool y.on) ∧ w'.cell? ⟨bb, bo + k * 6 + 2, none⟩ = some (.int .i64 y.n) ∧ w'.cell? ⟨bb, bo + k * 6 + 3, none⟩ = some (.string ⟨y.text.toArray⟩) ∧ w'.cell? ⟨bb, bo + k * 6 + 4, none⟩ = some (.slice y.a y.list.length y.c) ∧ w'.cell? ⟨bb, bo + k * 6 + 5, none⟩ = some (.slice y.ka y.keys.length y.kc))) := Lib.hid fun w' hW => ⟨below_ext hW c4, below_ext hW e4, val_cells hW v0 v1 v2 v3 v4 v5, val_cells hW u0 u1 u2 u3 u4 u5⟩
   have hkl : (k : Int) < nl := by omega
   clear hx hy hbw v0 v1 v2 v3 v4 v5 u0 u1 u2 u3 u4 u5
   go_upto_region 7 with (fail)
   refine wp_region_held_drew (S := fun w' => w'.cell? ⟨w.heap.size, 4, none⟩ = some (.slice (some ⟨ab, ao, none⟩) nl d.c) ∧ w'.cell? ⟨w.heap.size + 1, 4, none⟩ = some (.slice (some ⟨bb, bo, none⟩) nl e.c) ∧ (w'.cell? ⟨ab, ao + k * 6, none⟩ = some (.int .i64 x.sort) ∧ w'.cell? ⟨ab, ao + k * 6 + 1, none⟩ = some (.bool x.on) ∧ w'.cell? ⟨ab, ao + k * 6 + 2, none⟩ = some (.int .i64 x.n) ∧ w'.cell? ⟨ab, ao + k * 6 + 3, none⟩ = some (.string ⟨x.text.toArray⟩) ∧ w'.cell? ⟨ab, ao + k * 6 + 4, none⟩ = some (.slice x.a x.list.length x.c) ∧ w'.cell? ⟨ab, ao + k * 6 + 5, none⟩ = some (.slice x.ka x.keys.length x.kc)) ∧ (w'.cell? ⟨bb, bo + k * 6, none⟩ = some (.int .i64 y.sort) ∧ w'.cell? ⟨bb, bo + k * 6 + 1, none⟩ = some (.bool y.on) ∧ w'.cell? ⟨bb, bo + k * 6 + 2, none⟩ = some (.int .i64 y.n) ∧ w'.cell? ⟨bb, bo + k * 6 + 3, none⟩ = some (.string ⟨y.text.toArray⟩) ∧ w'.cell? ⟨bb, bo + k * 6 + 4, none⟩ = some (.slice y.a y.list.length y.c) ∧ w'.cell? ⟨bb, bo + k * 6 + 5, none⟩ = some (.slice y.ka y.keys.length y.kc))) (by kernel_rfl) ?_ (fun hHeld => ?_)
   ·
    exact HS.out _ (Below.refl _ _).drew
   refine wpAnyH_take (i := 0) (oi := ⟨some 59, _, _, _, _, _⟩) (v := ?_) rfl (by kernel_rfl) (by kernel_rfl) (by kernel_rfl) (fun _ _ _ h => h) (Or.inl ⟨by rfl, ?_⟩) (by assumption) ?_; rotate_left; focus (intro w hSw; (try dsimp only at hSw); first | (go_simp; done) | (go_simp; with_reducible rfl))
   try simp only [Act.put, List.setIfInBounds_toArray, List.set_cons_succ, List.set_cons_zero]
   refine wpAnyH_take (i := 1) (oi := ⟨some 60, _, _, _, _, _⟩) (v := ?_) rfl (by kernel_rfl) (by kernel_rfl) (by kernel_rfl) (fun _ _ _ h => h) (Or.inl ⟨by rfl, ?_⟩) (by assumption) ?_; rotate_left; focus (intro w hSw; (try dsimp only at hSw); obtain ⟨q4, r4, ⟨a0, a1, a2, a3, a4, a5⟩, b0, b1, b2, b3, b4, b5⟩ := hSw; first | (go_simp; done) | (go_simp; with_reducible rfl))
   try simp only [Act.put, List.setIfInBounds_toArray, List.set_cons_succ, List.set_cons_zero]
   refine wpAnyH_take (i := 2) (oi := ⟨some 61, _, _, _, _, _⟩) (v := ?_) rfl (by kernel_rfl) (by kernel_rfl) (by kernel_rfl) (fun _ _ _ h => h) (Or.inl ⟨by rfl, ?_⟩) (by assumption) ?_; rotate_left; focus (intro w hSw; (try dsimp only at hSw); first | (go_simp; done) | (go_simp; with_reducible rfl))
   try simp only [Act.put, List.setIfInBounds_toArray, List.set_cons_succ, List.set_cons_zero]
   refine wpAnyH_take (i := 3) (oi := ⟨some 62, _, _, _, _, _⟩) (v := ?_) rfl (by kernel_rfl) (by kernel_rfl) (by kernel_rfl) (fun _ _ _ h => h) (Or.inl ⟨by rfl, ?_⟩) (by assumption) ?_; rotate_left; focus (intro w hSw; (try dsimp only at hSw); first | (go_simp; done) | (go_simp; with_reducible rfl))
   try simp only [Act.put, List.setIfInBounds_toArray, List.set_cons_succ, List.set_cons_zero]
   refine wpAnyH_take (i := 4) (oi := ⟨some 63, _, _, _, _, _⟩) (v := ?_) rfl (by kernel_rfl) (by kernel_rfl) (by kernel_rfl) (fun _ _ _ h => h) (Or.inl ⟨by rfl, ?_⟩) (by assumption) ?_; rotate_left; focus (intro w hSw; (try dsimp only at hSw); obtain ⟨q4, r4, ⟨a0, a1, a2, a3, a4, a5⟩, b0, b1, b2, b3, b4, b5⟩ := hSw; first | (go_simp; done) | (go_simp; with_reducible rfl))
   try simp only [Act.put, List.setIfInBounds_toArray, List.set_cons_succ, List.set_cons_zero]
   refine wpAnyH_take (i := 5) (oi := ⟨some 64, _, _, _, _, _⟩) (v := ?_) rfl (by kernel_rfl) (by kernel_rfl) (by kernel_rfl) (fun _ _ _ h => h) (Or.inl ⟨by rfl, ?_⟩) (by assumption) ?_; rotate_left; focus (intro w hSw; (try dsimp only at hSw); first | (go_simp; done) | (go_simp; with_reducible rfl))
   try simp only [Act.put, List.setIfInBounds_toArray, List.set_cons_succ, List.set_cons_zero]
   refine wpAnyH_take (i := 6) (oi := ⟨some 65, _, _, _, _, _⟩) (v := ?_) rfl (by kernel_rfl) (by kernel_rfl) (by kernel_rfl) (fun _ _ _ h => h) (Or.inl ⟨by rfl, ?_⟩) (by assumption) ?_; rotate_left; focus (intro w hSw; (try dsimp only at hSw); obtain ⟨q4, r4, ⟨a0, a1, a2, a3, a4, a5⟩, b0, b1, b2, b3, b4, b5⟩ := hSw; first | (go_simp; done) | (go_simp; with_reducible rfl))
   try simp only [Act.put, List.setIfInBounds_toArray, List.set_cons_succ, List.set_cons_zero]
   refine wpAnyH_take (i := 7) (oi := ⟨some 66, _, _, _, _, _⟩) (v := ?_) rfl (by kernel_rfl) (by kernel_rfl) (by kernel_rfl) (fun _ _ _ h => h) (Or.inl ⟨by rfl, ?_⟩) (by assumption) ?_; rotate_left; focus (intro w hSw; (try dsimp only at hSw); first | (go_simp; done) | (go_simp; with_reducible rfl))
   try simp only [Act.put, List.setIfInBounds_toArray, List.set_cons_succ, List.set_cons_zero]
   refine wpAnyH_take (i := 8) (oi := ⟨some 67, _, _, _, _, _⟩) (v := ?_) rfl (by kernel_rfl) (by kernel_rfl) (by kernel_rfl) (fun _ _ _ h => h) (Or.inl ⟨by rfl, ?_⟩) (by assumption) ?_; rotate_left; focus (intro w hSw; (try dsimp only at hSw); first | (go_simp; done) | (go_simp; with_reducible rfl))
   try simp only [Act.put, List.setIfInBounds_toArray, List.set_cons_succ, List.set_cons_zero]
   refine wpAnyH_take (i := 9) (oi := ⟨some 68, _, _, _, _, _⟩) (v := ?_) rfl (by kernel_rfl) (by kernel_rfl) (by kernel_rfl) (fun _ _ _ h => h) (Or.inl ⟨by rfl, ?_⟩) (by assumption) ?_; rotate_left; focus (intro w hSw; (try dsimp only at hSw); obtain ⟨q4, r4, ⟨a0, a1, a2, a3, a4, a5⟩, b0, b1, b2, b3, b4, b5⟩ := hSw; first | (go_simp; done) | (go_simp; with_reducible rfl))
   try simp only [Act.put, List.setIfInBounds_toArray, List.set_cons_succ, List.set_cons_zero]
   refine wpAnyH_ready (rs := [10]) (by kernel_rfl) (by simp) ?_
   refine AllReadyH.cons (i := 10) (o := ⟨some 69, _, _, _, _, _⟩) rfl (fun K hK => ?_) ?_
   ·
    go_simp
    refine (HCX.out _ (Below.refl _ _).drew).mono ?_
    rintro r W2 ⟨v, rfl, hb2, bq, rfl, hbo⟩
    have HB2 : Hid (Below wr.heap.size wr W2) := Lib.hid ((Below.refl _ _).drew.trans hb2)
    have HQ2 := Lib.hid (hq.out.1.trans (HB2.out.mono hq.out.1.size))
    have HBO := Lib.hid hbo
    clear hb2 hbo
    refine hK.out _ _ ?_ (fun hHeld => ?_)
    ·
     exact HS.out _ HB2.out
    try simp only [Act.put, List.setIfInBounds_toArray, List.set_cons_succ, List.set_cons_zero]
    refine wpAnyH_take (i := 11) (oi := ⟨some 7, _, _, _, _, _⟩) (v := ?_) rfl (by kernel_rfl) (by kernel_rfl) (by kernel_rfl) (fun _ _ _ h => h) (Or.inl ⟨by rfl, ?_⟩) (by assumption) ?_; rotate_left; focus (intro w hSw; (try dsimp only at hSw); first | (go_simp; done) | (go_simp; with_reducible rfl))
    try simp only [Act.put, List.setIfInBounds_toArray, List.set_cons_succ, List.set_cons_zero]
    refine wpAnyH_done (by kernel_rfl) ?_ _
    clear hHeld
    cases bq with
    | true =>
     have Hxy : Hid (x.v = y.v) := Lib.hid (HBO.out.1 rfl)
     go_wp2
     go_roundw
     case rel =>
      refine ⟨k + 1, by omega, by go_num, Lib.hid ⟨HQ2.out, fun j hj => ?_⟩⟩
      rcases Nat.lt_or_ge j k with h | h
      ·
       exact hq.out.2 j h
      ·
       obtain rfl : j = k := by omega
       rw [List.getElem?_map, List.getElem?_map, Hx.out, Hy.out, Option.map_some, Option.map_some, Hxy.out]
     case measure => simp [intOf]; omega
    | false =>
     have Hxy : Hid (x.v ≠ y.v) := Lib.hid (fun h => by have := HBO.out.2 h; cases this)
     go_wp2
     go_ret
     exact ⟨_, rfl, S1.out.below.trans (HQ2.out.mono S1.out.below.size), isB_false fun h => Hxy.out (by
      have h2 := congrArg (fun z => z[k]?) (HP.out.1 h)
      simp only [List.getElem?_map, Hx.out, Hy.out, Option.map_some] at h2
      exact Option.some.inj h2)⟩
   exact AllReadyH.nil
  ·
   obtain rfl : k = nl := by omega
   have HF : Hid P := Lib.hid (HP.out.2 (List.ext_getElem? fun i => by rcases Nat.lt_or_ge i k with h | h; exact hq.out.2 i h; rw [List.getElem?_eq_none (by rw [List.length_map]; have := HNL.out; omega), List.getElem?_eq_none (by rw [List.length_map]; have := HN2.out; omega)]))
   go_wp2
   go_ret
   exact ⟨_, rfl, S1.out.below.trans (hq.out.1.mono S1.out.below.size), isB_true HF.out⟩
theorem sameR_any : ∀ (d e : VD) (w : World), ValAt w (fun _ => True) d → ValAt w (fun _ => True) e → sizeV d.v ≤ 1048576 → Calls Tryz.prog 11 #[d.val, e.val] w (Ret w (IsB (d.v = e.v))) := by
  intro d
  induction d using VD.ind with
  | h s o n t a c l ka kc ks ih =>
    intro e w hd he hs
    refine sameR_walk _ e w hd he hs fun W j x y hb hx hy => ?_
    have hxm : x ∈ l := List.mem_of_getElem? hx
    have hsz := (size_parts (by rw [VD.v_eq] at hs; exact hs)).2.2.2.2
    exact ih x hxm y W ((hd.kid x hxm).ext hb) ((he.kid y (List.mem_of_getElem? hy)).ext hb) (hsz x.v (List.mem_map_of_mem hxm))
end Go.Proofs.YthnbeebilomchaaGreatDoor

namespace Go.Proofs.YthnbeebilomchaaGreatDoor
open Go Go.RowKit

structure GBR (w W : World) (e : VD) : Prop where
  val : Blk W w.heap.size #[.int .i64 e.sort, .bool e.on, .int .i64 e.n, .string ⟨e.text.toArray⟩, .slice e.a e.list.length e.c, .slice e.ka e.keys.length e.kc] 26
  res : Blk W (w.heap.size + 1) #[.int .i64 0, .bool false, .int .i64 0, .string { data := #[] }, .slice none 0 0, .slice none 0 0] 26
  below : Below w.heap.size w W
theorem GBR.ext {w W W' : World} {e : VD} (h : GBR w W e) (hb : Below W.heap.size W W') : GBR w W' e := ⟨h.val.ext hb, h.res.ext hb, h.below.trans (hb.mono h.below.size)⟩
def Fnd (ks : List Nm) (x : Nm) (q : Nat) (at' : Int) : Prop := (at' = -1 ∧ ∀ j, j < q → ks[j]? ≠ some x) ∨ (∃ j : Nat, j < q ∧ at' = (j : Int) ∧ ks[j]? = some x ∧ ∀ i, i < j → ks[i]? ≠ some x)
theorem Fnd.zero (ks : List Nm) (x : Nm) : Fnd ks x 0 (-1) := .inl ⟨rfl, fun _ h => by omega⟩
theorem Fnd.skip {ks : List Nm} {x : Nm} {q : Nat} {a : Int} (h : Fnd ks x q a) (hn : ks[q]? ≠ some x) : Fnd ks x (q + 1) a := by
  rcases h with ⟨h1, h2⟩ | ⟨j, h1, h2⟩
  · exact .inl ⟨h1, fun j hj => by rcases Nat.lt_or_ge j q with h | h; exact h2 j h; obtain rfl : j = q := by omega
                                   exact hn⟩
  · exact .inr ⟨j, by omega, h2⟩
theorem Fnd.keep {ks : List Nm} {x : Nm} {q : Nat} {a : Int} (h : Fnd ks x q a) (hn : ¬ a < 0) : Fnd ks x (q + 1) a := by
  rcases h with ⟨h1, h2⟩ | ⟨j, h1, h2⟩
  · omega
  · exact .inr ⟨j, by omega, h2⟩
theorem Fnd.hit {ks : List Nm} {x : Nm} {q : Nat} {a : Int} (h : Fnd ks x q a) (hn : ks[q]? = some x) (ha : a < 0) : Fnd ks x (q + 1) (q : Int) := by
  rcases h with ⟨h1, h2⟩ | ⟨j, h1, h2, h3⟩
  · exact .inr ⟨q, by omega, rfl, hn, h2⟩
  · omega
theorem stepV_eq (e : VD) (x : Nm) : stepV e.v x = if e.sort = 5 then (indexK x e.keys).bind fun i => (e.list.map VD.v)[i]? else none := by unfold stepV; rw [VD.v_eq]; rfl
theorem Fnd.none {e : VD} {x : Nm} {q : Nat} {a : Int} (h : Fnd e.keys x q a) (ha : a < 0) (hq : e.sort ≠ 5 ∨ e.keys.length ≤ q ∨ e.list.length ≤ q) : stepV e.v x = none := by
  rw [stepV_eq]
  by_cases h5 : e.sort = 5
  · rw [if_pos h5]
    rcases h with ⟨-, h2⟩ | ⟨j, -, h2, -⟩
    · cases hi : indexK x e.keys with
      | none => rfl
      | some i =>
        obtain ⟨h3, -⟩ := indexK_some hi
        have h4 := get_lt h3
        rw [Option.bind_some]
        rcases hq with hq | hq | hq
        · exact absurd h5 hq
        · exact absurd h3 (h2 i (by omega))
        · rw [List.getElem?_eq_none]
          rw [List.length_map]
          rcases Nat.lt_or_ge i q with h | h
          · exact absurd h3 (h2 i h)
          · omega
    · omega
  · rw [if_neg h5]
theorem Fnd.some {e : VD} {x : Nm} {q : Nat} {a : Int} (h : Fnd e.keys x q a) (ha : ¬ a < 0) (h5 : e.sort = 5) (hq : q ≤ e.list.length) : ∃ (j : Nat) (y : VD), a = (j : Int) ∧ e.list[j]? = some y ∧ stepV e.v x = some y.v := by
  rw [stepV_eq, if_pos h5]
  rcases h with ⟨h1, h2⟩ | ⟨j, h1, h2, h3, h4⟩
  · omega
  · rw [indexK_first h3 h4, Option.bind_some]
    obtain ⟨y, hy⟩ := get_some (l := e.list) (i := j) (by omega)
    exact ⟨j, y, h2, hy, by rw [List.getElem?_map, hy]; rfl⟩
theorem store6T {w : World} {g : Nat} {v0 v1 v2 v3 v4 v5 u0 u1 u2 u3 u4 u5 : Value} {T : TypeId} (h : Blk w g #[v0, v1, v2, v3, v4, v5] T) : Blk (put6 w g 0 u0 u1 u2 u3 u4 u5) g #[u0, u1, u2, u3, u4, u5] T := by
  simpa [put6] using store6 (u0 := u0) (u1 := u1) (u2 := u2) (u3 := u3) (u4 := u4) (u5 := u5) h
theorem getR_end {W : World} {tm : Array Value} {R : Ending → World → Prop} {g : Nat} {u0 u1 u2 u3 u4 u5 : Value} {k : Bool} (h2 : tm.getD 4 undef = .pointer (some ⟨g, 0, none⟩)) (h3 : tm.getD 5 undef = .bool k) (hB : Blk W g #[u0, u1, u2, u3, u4, u5] 26)
    (hR : R (.returned (.tuple #[.agg #[u0, u1, u2, u3, u4, u5], .bool k])) W) : bodyPost Tryz.prog Tryz.f60 R .ret { tmps := tm, defers := [] } W := by
  have d0 := hB.cell 0
  have d1 := hB.cell 1
  have d2 := hB.cell 2
  have d3 := hB.cell 3
  have d4 := hB.cell 4
  have d5 := hB.cell 5
  simp only [List.getElem?_toArray, List.getElem?_cons_zero, List.getElem?_cons_succ] at d0 d1 d2 d3 d4 d5
  rw [Array.getD_eq_getD_getElem?] at h2 h3
  refine bodyPost_ret (v := .tuple #[.agg #[u0, u1, u2, u3, u4, u5], .bool k]) ?_ rfl hR
  simp [results, Tryz.results60, go_sem, h2, h3, d0, d1, d2, d3, d4, d5]

set_option maxHeartbeats 8000000 in
theorem getR_anyP (P : Nat → Prop) (d : VD) (pa : Option Addr) (pc : Nat) (p : List Nm) (w : World) (hv : ValAt w P d) (hp : Row w 1 pa p.length (p.map strV)) (hl : p.length ≤ 1048576) (hs : sizeV d.v ≤ 1048576) :
  Calls Tryz.prog 60 #[d.val, .slice pa p.length pc] w (GetP w P (getV d.v p)) := by
 obtain ⟨W0, hW0⟩ : ∃ W0, W0 = (w.alloc (.cells #[.int .i64 d.sort, .bool d.on, .int .i64 d.n, .string ⟨d.text.toArray⟩, .slice d.a d.list.length d.c, .slice d.ka d.keys.length d.kc] 26)).alloc (.cells #[.int .i64 0, .bool false, .int .i64 0, .string { data := #[] }, .slice none 0 0, .slice none 0 0] 26) := ⟨_, rfl⟩
 have G0 : Hid (GBR w W0 d) := Lib.hid (by rw [hW0]; exact ⟨(Blk.new rfl).alloc _, Blk.new (by simp), (below_a1 w _).alloc (by simp) _⟩)
 have HV := Lib.hid hv
 have HP := Lib.hid hp
 have HS := Lib.hid hs
 rw [VD.val6]
 obtain ⟨res, hres⟩ : ∃ r, r = getV d.v p := ⟨_, rfl⟩
 rw [← hres]
 have HRES := Lib.hid hres
 clear hv hp hs hres
 go_enter Tryz.func60, Tryz.ntmps60
 go_upto_region 1 with (fail)
 rw [← hW0]
 clear hW0
 go_wp2_with fail
 go_loopw [6, 7, 8] (fun i _ _ wr => ∃ (k : Nat) (e : VD), k ≤ p.length ∧ i = .int .i64 k ∧ Hid (GBR w wr e) ∧ Hid (ValAt w P e ∧ sizeV e.v ≤ 1048576) ∧ Hid (res = getV e.v (p.drop k))) (fun i _ _ _ => p.length - (intOf i).toNat)
 case atStart => exact ⟨0, d, Nat.zero_le _, rfl, G0, Lib.hid ⟨HV.out, HS.out⟩, HRES⟩
 case round =>
  obtain ⟨k, e, hk, rfl, hg, hve, hr⟩ := hrel
  by_cases hlt : k < p.length
  ·
   obtain ⟨x, hx⟩ := get_some hlt
   have hgs := getV_step e.v p hx
   have Hgs := Lib.hid hgs
   have HX := Lib.hid hx
   have hkl : (k : Int) < p.length := by omega
   have hsz : sizeV (.mk e.sort e.on e.n e.text (e.list.map VD.v) e.keys) ≤ 1048576 := by rw [← VD.v_eq]; exact hve.out.2
   obtain ⟨-, s2, s3, -, s5⟩ := size_parts hsz
   rw [List.length_map] at s3
   have S5 := Lib.hid s5
   clear hx hgs s5 hsz
   go_wp2_with fail
   go_loopw [7, 8] (fun t i wr' => ∃ (q : Nat) (a : Int), q ≤ e.list.length ∧ q ≤ e.keys.length ∧ i = .int .i64 q ∧ t = .int .i64 a ∧ (-1 ≤ a ∧ a ≤ 1048576) ∧ Hid (q = 0 ∨ e.sort = 5) ∧ Hid (Fnd e.keys x q a) ∧ Hid (Below wr.heap.size wr wr')) (fun _ i _ => e.keys.length - (intOf i).toNat)
   case atStart => exact ⟨0, -1, Nat.zero_le _, Nat.zero_le _, rfl, rfl, by omega, Lib.hid (.inl rfl), Lib.hid (Fnd.zero _ _), Lib.hid (Below.refl _ _)⟩
   case round =>
    obtain ⟨q, a, hql, hqk, rfl, rfl, ha, HQ5, HFN, hb⟩ := hrel
    have G2 := Lib.hid (hg.out.ext hb.out)
    obtain ⟨c0, c1, c2, c3, c4, c5⟩ := G2.out.val.sixT
    obtain ⟨ha1, ha2⟩ := ha
    by_cases hk1 : q < e.keys.length
    ·
     by_cases hl1 : q < e.list.length
     ·
      by_cases h5 : e.sort = 5
      ·
       have h5' : (e.sort == 5) = true := by simpa using h5
       obtain ⟨y, hy⟩ := get_some hk1
       have HY := Lib.hid hy
       have hyv := (hve.out.1.ext G2.out.below).krow.elem1 hy
       obtain ⟨kb, koff, hka, y0⟩ := hyv
       unfold strV at y0
       have hpv := (HP.out.ext G2.out.below).elem1 HX.out
       obtain ⟨pb, po, hpa, x0⟩ := hpv
       unfold strV at x0
       subst hpa
       rw [hka] at c5
       have H5 := Lib.hid h5
       clear hy hka h5
       have hk1' : (q : Int) < e.keys.length := by omega
       have hl1' : (q : Int) < e.list.length := by omega
       by_cases hxy : y = x
       ·
        have hxy' : (y == x) = true := by simpa using hxy
        have HXY : Hid (e.keys[q]? = some x) := Lib.hid (by rw [HY.out, hxy])
        clear hxy
        by_cases ha0 : a < 0
        ·
         have HA0 := Lib.hid ha0
         go_wp2_with fail
         go_quiet (fail)
         go_wp2
         go_roundw
         case rel => exact ⟨q + 1, (q : Int), by omega, by omega, by go_num, rfl, by omega, Lib.hid (.inr H5.out), Lib.hid (HFN.out.hit HXY.out (by have := HA0.out; omega)), Lib.hid (below_drew hb.out _)⟩
         case measure => simp [intOf]; omega
        ·
         have HA0 := Lib.hid ha0
         go_wp2_with fail
         go_quiet (fail)
         go_wp2
         go_roundw
         case rel => exact ⟨q + 1, a, by omega, by omega, by go_num, rfl, by omega, Lib.hid (.inr H5.out), Lib.hid (HFN.out.keep (by have := HA0.out; omega)), Lib.hid (below_drew hb.out _)⟩
         case measure => simp [intOf]; omega
       ·
        have hxy' : (y == x) = false := by simpa using hxy
        have HXY : Hid (e.keys[q]? ≠ some x) := Lib.hid (by rw [HY.out]; intro h; exact hxy (Option.some.inj h))
        clear hxy
        go_wp2_with fail
        go_quiet (fail)
        go_wp2
        go_roundw
        case rel => exact ⟨q + 1, a, by omega, by omega, by go_num, rfl, by omega, Lib.hid (.inr H5.out), Lib.hid (HFN.out.skip HXY.out), Lib.hid (below_drew hb.out _)⟩
        case measure => simp [intOf]; omega
      ·
       have h5' : (e.sort == 5) = false := by simpa using h5
       have HNONE : Hid (∀ h : a < 0, stepV e.v x = none) := Lib.hid fun h => HFN.out.none h (.inl h5)
       have hq0 : q = 0 := by rcases HQ5.out with h | h; exact h; exact absurd h h5
       have ha0 : a < 0 := by
        rcases HFN.out with ⟨h, -⟩ | ⟨j, h, -⟩
        ·
         omega
        ·
         omega
       have hk1' : (q : Int) < e.keys.length := by omega
       have hl1' : (q : Int) < e.list.length := by omega
       have HQ0 := Lib.hid hq0
       clear hq0 h5
       have f0 := G2.out.val.free 0
       have f1 := G2.out.val.free 1
       have f2 := G2.out.val.free 2
       have f3 := G2.out.val.free 3
       have f4 := G2.out.val.free 4
       have f5 := G2.out.val.free 5
       obtain ⟨q0, q1, q2, q3, q4, q5⟩ := G2.out.res.sixT
       have g0 := G2.out.res.free 0
       have g1 := G2.out.res.free 1
       have g2 := G2.out.res.free 2
       have g3 := G2.out.res.free 3
       have g4 := G2.out.res.free 4
       have g5 := G2.out.res.free 5
       have Hno : Hid (res = none) := Lib.hid (by rw [hr.out, Hgs.out, HNONE.out ha0])
       go_wp2
       refine getR_end (g := w.heap.size + 1) rfl rfl (store6 G2.out.res) ?_
       exact getP_none Hno.out (put6_below (o := 0) G2.out.below (by omega))
     ·
      have hl1' : ¬ ((q : Int) < e.list.length) := by omega
      have hk1' : (q : Int) < e.keys.length := by omega
      by_cases ha0 : a < 0
      ·
       have HNONE : Hid (∀ h : a < 0, stepV e.v x = none) := Lib.hid fun h => HFN.out.none h (.inr (.inr (by omega)))
       have f0 := G2.out.val.free 0
       have f1 := G2.out.val.free 1
       have f2 := G2.out.val.free 2
       have f3 := G2.out.val.free 3
       have f4 := G2.out.val.free 4
       have f5 := G2.out.val.free 5
       obtain ⟨q0, q1, q2, q3, q4, q5⟩ := G2.out.res.sixT
       have g0 := G2.out.res.free 0
       have g1 := G2.out.res.free 1
       have g2 := G2.out.res.free 2
       have g3 := G2.out.res.free 3
       have g4 := G2.out.res.free 4
       have g5 := G2.out.res.free 5
       have Hno : Hid (res = none) := Lib.hid (by rw [hr.out, Hgs.out, HNONE.out ha0])
       go_wp2
       refine getR_end (g := w.heap.size + 1) rfl rfl (store6 G2.out.res) ?_
       exact getP_none Hno.out (put6_below (o := 0) G2.out.below (by omega))
      ·
       have h5 : e.sort = 5 := by
        rcases HQ5.out with h | h
        ·
         rcases HFN.out with ⟨h2, -⟩ | ⟨j, h2, -⟩ <;> omega
        ·
         exact h
       obtain ⟨j, y, rfl, hy, hsv⟩ := HFN.out.some ha0 h5 hql
       have hjl : j < e.list.length := (List.getElem?_eq_some_iff.1 hy).1
       have hji : (j : Int) < e.list.length := by omega
       have hj0 : ¬ ((j : Int) < 0) := by omega
       obtain ⟨b, off, hea, v0, v1, v2, v3, v4, v5⟩ := val_at (hve.out.1.ext G2.out.below).row hy
       unfold strV at v3
       rw [hea] at c4
       have hym : y ∈ e.list := List.mem_of_getElem? hy
       have Hy : Hid (ValAt w P y ∧ sizeV y.v ≤ 1048576) := Lib.hid ⟨hve.out.1.kid y hym, S5.out _ (List.mem_map_of_mem hym)⟩
       have Hr : Hid (res = getV y.v (p.drop (k + 1))) := Lib.hid (by rw [hr.out, Hgs.out, hsv])
       have H5 := Lib.hid h5
       clear hy hsv h5 hea hym
       have f0 := G2.out.val.free 0
       have f1 := G2.out.val.free 1
       have f2 := G2.out.val.free 2
       have f3 := G2.out.val.free 3
       have f4 := G2.out.val.free 4
       have f5 := G2.out.val.free 5
       obtain ⟨q0, q1, q2, q3, q4, q5⟩ := G2.out.res.sixT
       have g0 := G2.out.res.free 0
       have g1 := G2.out.res.free 1
       have g2 := G2.out.res.free 2
       have g3 := G2.out.res.free 3
       have g4 := G2.out.res.free 4
       have g5 := G2.out.res.free 5
       go_upto_region 3 with (fail)
       have hg3 : GBR w (put6 wr w.heap.size 0 (.int .i64 y.sort) (.bool y.on) (.int .i64 y.n) (.string ⟨y.text.toArray⟩) (.slice y.a y.list.length y.c) (.slice y.ka y.keys.length y.kc)) y :=
        ⟨store6T G2.out.val, G2.out.res.other6 (by omega), put6_below (o := 0) G2.out.below (Nat.le_refl _)⟩
       obtain ⟨W3, hW3⟩ : ∃ W3, W3 = put6 wr w.heap.size 0 (.int .i64 y.sort) (.bool y.on) (.int .i64 y.n) (.string ⟨y.text.toArray⟩) (.slice y.a y.list.length y.c) (.slice y.ka y.keys.length y.kc) := ⟨_, rfl⟩
       rw [← hW3] at hg3
       have G3 := Lib.hid hg3
       unfold put6 at hW3
       simp only [Nat.zero_add] at hW3
       rw [← hW3]
       clear hg3 hW3 c0 c1 c2 c3 c4 c5 f0 f1 f2 f3 f4 f5 q0 q1 q2 q3 q4 q5 g0 g1 g2 g3 g4 g5 v0 v1 v2 v3 v4 v5
       go_wp2
       go_roundw
       case rel => exact ⟨k + 1, y, by omega, by go_num, G3, Hy, Hr⟩
       case measure => simp [intOf]; omega
    ·
     have hk1' : ¬ ((q : Int) < e.keys.length) := by omega
     by_cases ha0 : a < 0
     ·
      have HNONE : Hid (∀ h : a < 0, stepV e.v x = none) := Lib.hid fun h => HFN.out.none h (.inr (.inl (by omega)))
      have f0 := G2.out.val.free 0
      have f1 := G2.out.val.free 1
      have f2 := G2.out.val.free 2
      have f3 := G2.out.val.free 3
      have f4 := G2.out.val.free 4
      have f5 := G2.out.val.free 5
      obtain ⟨q0, q1, q2, q3, q4, q5⟩ := G2.out.res.sixT
      have g0 := G2.out.res.free 0
      have g1 := G2.out.res.free 1
      have g2 := G2.out.res.free 2
      have g3 := G2.out.res.free 3
      have g4 := G2.out.res.free 4
      have g5 := G2.out.res.free 5
      have Hno : Hid (res = none) := Lib.hid (by rw [hr.out, Hgs.out, HNONE.out ha0])
      go_wp2
      refine getR_end (g := w.heap.size + 1) rfl rfl (store6 G2.out.res) ?_
      exact getP_none Hno.out (put6_below (o := 0) G2.out.below (by omega))
     ·
      have h5 : e.sort = 5 := by
       rcases HQ5.out with h | h
       ·
        rcases HFN.out with ⟨h2, -⟩ | ⟨j, h2, -⟩ <;> omega
       ·
        exact h
      obtain ⟨j, y, rfl, hy, hsv⟩ := HFN.out.some ha0 h5 hql
      have hjl : j < e.list.length := (List.getElem?_eq_some_iff.1 hy).1
      have hji : (j : Int) < e.list.length := by omega
      have hj0 : ¬ ((j : Int) < 0) := by omega
      obtain ⟨b, off, hea, v0, v1, v2, v3, v4, v5⟩ := val_at (hve.out.1.ext G2.out.below).row hy
      unfold strV at v3
      rw [hea] at c4
      have hym : y ∈ e.list := List.mem_of_getElem? hy
      have Hy : Hid (ValAt w P y ∧ sizeV y.v ≤ 1048576) := Lib.hid ⟨hve.out.1.kid y hym, S5.out _ (List.mem_map_of_mem hym)⟩
      have Hr : Hid (res = getV y.v (p.drop (k + 1))) := Lib.hid (by rw [hr.out, Hgs.out, hsv])
      have H5 := Lib.hid h5
      clear hy hsv h5 hea hym
      have f0 := G2.out.val.free 0
      have f1 := G2.out.val.free 1
      have f2 := G2.out.val.free 2
      have f3 := G2.out.val.free 3
      have f4 := G2.out.val.free 4
      have f5 := G2.out.val.free 5
      obtain ⟨q0, q1, q2, q3, q4, q5⟩ := G2.out.res.sixT
      have g0 := G2.out.res.free 0
      have g1 := G2.out.res.free 1
      have g2 := G2.out.res.free 2
      have g3 := G2.out.res.free 3
      have g4 := G2.out.res.free 4
      have g5 := G2.out.res.free 5
      go_upto_region 3 with (fail)
      have hg3 : GBR w (put6 wr w.heap.size 0 (.int .i64 y.sort) (.bool y.on) (.int .i64 y.n) (.string ⟨y.text.toArray⟩) (.slice y.a y.list.length y.c) (.slice y.ka y.keys.length y.kc)) y :=
       ⟨store6T G2.out.val, G2.out.res.other6 (by omega), put6_below (o := 0) G2.out.below (Nat.le_refl _)⟩
      obtain ⟨W3, hW3⟩ : ∃ W3, W3 = put6 wr w.heap.size 0 (.int .i64 y.sort) (.bool y.on) (.int .i64 y.n) (.string ⟨y.text.toArray⟩) (.slice y.a y.list.length y.c) (.slice y.ka y.keys.length y.kc) := ⟨_, rfl⟩
      rw [← hW3] at hg3
      have G3 := Lib.hid hg3
      unfold put6 at hW3
      simp only [Nat.zero_add] at hW3
      rw [← hW3]
      clear hg3 hW3 c0 c1 c2 c3 c4 c5 f0 f1 f2 f3 f4 f5 q0 q1 q2 q3 q4 q5 g0 g1 g2 g3 g4 g5 v0 v1 v2 v3 v4 v5
      go_wp2
      go_roundw
      case rel => exact ⟨k + 1, y, by omega, by go_num, G3, Hy, Hr⟩
      case measure => simp [intOf]; omega
  ·
   obtain rfl : k = p.length := by omega
   have G2 := hg
   obtain ⟨c0, c1, c2, c3, c4, c5⟩ := G2.out.val.sixT
   have f0 := G2.out.val.free 0
   have f1 := G2.out.val.free 1
   have f2 := G2.out.val.free 2
   have f3 := G2.out.val.free 3
   have f4 := G2.out.val.free 4
   have f5 := G2.out.val.free 5
   obtain ⟨q0, q1, q2, q3, q4, q5⟩ := G2.out.res.sixT
   have g0 := G2.out.res.free 0
   have g1 := G2.out.res.free 1
   have g2 := G2.out.res.free 2
   have g3 := G2.out.res.free 3
   have g4 := G2.out.res.free 4
   have g5 := G2.out.res.free 5
   have Hs : Hid (res = some e.v) := Lib.hid (by rw [hr.out, List.drop_length]; rfl)
   go_wp2
   refine getR_end (g := w.heap.size + 1) rfl rfl (store6 G2.out.res) ?_
   refine ⟨put6_below (o := 0) G2.out.below (by omega), ?_⟩
   rw [Hs.out]
   exact ⟨e, by rw [VD.val6], rfl, hve.out.1⟩
theorem getR_any (d : VD) (pa : Option Addr) (pc : Nat) (p : List Nm) (w : World) (hv : ValAt w (fun _ => True) d) (hp : Row w 1 pa p.length (p.map strV)) (hl : p.length ≤ 1048576) (hs : sizeV d.v ≤ 1048576) :
    Calls Tryz.prog 60 #[d.val, .slice pa p.length pc] w (GetE w (getV d.v p)) := getR_anyP _ d pa pc p w hv hp hl hs
end Go.Proofs.YthnbeebilomchaaGreatDoor

namespace Go.Proofs.YthnbeebilomchaaGreatDoor
open Go Go.RowKit

theorem get_u {w w' : World} {r : Option V} {e : Ending} (h : GetE w r e w') : ∃ (x : VD) (b : Bool), e = .returned (.tuple #[.agg #[.int .i64 x.sort, .bool x.on, .int .i64 x.n, .string ⟨x.text.toArray⟩, .slice x.a x.list.length x.c, .slice x.ka x.keys.length x.kc], .bool b]) ∧ x.v = r.getD V.null ∧ b = r.isSome ∧ ValAt w' (fun _ => True) x ∧ Below w.heap.size w w' := by
  cases r with
  | none => exact ⟨VD.mk 0 false 0 [] none 0 [] none 0 [], false, h.2, rfl, rfl, .leaf, h.1⟩
  | some v =>
    obtain ⟨hb, x, he, hv, ha⟩ := h
    rw [VD.val6] at he
    exact ⟨x, true, he, hv, rfl, ha.ext hb, hb⟩
theorem vd_text (x : VD) : x.v.text = x.text := by cases x; rfl
theorem vd_n (x : VD) : x.v.n = x.n := by cases x; rfl
theorem vd_sort (x : VD) : x.v.sort = x.sort := by cases x; rfl

set_option maxHeartbeats 4000000 in
theorem textW_any (d : VD) (pa : Option Addr) (pc : Nat) (p : List Nm) (w : World) (hv : ValAt w (fun _ => True) d) (hp : Row w 1 pa p.length (p.map strV)) (hl : p.length ≤ 1048576) (hs : sizeV d.v ≤ 1048576) :
  Calls Tryz.prog 59 #[d.val, .slice pa p.length pc] w (fun e w' => e = .returned (.tuple #[.string ⟨((getV d.v p).getD V.null).text.toArray⟩, .bool ((getV d.v p).isSome && ((getV d.v p).getD V.null).sort == 3)]) ∧ Below w.heap.size w w') := by
 have hb1 := below_a1 w (.cells #[.int .i64 d.sort, .bool d.on, .int .i64 d.n, .string ⟨d.text.toArray⟩, .slice d.a d.list.length d.c, .slice d.ka d.keys.length d.kc] 26)
 have h1 := getR_any d pa pc p _ (hv.ext hb1) (hp.ext hb1) hl hs
 rw [VD.val6] at h1 ⊢
 generalize getV d.v p = r at *
 obtain ⟨z, hz⟩ : ∃ z : Value, z = .string ⟨(r.getD V.null).text.toArray⟩ := ⟨_, rfl⟩
 obtain ⟨q, hq⟩ : ∃ q, q = (r.isSome && (r.getD V.null).sort == 3) := ⟨_, rfl⟩
 rw [← hz, ← hq]
 have HZ := Lib.hid hz
 have HQ := Lib.hid hq
 obtain ⟨W1, hW1⟩ : ∃ W1, W1 = w.alloc (.cells #[.int .i64 d.sort, .bool d.on, .int .i64 d.n, .string ⟨d.text.toArray⟩, .slice d.a d.list.length d.c, .slice d.ka d.keys.length d.kc] 26) := ⟨_, rfl⟩
 have HBL : Hid (Blk W1 w.heap.size #[.int .i64 d.sort, .bool d.on, .int .i64 d.n, .string ⟨d.text.toArray⟩, .slice d.a d.list.length d.c, .slice d.ka d.keys.length d.kc] 26) := Lib.hid (by rw [hW1]; exact Blk.new rfl)
 rw [← hW1] at h1 hb1
 have H1 := Lib.hid h1
 have HB1 := Lib.hid hb1
 clear h1 hb1 hv hp hs hz hq
 go_enter Tryz.func59, Tryz.ntmps59
 go_upto_region 1 with (fail)
 rw [← hW1]
 clear hW1
 obtain ⟨c0, c1, c2, c3, c4, c5⟩ := HBL.out.sixT
 go_wp2_with fail
 refine H1.out.mono ?_
 clear H1
 intro e W2 h2
 obtain ⟨x, b, rfl, hxv, hb, -, hb2⟩ := get_u h2
 have HZ2 : Hid (z = .string ⟨x.text.toArray⟩) := Lib.hid (by rw [HZ.out, ← hxv, vd_text])
 have HQ2 : Hid (q = (b && x.sort == 3)) := Lib.hid (by rw [HQ.out, ← hxv, ← hb, vd_sort])
 have HB2 := Lib.hid (HB1.out.trans (hb2.mono HB1.out.size))
 clear hxv hb h2 hb2 c0 c1 c2 c3 c4 c5 HZ HQ
 go_upto_region 2 with (fail)
 have HB3 : Hid (Below w.heap.size w (W2.alloc (.cells #[.int .i64 x.sort, .bool x.on, .int .i64 x.n, .string ⟨x.text.toArray⟩, .slice x.a x.list.length x.c, .slice x.ka x.keys.length x.kc] 26))) := Lib.hid (HB2.out.alloc HB2.out.size _)
 have HX : Hid (Blk (W2.alloc (.cells #[.int .i64 x.sort, .bool x.on, .int .i64 x.n, .string ⟨x.text.toArray⟩, .slice x.a x.list.length x.c, .slice x.ka x.keys.length x.kc] 26)) W2.heap.size #[.int .i64 x.sort, .bool x.on, .int .i64 x.n, .string ⟨x.text.toArray⟩, .slice x.a x.list.length x.c, .slice x.ka x.keys.length x.kc] 26) := Lib.hid (Blk.new rfl)
 obtain ⟨W3, hW3⟩ : ∃ W3, W3 = W2.alloc (.cells #[.int .i64 x.sort, .bool x.on, .int .i64 x.n, .string ⟨x.text.toArray⟩, .slice x.a x.list.length x.c, .slice x.ka x.keys.length x.kc] 26) := ⟨_, rfl⟩
 rw [← hW3] at HB3 HX ⊢
 clear hW3
 obtain ⟨c0, c1, c2, c3, c4, c5⟩ := HX.out.sixT
 cases b with
 | true =>
  by_cases h3 : x.sort = 3
  ·
   have e3 : (x.sort == 3) = true := by simpa using h3
   have HF : Hid (q = true) := Lib.hid (by rw [HQ2.out, e3]; rfl)
   clear h3
   go_quiet (fail)
   go_wp2
   exact bodyPost_ret (v := .tuple #[.string ⟨x.text.toArray⟩, .bool true]) (by simp [results, Tryz.results59, go_sem]) rfl ⟨by rw [HZ2.out, HF.out], below_drew HB3.out _⟩
  ·
   have e3 : (x.sort == 3) = false := by simpa using h3
   have HF : Hid (q = false) := Lib.hid (by rw [HQ2.out, e3]; rfl)
   clear h3
   go_quiet (fail)
   go_wp2
   exact bodyPost_ret (v := .tuple #[.string ⟨x.text.toArray⟩, .bool false]) (by simp [results, Tryz.results59, go_sem]) rfl ⟨by rw [HZ2.out, HF.out], below_drew HB3.out _⟩
 | false =>
  have HF : Hid (q = false) := Lib.hid (by rw [HQ2.out]; rfl)
  go_quiet (fail)
  go_wp2
  exact bodyPost_ret (v := .tuple #[.string ⟨x.text.toArray⟩, .bool false]) (by simp [results, Tryz.results59, go_sem]) rfl ⟨by rw [HZ2.out, HF.out], below_drew HB3.out _⟩

set_option maxHeartbeats 4000000 in
theorem numberW_any (d : VD) (pa : Option Addr) (pc : Nat) (p : List Nm) (w : World) (hv : ValAt w (fun _ => True) d) (hp : Row w 1 pa p.length (p.map strV)) (hl : p.length ≤ 1048576) (hs : sizeV d.v ≤ 1048576) :
  Calls Tryz.prog 80 #[d.val, .slice pa p.length pc] w (fun e w' => e = .returned (.tuple #[.int .i64 ((getV d.v p).getD V.null).n, .bool ((getV d.v p).isSome && ((getV d.v p).getD V.null).sort == 2)]) ∧ Below w.heap.size w w') := by
 have hb1 := below_a1 w (.cells #[.int .i64 d.sort, .bool d.on, .int .i64 d.n, .string ⟨d.text.toArray⟩, .slice d.a d.list.length d.c, .slice d.ka d.keys.length d.kc] 26)
 have h1 := getR_any d pa pc p _ (hv.ext hb1) (hp.ext hb1) hl hs
 rw [VD.val6] at h1 ⊢
 generalize getV d.v p = r at *
 obtain ⟨z, hz⟩ : ∃ z : Value, z = .int .i64 (r.getD V.null).n := ⟨_, rfl⟩
 obtain ⟨q, hq⟩ : ∃ q, q = (r.isSome && (r.getD V.null).sort == 2) := ⟨_, rfl⟩
 rw [← hz, ← hq]
 have HZ := Lib.hid hz
 have HQ := Lib.hid hq
 obtain ⟨W1, hW1⟩ : ∃ W1, W1 = w.alloc (.cells #[.int .i64 d.sort, .bool d.on, .int .i64 d.n, .string ⟨d.text.toArray⟩, .slice d.a d.list.length d.c, .slice d.ka d.keys.length d.kc] 26) := ⟨_, rfl⟩
 have HBL : Hid (Blk W1 w.heap.size #[.int .i64 d.sort, .bool d.on, .int .i64 d.n, .string ⟨d.text.toArray⟩, .slice d.a d.list.length d.c, .slice d.ka d.keys.length d.kc] 26) := Lib.hid (by rw [hW1]; exact Blk.new rfl)
 rw [← hW1] at h1 hb1
 have H1 := Lib.hid h1
 have HB1 := Lib.hid hb1
 clear h1 hb1 hv hp hs hz hq
 go_enter Tryz.func80, Tryz.ntmps80
 go_upto_region 1 with (fail)
 rw [← hW1]
 clear hW1
 obtain ⟨c0, c1, c2, c3, c4, c5⟩ := HBL.out.sixT
 go_wp2_with fail
 refine H1.out.mono ?_
 clear H1
 intro e W2 h2
 obtain ⟨x, b, rfl, hxv, hb, -, hb2⟩ := get_u h2
 have HZ2 : Hid (z = .int .i64 x.n) := Lib.hid (by rw [HZ.out, ← hxv, vd_n])
 have HQ2 : Hid (q = (b && x.sort == 2)) := Lib.hid (by rw [HQ.out, ← hxv, ← hb, vd_sort])
 have HB2 := Lib.hid (HB1.out.trans (hb2.mono HB1.out.size))
 clear hxv hb h2 hb2 c0 c1 c2 c3 c4 c5 HZ HQ
 go_upto_region 2 with (fail)
 have HB3 : Hid (Below w.heap.size w (W2.alloc (.cells #[.int .i64 x.sort, .bool x.on, .int .i64 x.n, .string ⟨x.text.toArray⟩, .slice x.a x.list.length x.c, .slice x.ka x.keys.length x.kc] 26))) := Lib.hid (HB2.out.alloc HB2.out.size _)
 have HX : Hid (Blk (W2.alloc (.cells #[.int .i64 x.sort, .bool x.on, .int .i64 x.n, .string ⟨x.text.toArray⟩, .slice x.a x.list.length x.c, .slice x.ka x.keys.length x.kc] 26)) W2.heap.size #[.int .i64 x.sort, .bool x.on, .int .i64 x.n, .string ⟨x.text.toArray⟩, .slice x.a x.list.length x.c, .slice x.ka x.keys.length x.kc] 26) := Lib.hid (Blk.new rfl)
 obtain ⟨W3, hW3⟩ : ∃ W3, W3 = W2.alloc (.cells #[.int .i64 x.sort, .bool x.on, .int .i64 x.n, .string ⟨x.text.toArray⟩, .slice x.a x.list.length x.c, .slice x.ka x.keys.length x.kc] 26) := ⟨_, rfl⟩
 rw [← hW3] at HB3 HX ⊢
 clear hW3
 obtain ⟨c0, c1, c2, c3, c4, c5⟩ := HX.out.sixT
 cases b with
 | true =>
  by_cases h3 : x.sort = 2
  ·
   have e3 : (x.sort == 2) = true := by simpa using h3
   have HF : Hid (q = true) := Lib.hid (by rw [HQ2.out, e3]; rfl)
   clear h3
   go_quiet (fail)
   go_wp2
   exact bodyPost_ret (v := .tuple #[.int .i64 x.n, .bool true]) (by simp [results, Tryz.results80, go_sem]) rfl ⟨by rw [HZ2.out, HF.out], below_drew HB3.out _⟩
  ·
   have e3 : (x.sort == 2) = false := by simpa using h3
   have HF : Hid (q = false) := Lib.hid (by rw [HQ2.out, e3]; rfl)
   clear h3
   go_quiet (fail)
   go_wp2
   exact bodyPost_ret (v := .tuple #[.int .i64 x.n, .bool false]) (by simp [results, Tryz.results80, go_sem]) rfl ⟨by rw [HZ2.out, HF.out], below_drew HB3.out _⟩
 | false =>
  have HF : Hid (q = false) := Lib.hid (by rw [HQ2.out]; rfl)
  go_quiet (fail)
  go_wp2
  exact bodyPost_ret (v := .tuple #[.int .i64 x.n, .bool false]) (by simp [results, Tryz.results80, go_sem]) rfl ⟨by rw [HZ2.out, HF.out], below_drew HB3.out _⟩
end Go.Proofs.YthnbeebilomchaaGreatDoor

namespace Go.Proofs.YthnbeebilomchaaGreatDoor
open Go Go.RowKit

section
variable {P : Program} {ops : Array Oper} {Q : Exit → Act → World → Prop} {md : Region.Mode}

def edgesBack (md : Region.Mode) (ops : Array Oper) : Bool :=
  (List.range ops.size).all fun i => ((ops[i]?).map fun o => o.after.all fun e => !Region.binds md e || decide (e.on < i)).getD true
def depsOf (md : Region.Mode) (o : Oper) : List Nat := (o.after.toList.filter fun e => Region.binds md e).map (·.on)
def updD (D : Nat → Bool) (i : Nat) : Nat → Bool := fun k => if k = i then true else D k
theorem updD_self (D : Nat → Bool) (i : Nat) : updD D i i = true := by simp [updD]
theorem updD_ne (D : Nat → Bool) {i k : Nat} (h : k ≠ i) : updD D i k = D k := by simp [updD, h]

def closedD (md : Region.Mode) (ops : Array Oper) (D : Nat → Bool) : Prop := ∀ (j : Nat) o, ops[j]? = some o → D j = true → ∀ k ∈ depsOf md o, D k = true
def InvStep (P : Program) (md : Region.Mode) (ops : Array Oper) (Q : Exit → Act → World → Prop) (I : (Nat → Bool) → Act → World → Prop) (i : Nat) (o : Oper) : Prop :=
  ∀ D a w, D i = false → (∀ k ∈ depsOf md o, D k = true) → closedD md ops D → I D a w → ∀ K : Act → World → Prop, Shut (∀ a' w', I (updD D i) a' w' → K a' w') →
    if Region.wanted o (yielded ops a.tmps) = true then o.wp P a w K Q else K (a.put o.dst undef) w
def InvAll (P : Program) (md : Region.Mode) (ops : Array Oper) (Q : Exit → Act → World → Prop) (I : (Nat → Bool) → Act → World → Prop) : Nat → List Oper → Prop
  | _, [] => True
  | i, o :: l => InvStep P md ops Q I i o ∧ InvAll P md ops Q I (i + 1) l
theorem InvAll.cons {I : (Nat → Bool) → Act → World → Prop} {i : Nat} {o : Oper} {l : List Oper} (h : InvStep P md ops Q I i o) (hl : InvAll P md ops Q I (i + 1) l) : InvAll P md ops Q I i (o :: l) := ⟨h, hl⟩
theorem InvAll.nil {I : (Nat → Bool) → Act → World → Prop} {i : Nat} : InvAll P md ops Q I i [] := trivial
theorem InvAll.get {I : (Nat → Bool) → Act → World → Prop} : ∀ {l : List Oper} {i : Nat}, InvAll P md ops Q I i l → ∀ k o, l[k]? = some o → InvStep P md ops Q I (i + k) o
  | [], _, _, k, o, hk => by simp at hk
  | x :: l, i, h, 0, o, hk => by simp at hk; subst hk; exact h.1
  | x :: l, i, h, k + 1, o, hk => by
    have := InvAll.get h.2 k o (by simpa using hk)
    rwa [show i + 1 + k = i + (k + 1) from by omega] at this

def leftN (n : Nat) (D : Nat → Bool) : Nat := ((List.range n).filter fun i => !D i).length
theorem leftN_zero {n : Nat} {D : Nat → Bool} (h : leftN n D = 0) : ∀ i, i < n → D i = true := by
  intro i hi
  unfold leftN at h
  have := List.eq_nil_of_length_eq_zero h
  rw [List.filter_eq_nil_iff] at this
  simpa using this i (List.mem_range.2 hi)
theorem leftN_upd {n : Nat} {D : Nat → Bool} {i : Nat} (hi : i < n) (hD : D i = false) : leftN n (updD D i) + 1 = leftN n D := by
  unfold leftN
  have : ∀ l : List Nat, l.Nodup → ((l.filter fun k => !D k).length = (l.filter fun k => !updD D i k).length + (if i ∈ l then 1 else 0)) := by
    intro l
    induction l with
    | nil => simp
    | cons x l ih =>
      intro hn
      rw [List.nodup_cons] at hn
      have ih := ih hn.2
      by_cases hx : x = i
      · subst hx
        rw [List.filter_cons, List.filter_cons, updD_self, hD]
        rw [if_neg hn.1] at ih
        simp
        simpa using ih
      · rw [List.filter_cons, List.filter_cons, updD_ne D hx]
        have hm : (i ∈ x :: l) ↔ (i ∈ l) := by simp [Ne.symm hx]
        cases D x <;> simp [hm, ih] <;> omega
  have h := this (List.range n) List.nodup_range
  rw [if_pos (List.mem_range.2 hi)] at h
  omega

def closedB (md : Region.Mode) (ops : Array Oper) (D : Nat → Bool) : Bool := (List.range ops.size).all fun j => !D j || ((ops[j]?).map fun o => (depsOf md o).all D).getD true
theorem closedB_spec {D : Nat → Bool} (h : closedB md ops D = true) : closedD md ops D := by
  intro j o ho hj k hk
  have h1 := List.all_eq_true.1 h j (List.mem_range.2 (Array.getElem?_eq_some_iff.1 ho).1)
  rw [hj, ho] at h1
  simp only [Bool.not_true, Bool.false_or, Option.map_some, Option.getD_some] at h1
  exact List.all_eq_true.1 h1 k hk
theorem wpAnyH_inv {S : World → Prop} {I : (Nat → Bool) → Act → World → Prop} (hback : edgesBack md ops = true) (hIS : ∀ D a w, I D a w → S w) (hall : InvAll P md ops Q I 0 ops.toList)
  (hend : ∀ D a w, (∀ i, i < ops.size → D i = true) → I D a w → Q .normal a w) :
  ∀ (fuel : Nat) (listed : Array Bool) (D : Nat → Bool) (a : Act) (w : World), listed.size = ops.size → (∀ i, i < ops.size → listed[i]? = some (D i)) → closedD md ops D → leftN ops.size D ≤ fuel → I D a w → wpAnyH P md ops Q S fuel listed a w := by
 have hrd : ∀ (listed : Array Bool) (D : Nat → Bool), listed.size = ops.size → (∀ i, i < ops.size → listed[i]? = some (D i)) → Region.ready md ops listed = [] → ∀ i, i < ops.size → D i = true := by
  intro listed D hs hl hr i
  induction i using Nat.strongRecOn with
  | ind i ih =>
   intro hi
   cases hD : D i with
   | true => rfl
   | false =>
    have hmem : i ∈ Region.ready md ops listed := by
     rw [mem_ready]
     refine ⟨by rw [Array.getD_eq_getD_getElem?, hl i hi, hD]; rfl, ops[i], Array.getElem?_eq_getElem hi, fun e he hb => ?_⟩
     have h1 := List.all_eq_true.1 hback i (List.mem_range.2 hi)
     rw [Array.getElem?_eq_getElem hi, Option.map_some, Option.getD_some, Array.all_eq_true_iff_forall_mem] at h1
     have h2 := h1 e he
     rw [hb] at h2
     have h3 : e.on < i := by simpa using h2
     rw [Array.getD_eq_getD_getElem?, hl e.on (by omega), ih e.on h3 (by omega)]; rfl
    rw [hr] at hmem
    cases hmem
 intro fuel
 induction fuel with
 | zero =>
  intro listed D a w hs hl hc hf hI
  have hz := leftN_zero (Nat.le_zero.1 hf)
  refine ⟨?_, hend D a w hz hI⟩
  rw [List.eq_nil_iff_forall_not_mem]
  intro i hi
  obtain ⟨h0, o, ho, -⟩ := mem_ready.1 hi
  have hi' := (Array.getElem?_eq_some_iff.1 ho).1
  rw [Array.getD_eq_getD_getElem?, hl i hi', hz i hi'] at h0
  cases h0
 | succ fuel ih =>
  intro listed D a w hs hl hc hf hI
  refine ⟨fun hr => hend D a w (hrd listed D hs hl hr) hI, fun i hi => ?_⟩
  obtain ⟨h0, o, ho, hdep⟩ := mem_ready.1 hi
  have hi' := (Array.getElem?_eq_some_iff.1 ho).1
  have hD : D i = false := by rw [Array.getD_eq_getD_getElem?, hl i hi'] at h0; exact h0
  have hst := hall.get i o (by rw [Array.getElem?_toList]; exact ho)
  rw [Nat.zero_add] at hst
  have hdp : ∀ k ∈ depsOf md o, D k = true := by
   intro k hk
   simp only [depsOf, List.mem_map, List.mem_filter, Array.mem_toList_iff] at hk
   obtain ⟨e, ⟨he, hb⟩, rfl⟩ := hk
   have h1 := hdep e he hb
   rcases Nat.lt_or_ge e.on ops.size with h2 | h2
   ·
    rw [Array.getD_eq_getD_getElem?, hl e.on h2] at h1; exact h1
   ·
    rw [Array.getD_eq_getD_getElem?, Array.getElem?_eq_none (by omega)] at h1; cases h1
  refine wpOp_step ho fun K hK => hst D a w hD hdp hc hI K fun a' w' hI' => hK a' w' ⟨hIS _ _ _ hI', ?_⟩
  ·
   refine ih _ (updD D i) a' w' (by simpa using hs) (fun k hk => ?_) (fun j o' hj hDj k hk => ?_) (by have := leftN_upd hi' hD; omega) hI'
   by_cases hki : k = i
   ·
    subst hki; rw [updD_self, Array.getElem?_setIfInBounds_self_of_lt (by omega)]
   ·
    rw [updD_ne D hki, Array.getElem?_setIfInBounds_ne (Ne.symm hki)]; exact hl k hk
   ·
    have hup : ∀ k, D k = true → updD D i k = true := fun k hk => by
     unfold updD
     split
     ·
      rfl
     ·
      exact hk
    by_cases hji : j = i
    ·
     subst hji
     rw [ho] at hj; cases hj
     exact hup k (hdp k hk)
    ·
     rw [updD_ne D hji] at hDj
     exact hup k (hc j o' hj hDj k hk)

/-! ### a frame in which some slots are letters -/
def setAll (a : Act) (sl : List Nat) (s : Nat → Value) : Act := sl.foldl (fun a j => a.put (some j) (s j)) a
def updS (s : Nat → Value) (d : Option Nat) (v : Value) : Nat → Value := match d with
  | some j => fun k => if k = j then v else s k
  | none => s
theorem updS_self (s : Nat → Value) (j : Nat) (v : Value) : updS s (some j) v j = v := by simp [updS]
theorem updS_ne (s : Nat → Value) {j k : Nat} (v : Value) (h : k ≠ j) : updS s (some j) v k = s k := by simp [updS, h]
theorem setAll_defers (s : Nat → Value) : ∀ (sl : List Nat) (a : Act), (setAll a sl s).defers = a.defers
  | [], _ => rfl
  | j :: sl, a => by
    have := setAll_defers s sl (a.put (some j) (s j))
    exact this
theorem setAll_size (s : Nat → Value) : ∀ (sl : List Nat) (a : Act), (setAll a sl s).tmps.size = a.tmps.size
  | [], _ => rfl
  | j :: sl, a => by
    have := setAll_size s sl (a.put (some j) (s j))
    rw [show setAll a (j :: sl) s = setAll (a.put (some j) (s j)) sl s from rfl, this]
    simp [Act.put]
theorem setAll_get (s : Nat → Value) : ∀ (sl : List Nat) (a : Act) (k : Nat), (setAll a sl s).tmps[k]? = if k ∈ sl ∧ k < a.tmps.size then some (s k) else a.tmps[k]?
  | [], _, _ => by simp [setAll]
  | j :: sl, a, k => by
    rw [show setAll a (j :: sl) s = setAll (a.put (some j) (s j)) sl s from rfl, setAll_get s sl (a.put (some j) (s j)) k]
    simp only [Act.put, Array.size_setIfInBounds, Array.getElem?_setIfInBounds, List.mem_cons]
    by_cases h1 : k < a.tmps.size
    · by_cases h2 : k ∈ sl
      · simp [h1, h2]
      · by_cases h3 : k = j
        · subst h3; simp [h1, h2]
        · simp [h1, h2, h3, Ne.symm h3]
    · simp only [h1, and_false, if_false]
      by_cases h3 : j = k
      · subst h3; simp [h1]
      · simp [h3]
theorem act_ext {a b : Act} (ht : ∀ k : Nat, a.tmps[k]? = b.tmps[k]?) (hd : a.defers = b.defers) : a = b := by
  obtain ⟨t, d⟩ := a
  obtain ⟨t', d'⟩ := b
  simp only at ht hd
  subst hd
  have : t = t' := Array.ext_getElem? ht
  rw [this]
theorem setAll_put (s : Nat → Value) (sl : List Nat) (a : Act) {d : Option Nat} (hd : d.all (fun j => sl.contains j) = true) (v : Value) : (setAll a sl s).put d v = setAll a sl (updS s d v) := by
  cases d with
  | none => rfl
  | some j =>
    have hj : j ∈ sl := by simpa using hd
    refine act_ext (fun k => ?_) (by rw [setAll_defers]; exact setAll_defers s sl a)
    rw [setAll_get]
    simp only [Act.put, Array.getElem?_setIfInBounds, setAll_size]
    by_cases hk : j = k
    · subst hk
      by_cases h1 : j < a.tmps.size
      · simp [h1, hj, updS_self]
      · simp [h1]
    · rw [if_neg hk, setAll_get]
      by_cases h1 : k ∈ sl ∧ k < a.tmps.size
      · rw [if_pos h1, if_pos h1, updS_ne s v (Ne.symm hk)]
      · rw [if_neg h1, if_neg h1]
theorem setAll_own (sl : List Nat) (a : Act) : setAll a sl (fun j => a.tmps.getD j undef) = a := by
  refine act_ext (fun k => ?_) (setAll_defers _ sl a)
  rw [setAll_get]
  split
  · rename_i h
    rw [Array.getD_eq_getD_getElem?, Array.getElem?_eq_getElem h.2]; rfl
  · rfl

def depMask (md : Region.Mode) (o : Oper) : Nat := (depsOf md o).foldr (fun k s => s ||| 2 ^ k) 0
def growM (md : Region.Mode) (ops : Array Oper) (m : Nat) : Nat := (List.range ops.size).foldr (fun i m => if m.testBit i = true then m ||| ((ops[i]?).map (depMask md)).getD 0 else m) m
theorem depMask_bit {l : List Nat} {k : Nat} (h : (l.foldr (fun k s => s ||| 2 ^ k) 0).testBit k = true) : k ∈ l := by
  induction l with
  | nil => simp at h
  | cons x l ih =>
    rw [List.foldr_cons, Nat.testBit_or, Bool.or_eq_true] at h
    rcases h with h | h
    · exact List.mem_cons_of_mem _ (ih h)
    · rw [Nat.testBit_two_pow] at h
      have : x = k := by simpa using h
      rw [this]; exact List.mem_cons_self
theorem growM_sound {D : Nat → Bool} (hc : closedD md ops D) {m : Nat} (hm : ∀ k, m.testBit k = true → D k = true) : ∀ k, (growM md ops m).testBit k = true → D k = true := by
  unfold growM
  generalize List.range ops.size = l
  induction l with
  | nil => exact hm
  | cons i l ih =>
    intro k hk
    rw [List.foldr_cons] at hk
    split at hk
    · rename_i hi
      rw [Nat.testBit_or, Bool.or_eq_true] at hk
      rcases hk with hk | hk
      · exact ih k hk
      · cases ho : ops[i]? with
        | none => rw [ho] at hk; simp at hk
        | some o =>
          rw [ho, Option.map_some, Option.getD_some] at hk
          exact hc i o ho (ih i hi) k (depMask_bit hk)
    · exact ih k hk
def InvStepF (P : Program) (md : Region.Mode) (ops : Array Oper) (Q : Exit → Act → World → Prop) (a0 : Act) (sl : List Nat) (J : (Nat → Bool) → (Nat → Value) → World → Prop) (i : Nat) (o : Oper) : Prop :=
  ∀ D s w, D i = false → (∀ k, (growM md ops (depMask md o)).testBit k = true → D k = true) → (∀ j, (growM md ops (2 ^ j)).testBit i = true → D j = false) → J D s w → ∀ K : Act → World → Prop, Shut (∀ a' v w', a' = (setAll a0 sl s).put o.dst v → J (updD D i) (updS s o.dst v) w' → K a' w') →
    if Region.wanted o (yielded ops (setAll a0 sl s).tmps) = true then o.wp P (setAll a0 sl s) w K Q else K ((setAll a0 sl s).put o.dst undef) w
def InvAllF (P : Program) (md : Region.Mode) (ops : Array Oper) (Q : Exit → Act → World → Prop) (a0 : Act) (sl done : List Nat) (J : (Nat → Bool) → (Nat → Value) → World → Prop) : Nat → List Oper → Prop
  | _, [] => True
  | i, o :: l => (i ∈ done ∨ (o.dst.all (fun j => sl.contains j) = true ∧ InvStepF P md ops Q a0 sl J i o)) ∧ InvAllF P md ops Q a0 sl done J (i + 1) l
section
variable {a0 : Act} {sl done : List Nat} {J : (Nat → Bool) → (Nat → Value) → World → Prop} {i : Nat} {o : Oper} {l : List Oper}
theorem InvAllF.cons (hd : o.dst.all (fun j => sl.contains j) = true) (h : InvStepF P md ops Q a0 sl J i o) (hl : InvAllF P md ops Q a0 sl done J (i + 1) l) : InvAllF P md ops Q a0 sl done J i (o :: l) := ⟨.inr ⟨hd, h⟩, hl⟩
theorem InvAllF.skip (hd : done.contains i = true) (hl : InvAllF P md ops Q a0 sl done J (i + 1) l) : InvAllF P md ops Q a0 sl done J i (o :: l) := ⟨.inl (by simpa using hd), hl⟩
theorem InvAllF.nil : InvAllF P md ops Q a0 sl done J i [] := trivial
end
theorem InvAllF.all {a0 : Act} {sl done : List Nat} {J : (Nat → Bool) → (Nat → Value) → World → Prop} : ∀ {l : List Oper} {i : Nat}, InvAllF P md ops Q a0 sl done J i l →
  InvAll P md ops Q (fun D a w => (∀ k ∈ done, D k = true) ∧ ∃ s, a = setAll a0 sl s ∧ J D s w) i l
 | [], _, _ => trivial
 | o :: l, i, h => by
  refine ⟨?_, h.2.all⟩
  rintro D a w hD hdep hcl ⟨hdn, s, rfl, hJ⟩ K hK
  rcases h.1 with h1 | ⟨h1, h2⟩
  ·
   rw [hdn i h1] at hD; cases hD
  ·
   refine h2 D s w hD (growM_sound hcl fun k hk => hdep k (depMask_bit hk)) (fun j hj => ?_) hJ K fun a' v w' ha hJ' => hK a' w' ⟨fun k hk => ?_, updS s o.dst v, by rw [ha, setAll_put s sl a0 h1 v], hJ'⟩
   ·
    cases hDj : D j with
    | false => rfl
    | true =>
     have := growM_sound hcl (m := 2 ^ j) (fun k hk => by
      rw [Nat.testBit_two_pow] at hk
      have e : j = k := by simpa using hk
      rw [← e]; exact hDj) i hj
     rw [hD] at this; cases this
   ·
    unfold updD
    split
    ·
     rfl
    ·
     exact hdn k hk
theorem wpAnyH_invF {S : World → Prop} (sl done : List Nat) (J : (Nat → Bool) → (Nat → Value) → World → Prop) {fuel : Nat} {listed : Array Bool} {a0 : Act} {w : World} (hback : edgesBack md ops = true)
  (hsz : listed.size = ops.size) (hcl : closedB md ops (fun i => listed.getD i false) = true) (hdone : done = (List.range ops.size).filter fun i => listed.getD i false) (hf : leftN ops.size (fun i => listed.getD i false) ≤ fuel)
  (hS : ∀ D s w, J D s w → S w) (h0 : ∀ s, J (fun i => listed.getD i false) s w) (hall : InvAllF P md ops Q a0 sl done J 0 ops.toList)
  (hend : ∀ D s w, (∀ i, i < ops.size → D i = true) → J D s w → Q .normal (setAll a0 sl s) w) : wpAnyH P md ops Q S fuel listed a0 w := by
 refine wpAnyH_inv hback (fun D a w h => ?_) hall.all (fun D a w hD h => ?_) fuel listed (fun i => listed.getD i false) a0 w hsz (fun i hi => ?_) (closedB_spec hcl) hf ⟨fun k hk => ?_, fun j => a0.tmps.getD j undef, (setAll_own sl a0).symm, h0 _⟩
 ·
  obtain ⟨-, s, -, h⟩ := h
  exact hS _ _ _ h
 ·
  obtain ⟨-, s, rfl, h⟩ := h
  exact hend _ _ _ hD h
 ·
  rw [Array.getD_eq_getD_getElem?, Array.getElem?_eq_getElem (by omega)]; rfl
 ·
  rw [hdone] at hk
  exact (List.mem_filter.1 hk).2
end
end Go.Proofs.YthnbeebilomchaaGreatDoor

namespace Go.Proofs.YthnbeebilomchaaGreatDoor
open Go Go.RowKit

abbrev Pt := Nm × VD
def ptC (p : Pt) : List Value := strV p.1 :: p.2.cells
theorem ptC_len (p : Pt) : (ptC p).length = 7 := by unfold ptC; rw [List.length_cons, VD.len]
theorem val_list (d : VD) : d.cells = [.int .i64 d.sort, .bool d.on, .int .i64 d.n, .string ⟨d.text.toArray⟩, .slice d.a d.list.length d.c, .slice d.ka d.keys.length d.kc] := by cases d; rfl
theorem val_arr (d : VD) : d.cells.toArray = #[.int .i64 d.sort, .bool d.on, .int .i64 d.n, .string ⟨d.text.toArray⟩, .slice d.a d.list.length d.c, .slice d.ka d.keys.length d.kc] := by cases d; rfl
structure PtsAt (w : World) (P : Nat → Prop) (a : Option Addr) (l : List Pt) : Prop where
  row : Row w 7 a l.length (l.flatMap ptC)
  vals : ∀ p ∈ l, ValAt w P p.2
def DocP (w : World) (P : Nat → Prop) (v : V) (e : Ending) (w' : World) : Prop := ∃ d : VD, e = .returned (.agg #[.int .i64 d.sort, .bool d.on, .int .i64 d.n, .string ⟨d.text.toArray⟩, .slice d.a d.list.length d.c, .slice d.ka d.keys.length d.kc]) ∧ d.v = v ∧ ValAt w' P d ∧ Below w.heap.size w w'
theorem DocP.doc {w w' : World} {P : Nat → Prop} {v : V} {e : Ending} (h : DocP w P v e w') : DocE w v e w' := by
  obtain ⟨d, h1, h2, h3, h4⟩ := h
  exact ⟨d, h1, h2, h3.mono fun _ _ _ => trivial, h4⟩
theorem PtsAt.ext {w w' : World} {P : Nat → Prop} {a : Option Addr} {l : List Pt} (h : PtsAt w P a l) (hb : Below w.heap.size w w') : PtsAt w' P a l := ⟨h.row.ext hb, fun p hp => (h.vals p hp).ext hb⟩
def recP (l : List Pt) : V := recW (l.map fun p => (p.1, p.2.v))
theorem pt_at {w : World} {P : Nat → Prop} {a : Option Addr} {l : List Pt} (h : PtsAt w P a l) {i : Nat} {x : Pt} (hx : l[i]? = some x) :
  ∃ b off, a = some ⟨b, off, none⟩ ∧ w.cell? ⟨b, off + i * 7, none⟩ = some (.string ⟨x.1.toArray⟩) ∧ w.cell? ⟨b, off + i * 7 + 1, none⟩ = some (.int .i64 x.2.sort) ∧ w.cell? ⟨b, off + i * 7 + 2, none⟩ = some (.bool x.2.on) ∧ w.cell? ⟨b, off + i * 7 + 3, none⟩ = some (.int .i64 x.2.n) ∧
   w.cell? ⟨b, off + i * 7 + 4, none⟩ = some (.string ⟨x.2.text.toArray⟩) ∧ w.cell? ⟨b, off + i * 7 + 5, none⟩ = some (.slice x.2.a x.2.list.length x.2.c) ∧ w.cell? ⟨b, off + i * 7 + 6, none⟩ = some (.slice x.2.ka x.2.keys.length x.2.kc) := by
 obtain ⟨b, off, ha, hc⟩ := Row.elem ptC_len (by decide) h.row hx
 obtain ⟨k, s, o, n, t, va, vc, l2, ka, kc, ks⟩ := x
 exact ⟨b, off, ha, hc 0 (by decide), hc 1 (by decide), hc 2 (by decide), hc 3 (by decide), hc 4 (by decide), hc 5 (by decide), hc 6 (by decide)⟩

def zeroC : Array Value := #[.int .i64 0, .bool false, .int .i64 0, .string { data := #[] }, .slice none 0 0, .slice none 0 0]
def recC (l k : Value) : Array Value := #[.int .i64 5, .bool false, .int .i64 0, .string { data := #[] }, l, k]
structure RecL (w : World) (gv gr : Nat) (l : List Pt) (la : Option Addr) (lc : Nat) (ka : Option Addr) (kc : Nat) (W : World) : Prop where
  below : Below w.heap.size w W
  blk : Blk W gv (recC (.slice la l.length lc) (.slice ka l.length kc)) 36
  res : Blk W gr zeroC 36
  lown : Own W w.heap.size 36 6 la l.length lc (l.flatMap fun p => p.2.cells)
  kown : Own W w.heap.size 9 1 ka l.length kc (l.map fun p => strV p.1)
  l1 : rowOf la lc ≠ some gv
  l2 : rowOf la lc ≠ some gr
  k1 : rowOf ka kc ≠ some gv
  k2 : rowOf ka kc ≠ some gr
structure RecI (w : World) (gv gr gp : Nat) (l : List Pt) (x : Pt) (la : Option Addr) (lc : Nat) (ka : Option Addr) (kc : Nat) (D : Nat → Bool) (s : Nat → Value) (W : World) : Prop where
 below : Below w.heap.size w W
 n1 : gv ≠ gp
 n2 : gr ≠ gv
 g1 : w.heap.size ≤ gv
 blk : Blk W gv (recC (bif D 15 then s 24 else .slice la l.length lc) (bif D 13 then s 18 else .slice ka l.length kc)) 36
 res : Blk W gr zeroC 36
 prt : Blk W gp (ptC x).toArray 74
 s14 : D 1 = true → s 14 = .slice ka l.length kc
 s20 : D 7 = true → s 20 = .slice la l.length lc
 s17 : D 4 = true → D 5 = false → ∃ g, s 17 = .slice (some ⟨g, 0, none⟩) 1 1 ∧ Blk W g #[strV x.1] 9
 s23 : D 10 = true → D 11 = false → ∃ g, s 23 = .slice (some ⟨g, 0, none⟩) 1 1 ∧ Blk W g x.2.cells.toArray 36
 s25 : D 12 = true → s 25 = .pointer (some ⟨gv, 5, none⟩)
 s26 : D 14 = true → s 26 = .pointer (some ⟨gv, 4, none⟩)
 k0 : D 5 = false → Own W w.heap.size 9 1 ka l.length kc (l.map fun p => strV p.1) ∧ rowOf ka kc ≠ some gv ∧ rowOf ka kc ≠ some gr
 k1 : D 5 = true → ∃ a c, s 18 = .slice a (l.length + 1) c ∧ Own W w.heap.size 9 1 a (l.length + 1) c ((l.map fun p => strV p.1) ++ [strV x.1]) ∧ rowOf a c ≠ some gv ∧ rowOf a c ≠ some gr
 v0 : D 11 = false → Own W w.heap.size 36 6 la l.length lc (l.flatMap fun p => p.2.cells) ∧ rowOf la lc ≠ some gv ∧ rowOf la lc ≠ some gr
 v1 : D 11 = true → ∃ a c, s 24 = .slice a (l.length + 1) c ∧ Own W w.heap.size 36 6 a (l.length + 1) c ((l.flatMap fun p => p.2.cells) ++ x.2.cells) ∧ rowOf a c ≠ some gv ∧ rowOf a c ≠ some gr
theorem blk_types {w : World} {g : Nat} {c c' : Array Value} {T T' : TypeId} (h : Blk w g c T) (h' : Blk w g c' T') : T = T' := by
  have := h.symm.trans h'
  simp at this
  exact this.2
theorem Own.notBlk {W : World} {base sz n c : Nat} {T : TypeId} {a : Option Addr} {xs : List Value} (h : Own W base T sz a n c xs) {g : Nat} {cs : Array Value} {T' : TypeId} (hB : Blk W g cs T') (hne : T' ≠ T) : some g ≠ rowOf a c := by
  intro he
  unfold rowOf at he
  split at he
  · cases he
  · rename_i hc
    rcases h.2 with ⟨_, q, _⟩ | ⟨g', off', cur', rfl, _, q3, _⟩
    · exact hc q
    · simp [blockOf] at he; subst he
      exact hne (blk_types hB q3)
section
variable {w : World} {gv gr gp : Nat} {l : List Pt} {x : Pt} {la : Option Addr} {lc : Nat} {ka : Option Addr} {kc : Nat} {D : Nat → Bool} {s : Nat → Value} {W : World}
theorem RecI.start {W : World} (h : RecL w gv gr l la lc ka kc W) (n1 : gv ≠ gp) (n2 : gr ≠ gv) (g1 : w.heap.size ≤ gv) (hp : Blk W gp (ptC x).toArray 74) (d1 : D 1 = false) (d4 : D 4 = false) (d5 : D 5 = false) (d7 : D 7 = false) (d10 : D 10 = false) (d11 : D 11 = false) (d12 : D 12 = false) (d13 : D 13 = false) (d14 : D 14 = false) (d15 : D 15 = false) (s : Nat → Value) :
    RecI w gv gr gp l x la lc ka kc D s W where
  below := h.below
  n1 := n1
  n2 := n2
  g1 := g1
  blk := by rw [d15, d13]; exact h.blk
  res := h.res
  prt := hp
  s14 := fun e => by rw [d1] at e; cases e
  s20 := fun e => by rw [d7] at e; cases e
  s17 := fun e => by rw [d4] at e; cases e
  s23 := fun e => by rw [d10] at e; cases e
  s25 := fun e => by rw [d12] at e; cases e
  s26 := fun e => by rw [d14] at e; cases e
  k0 := fun _ => ⟨h.kown, h.k1, h.k2⟩
  k1 := fun e => by rw [d5] at e; cases e
  v0 := fun _ => ⟨h.lown, h.l1, h.l2⟩
  v1 := fun e => by rw [d11] at e; cases e
theorem RecI.op1 (h : RecI w gv gr gp l x la lc ka kc D s W) : RecI w gv gr gp l x la lc ka kc (updD D 1) (updS s (some 14) (.slice ka l.length kc)) W :=
  ⟨h.below, h.n1, h.n2, h.g1, h.blk, h.res, h.prt, fun _ => rfl, h.s20, h.s17, h.s23, h.s25, h.s26, h.k0, h.k1, h.v0, h.v1⟩
theorem RecI.op7 (h : RecI w gv gr gp l x la lc ka kc D s W) : RecI w gv gr gp l x la lc ka kc (updD D 7) (updS s (some 20) (.slice la l.length lc)) W :=
  ⟨h.below, h.n1, h.n2, h.g1, h.blk, h.res, h.prt, h.s14, fun _ => rfl, h.s17, h.s23, h.s25, h.s26, h.k0, h.k1, h.v0, h.v1⟩
theorem RecI.op12 (h : RecI w gv gr gp l x la lc ka kc D s W) : RecI w gv gr gp l x la lc ka kc (updD D 12) (updS s (some 25) (.pointer (some ⟨gv, 5, none⟩))) W :=
  ⟨h.below, h.n1, h.n2, h.g1, h.blk, h.res, h.prt, h.s14, h.s20, h.s17, h.s23, fun _ => rfl, h.s26, h.k0, h.k1, h.v0, h.v1⟩
theorem RecI.op14 (h : RecI w gv gr gp l x la lc ka kc D s W) : RecI w gv gr gp l x la lc ka kc (updD D 14) (updS s (some 26) (.pointer (some ⟨gv, 4, none⟩))) W :=
  ⟨h.below, h.n1, h.n2, h.g1, h.blk, h.res, h.prt, h.s14, h.s20, h.s17, h.s23, h.s25, fun _ => rfl, h.k0, h.k1, h.v0, h.v1⟩
theorem RecI.alloc (h : RecI w gv gr gp l x la lc ka kc D s W) (o : Obj) : RecI w gv gr gp l x la lc ka kc D s (W.alloc o) where
  below := h.below.alloc h.below.size _
  n1 := h.n1
  n2 := h.n2
  g1 := h.g1
  blk := h.blk.alloc _
  res := h.res.alloc _
  prt := h.prt.alloc _
  s14 := h.s14
  s20 := h.s20
  s17 := fun e e' => by obtain ⟨g, h1, h2⟩ := h.s17 e e'; exact ⟨g, h1, h2.alloc _⟩
  s23 := fun e e' => by obtain ⟨g, h1, h2⟩ := h.s23 e e'; exact ⟨g, h1, h2.alloc _⟩
  s25 := h.s25
  s26 := h.s26
  k0 := fun e => ⟨(h.k0 e).1.alloc _, (h.k0 e).2⟩
  k1 := fun e => by obtain ⟨a, c, h1, h2, h3⟩ := h.k1 e; exact ⟨a, c, h1, h2.alloc _, h3⟩
  v0 := fun e => ⟨(h.v0 e).1.alloc _, (h.v0 e).2⟩
  v1 := fun e => by obtain ⟨a, c, h1, h2, h3⟩ := h.v1 e; exact ⟨a, c, h1, h2.alloc _, h3⟩
theorem RecI.op4 (h : RecI w gv gr gp l x la lc ka kc D s W) : RecI w gv gr gp l x la lc ka kc (updD D 4) (updS s (some 17) (.slice (some ⟨W.heap.size, 0, none⟩) 1 1)) (W.alloc (.cells #[strV x.1] 9)) := by
  have k := h.alloc (.cells #[strV x.1] 9)
  exact ⟨k.below, k.n1, k.n2, k.g1, k.blk, k.res, k.prt, k.s14, k.s20, fun _ _ => ⟨_, rfl, Blk.new rfl⟩, k.s23, k.s25, k.s26, k.k0, k.k1, k.v0, k.v1⟩
theorem RecI.op10 (h : RecI w gv gr gp l x la lc ka kc D s W) : RecI w gv gr gp l x la lc ka kc (updD D 10) (updS s (some 23) (.slice (some ⟨W.heap.size, 0, none⟩) 1 1)) (W.alloc (.cells x.2.cells.toArray 36)) := by
  have k := h.alloc (.cells x.2.cells.toArray 36)
  exact ⟨k.below, k.n1, k.n2, k.g1, k.blk, k.res, k.prt, k.s14, k.s20, k.s17, fun _ _ => ⟨_, rfl, Blk.new rfl⟩, k.s25, k.s26, k.k0, k.k1, k.v0, k.v1⟩
theorem RecI.op10' (h : RecI w gv gr gp l x la lc ka kc D s W) : RecI w gv gr gp l x la lc ka kc (updD D 10) (updS s (some 23) (.slice (some ⟨W.heap.size, 0, none⟩) 1 1)) (W.alloc (.cells #[.int .i64 x.2.sort, .bool x.2.on, .int .i64 x.2.n, .string ⟨x.2.text.toArray⟩, .slice x.2.a x.2.list.length x.2.c, .slice x.2.ka x.2.keys.length x.2.kc] 36)) := by
  have k := h.op10
  rw [val_arr] at k
  exact k
theorem RecI.op5 (h : RecI w gv gr gp l x la lc ka kc D s W) (d5 : D 5 = false) (d13 : D 13 = false) {a : Option Addr} {c : Nat} {W' : World} (ho : Own W' w.heap.size 9 1 a (l.length + 1) c ((l.map fun p => strV p.1) ++ [strV x.1])) (hg : W.grownBy W' (rowOf ka kc))
  (hb : rowOf a c = rowOf ka kc ∨ rowOf a c = some W.heap.size) : RecI w gv gr gp l x la lc ka kc (updD D 5) (updS s (some 18) (.slice a (l.length + 1) c)) W' := by
 obtain ⟨q0, q1, q2⟩ := h.k0 d5
 have ne : 36 ≠ 9 := by decide
 refine ⟨h.below.grown hg h.below.size (q0.rowBase (Nat.le_refl _)), h.n1, h.n2, h.g1, ?_, h.res.grown hg (fun e => q2 e.symm), h.prt.grown hg (q0.notBlk h.prt (by decide)), h.s14, h.s20, fun _ e => (by rw [updD_self] at e; cases e), fun e e' => ?_, h.s25, h.s26, fun e => (by rw [updD_self] at e; cases e), fun _ => ⟨a, c, rfl, ho, rowOf_apart q1 h.blk.lt hb, rowOf_apart q2 h.res.lt hb⟩, fun e => ?_, fun e => ?_⟩
 ·
  have := h.blk.grown hg (fun e => q1 e.symm)
  rw [d13] at this
  rw [show updD D 5 13 = false from d13]
  exact this
 ·
  obtain ⟨g, h1, h2⟩ := h.s23 e e'
  exact ⟨g, h1, h2.grown hg (q0.notBlk h2 ne)⟩
 ·
  exact ⟨(h.v0 e).1.keptType q0 ne hg, (h.v0 e).2⟩
 ·
  obtain ⟨a', c', h1, h2, h3⟩ := h.v1 e
  exact ⟨a', c', h1, h2.keptType q0 ne hg, h3⟩
theorem RecI.op11 (h : RecI w gv gr gp l x la lc ka kc D s W) (d11 : D 11 = false) (d15 : D 15 = false) {a : Option Addr} {c : Nat} {W' : World} (ho : Own W' w.heap.size 36 6 a (l.length + 1) c ((l.flatMap fun p => p.2.cells) ++ x.2.cells)) (hg : W.grownBy W' (rowOf la lc))
  (hb : rowOf a c = rowOf la lc ∨ rowOf a c = some W.heap.size) : RecI w gv gr gp l x la lc ka kc (updD D 11) (updS s (some 24) (.slice a (l.length + 1) c)) W' := by
 obtain ⟨q0, q1, q2⟩ := h.v0 d11
 have ne : 9 ≠ 36 := by decide
 refine ⟨h.below.grown hg h.below.size (q0.rowBase (Nat.le_refl _)), h.n1, h.n2, h.g1, ?_, h.res.grown hg (fun e => q2 e.symm), h.prt.grown hg (q0.notBlk h.prt (by decide)), h.s14, h.s20, fun e e' => ?_, fun _ e => (by rw [updD_self] at e; cases e), h.s25, h.s26, fun e => ?_, fun e => ?_, fun e => (by rw [updD_self] at e; cases e), fun _ => ⟨a, c, rfl, ho, rowOf_apart q1 h.blk.lt hb, rowOf_apart q2 h.res.lt hb⟩⟩
 ·
  have := h.blk.grown hg (fun e => q1 e.symm)
  rw [d15] at this
  rw [show updD D 11 15 = false from d15]
  exact this
 ·
  obtain ⟨g, h1, h2⟩ := h.s17 e e'
  exact ⟨g, h1, h2.grown hg (q0.notBlk h2 ne)⟩
 ·
  exact ⟨(h.k0 e).1.keptType q0 ne hg, (h.k0 e).2⟩
 ·
  obtain ⟨a', c', h1, h2, h3⟩ := h.k1 e
  exact ⟨a', c', h1, h2.keptType q0 ne hg, h3⟩
theorem RecI.put (h : RecI w gv gr gp l x la lc ka kc D s W) (d5 : D 5 = true) (d11 : D 11 = true) {D' : Nat → Bool} (e5 : D' 5 = true) (e11 : D' 11 = true) (e1 : D' 1 = D 1) (e7 : D' 7 = D 7) (e12 : D' 12 = D 12) (e14 : D' 14 = D 14) (o : Nat) (u : Value)
  (hb : Blk (W.setCell ⟨gv, o, none⟩ u) gv (recC (bif D' 15 then s 24 else .slice la l.length lc) (bif D' 13 then s 18 else .slice ka l.length kc)) 36) : RecI w gv gr gp l x la lc ka kc D' s (W.setCell ⟨gv, o, none⟩ u) where
 below := h.below.setCell h.g1 _
 n1 := h.n1
 n2 := h.n2
 g1 := h.g1
 blk := hb
 res := h.res.other h.n2 _
 prt := h.prt.other (Ne.symm h.n1) _
 s14 := fun e => h.s14 (e1 ▸ e)
 s20 := fun e => h.s20 (e7 ▸ e)
 s17 := fun _ e => by rw [e5] at e; cases e
 s23 := fun _ e => by rw [e11] at e; cases e
 s25 := fun e => h.s25 (e12 ▸ e)
 s26 := fun e => h.s26 (e14 ▸ e)
 k0 := fun e => by rw [e5] at e; cases e
 k1 := fun _ => by obtain ⟨a, c, h1, h2, h3⟩ := h.k1 d5; exact ⟨a, c, h1, h2.setCell_row (p := ⟨gv, o, none⟩) h3.1 u, h3⟩
 v0 := fun e => by rw [e11] at e; cases e
 v1 := fun _ => by obtain ⟨a, c, h1, h2, h3⟩ := h.v1 d11; exact ⟨a, c, h1, h2.setCell_row (p := ⟨gv, o, none⟩) h3.1 u, h3⟩
theorem RecI.op13 (h : RecI w gv gr gp l x la lc ka kc D s W) (d5 : D 5 = true) (d11 : D 11 = true) (d15 : D 15 = false) (v : Value) : RecI w gv gr gp l x la lc ka kc (updD D 13) (updS s none v) (W.setCell ⟨gv, 5, none⟩ (s 18)) := by
  refine h.put d5 d11 (D' := updD D 13) d5 d11 rfl rfl rfl rfl 5 _ ?_
  have := h.blk.set 5 (s 18)
  rw [d15] at this
  rw [show updD D 13 15 = false from d15]
  exact this
theorem RecI.op15 (h : RecI w gv gr gp l x la lc ka kc D s W) (d5 : D 5 = true) (d11 : D 11 = true) (d13 : D 13 = true) (v : Value) : RecI w gv gr gp l x la lc ka kc (updD D 15) (updS s none v) (W.setCell ⟨gv, 4, none⟩ (s 24)) := by
  refine h.put d5 d11 (D' := updD D 15) d5 d11 rfl rfl rfl rfl 4 _ ?_
  have := h.blk.set 4 (s 24)
  rw [d13] at this
  rw [show updD D 15 13 = true from d13]
  exact this
theorem RecI.ends (h : RecI w gv gr gp l x la lc ka kc D s W) (d5 : D 5 = true) (d11 : D 11 = true) (d13 : D 13 = true) (d15 : D 15 = true) : ∃ la lc ka kc, RecL w gv gr (l ++ [x]) la lc ka kc W := by
  obtain ⟨a, c, h1, h2, h3, h4⟩ := h.k1 d5
  obtain ⟨a', c', h1', h2', h3', h4'⟩ := h.v1 d11
  refine ⟨a', c', a, c, h.below, ?_, h.res, ?_, ?_, h3', h4', h3, h4⟩
  · have := h.blk
    rw [d15, d13, h1, h1'] at this
    rw [List.length_append]
    exact this
  · rw [List.length_append, List.flatMap_append, List.flatMap_singleton]; exact h2'
  · rw [List.length_append, List.map_append]; exact h2
end
end Go.Proofs.YthnbeebilomchaaGreatDoor

namespace Go.Proofs.YthnbeebilomchaaGreatDoor
open Go Go.RowKit

theorem pt_arr (x : Pt) : (ptC x).toArray = #[.string ⟨x.1.toArray⟩, .int .i64 x.2.sort, .bool x.2.on, .int .i64 x.2.n, .string ⟨x.2.text.toArray⟩, .slice x.2.a x.2.list.length x.2.c, .slice x.2.ka x.2.keys.length x.2.kc] := by obtain ⟨k, s, o, n, t, va, vc, l2, ka, kc, ks⟩ := x; rfl
theorem take_snoc1 {α : Type} {l : List α} {k : Nat} {x : α} (hx : l[k]? = some x) : l.take (k + 1) = l.take k ++ [x] := by first | (rw [List.take_add_one, hx]; done) | (rw [List.take_add_one, hx]; rfl)
theorem rec_end {W : World} {tm : Array Value} {R : Ending → World → Prop} {g : Nat} {u0 u1 u2 u3 u4 u5 : Value} (h2 : tm.getD 2 undef = .pointer (some ⟨g, 0, none⟩)) (hB : Blk W g #[u0, u1, u2, u3, u4, u5] 36)
    (hR : R (.returned (.agg #[u0, u1, u2, u3, u4, u5])) W) : bodyPost Tryz.prog Tryz.f32 R .ret { tmps := tm, defers := [] } W := by
  have d0 := hB.cell 0
  have d1 := hB.cell 1
  have d2 := hB.cell 2
  have d3 := hB.cell 3
  have d4 := hB.cell 4
  have d5 := hB.cell 5
  simp only [List.getElem?_toArray, List.getElem?_cons_zero, List.getElem?_cons_succ] at d0 d1 d2 d3 d4 d5
  rw [Array.getD_eq_getD_getElem?] at h2
  refine bodyPost_ret (v := .agg #[u0, u1, u2, u3, u4, u5]) ?_ rfl hR
  simp [results, Tryz.results32, go_sem, h2, d0, d1, d2, d3, d4, d5]
theorem RecL.doc {w wr : World} {gv gr o n : Nat} {l : List Pt} {la : Option Addr} {lc : Nat} {ka : Option Addr} {kc : Nat} {P : Nat → Prop} (h : RecL w gv gr l la lc ka kc wr) (hP : ∀ g, w.heap.size ≤ g → P g) (hv : ∀ p ∈ l, ValAt w P p.2) (hr : w.heap.size ≤ gr) (hn : n = l.length) :
  DocP w P (recP l) (.returned (.agg #[.int .i64 5, .bool false, .int .i64 0, .string { data := #[] }, .slice la n lc, .slice ka n kc])) (put6 wr gr o (.int .i64 5) (.bool false) (.int .i64 0) (.string { data := #[] }) (.slice la n lc) (.slice ka n kc)) := by
 subst hn
 have hb : Below w.heap.size w (put6 wr gr o (.int .i64 5) (.bool false) (.int .i64 0) (.string { data := #[] }) (.slice la l.length lc) (.slice ka l.length kc)) := put6_below h.below hr
 have hk : ∀ (b : Option Addr) (c : Nat), rowOf b c ≠ some gr → 0 < l.length → l.length ≤ c → blockOf b ≠ some gr := fun b c h1 h2 h3 h4 => h1 (by unfold rowOf; rw [if_neg (by omega)]; exact h4)
 refine ⟨VD.mk 5 false 0 [] la lc (l.map (·.2)) ka kc (l.map (·.1)), by show _ = Ending.returned (.agg #[_, _, _, _, .slice la (l.map (·.2)).length lc, .slice ka (l.map (·.1)).length kc]); rw [List.length_map, List.length_map]; rfl, ?_, .mk ?_ ?_ (fun g _ hg => hP g (h.lown.base hg)) (fun g _ hg => hP g (h.kown.base hg)) (fun y hy => ?_), hb⟩
 ·
  rw [VD.v_eq]; simp [recP, recW, VD.list, VD.keys, VD.sort, VD.on, VD.n, VD.text]
 ·
  rw [List.length_map, List.flatMap_map]
  exact h.lown.row.congr fun g h0 hg _ => put6_other (fun e => hk la lc h.l2 (Nat.pos_of_mul_pos_right h0) h.lown.le (by rw [hg, e]))
 ·
  rw [List.length_map, List.map_map]
  exact h.kown.row.congr fun g h0 hg _ => put6_other (fun e => hk ka kc h.k2 (by omega) h.kown.le (by rw [hg, e]))
 ·
  obtain ⟨p, hp, rfl⟩ := List.mem_map.1 hy
  exact (hv p hp).ext hb
theorem keep7 {gp : Nat} {x : Pt} {W : World} (h : Blk W gp (ptC x).toArray 74) : (fun w' => w'.cell? ⟨gp, 0, none⟩ = some (.string ⟨x.1.toArray⟩) ∧ w'.cell? ⟨gp, 1, none⟩ = some (.int .i64 x.2.sort) ∧ w'.cell? ⟨gp, 2, none⟩ = some (.bool x.2.on) ∧ w'.cell? ⟨gp, 3, none⟩ = some (.int .i64 x.2.n) ∧ w'.cell? ⟨gp, 4, none⟩ = some (.string ⟨x.2.text.toArray⟩) ∧ w'.cell? ⟨gp, 5, none⟩ = some (.slice x.2.a x.2.list.length x.2.c) ∧ w'.cell? ⟨gp, 6, none⟩ = some (.slice x.2.ka x.2.keys.length x.2.kc)) W := by
  rw [pt_arr] at h
  exact ⟨h.cell 0, h.cell 1, h.cell 2, h.cell 3, h.cell 4, h.cell 5, h.cell 6⟩
set_option maxHeartbeats 4000000 in
set_option maxRecDepth 20000 in
theorem record_any (P : Nat → Prop) (a : Option Addr) (c : Nat) (parts : List Pt) (w : World) (hP : ∀ g, w.heap.size ≤ g → P g) (hp : PtsAt w P a parts) (hn : parts.length ≤ 1000) : Calls Tryz.prog 32 #[.slice a parts.length c] w (DocP w P (recP parts)) := by
 have HP := Lib.hid hp
 have HPP := Lib.hid hP
 clear hp hP
 go_enter Tryz.func32, Tryz.ntmps32
 go_wp2
 go_loopw [9] (fun i wr => ∃ k : Nat, k ≤ parts.length ∧ i = .int .i64 k ∧ Hid (∃ la lc ka kc, RecL w (w.heap.size + 1) w.heap.size (parts.take k) la lc ka kc wr)) (fun i _ => parts.length - (intOf i).toNat)
 case atStart => exact ⟨0, Nat.zero_le _, rfl, Lib.hid ⟨none, 0, none, 0, (below_a1 w _).alloc (by simp) _, Blk.new (by simp), (Blk.new rfl).alloc _, Own.nil _ _ _ _, Own.nil _ _ _ _, by simp [rowOf], by simp [rowOf], by simp [rowOf], by simp [rowOf]⟩⟩
 case round =>
  obtain ⟨k, hk, rfl, hL⟩ := hrel
  obtain ⟨la, lc, ka, kc, hL⟩ := hL.out
  obtain ⟨l, hl⟩ : ∃ l, l = parts.take k := ⟨_, rfl⟩
  rw [← hl] at hL
  have hkl : l.length ≤ 1000 := by rw [hl, List.length_take]; omega
  have HT := Lib.hid hl
  have HL := Lib.hid hL
  clear hL hl
  have hgr := HL.out.blk.lt
  by_cases hlt : k < parts.length
  ·
   obtain ⟨x, hx⟩ := get_some hlt
   have HX := Lib.hid hx
   obtain ⟨b, off, rfl, c0, c1, c2, c3, c4, c5, c6⟩ := pt_at (HP.out.ext HL.out.below) hx
   clear hx
   obtain ⟨gp, hgp⟩ : ∃ gp, gp = wr.heap.size := ⟨_, rfl⟩
   obtain ⟨W1, hW1⟩ : ∃ W1, W1 = wr.alloc (.cells #[.string ⟨x.1.toArray⟩, .int .i64 x.2.sort, .bool x.2.on, .int .i64 x.2.n, .string ⟨x.2.text.toArray⟩, .slice x.2.a x.2.list.length x.2.c, .slice x.2.ka x.2.keys.length x.2.kc] 74) := ⟨_, rfl⟩
   have HP1 : Hid (Blk W1.drew gp (ptC x).toArray 74) := Lib.hid (by rw [pt_arr, hW1, hgp]; exact Blk.new rfl)
   have HL1 : Hid (RecL w (w.heap.size + 1) w.heap.size l la lc ka kc W1.drew) := Lib.hid (by
    rw [hW1]
    have h := HL.out
    exact ⟨(h.below.alloc h.below.size _).drew, h.blk.alloc _, h.res.alloc _, h.lown.alloc _, h.kown.alloc _, h.l1, h.l2, h.k1, h.k2⟩)
   have HK : Hid (∀ w' : World, Blk w' gp (ptC x).toArray 74 → (fun w' => w'.cell? ⟨gp, 0, none⟩ = some (.string ⟨x.1.toArray⟩) ∧ w'.cell? ⟨gp, 1, none⟩ = some (.int .i64 x.2.sort) ∧ w'.cell? ⟨gp, 2, none⟩ = some (.bool x.2.on) ∧ w'.cell? ⟨gp, 3, none⟩ = some (.int .i64 x.2.n) ∧ w'.cell? ⟨gp, 4, none⟩ = some (.string ⟨x.2.text.toArray⟩) ∧ w'.cell? ⟨gp, 5, none⟩ = some (.slice x.2.a x.2.list.length x.2.c) ∧ w'.cell? ⟨gp, 6, none⟩ = some (.slice x.2.ka x.2.keys.length x.2.kc)) w') := Lib.hid fun w' h => keep7 h
   have hgr2 : w.heap.size + 1 < gp := by omega
   go_wp2
   rw [← hgp, ← hW1]
   clear hW1 hgp c0 c1 c2 c3 c4 c5 c6
   clear hgr
   refine wp_region_held_drew (S := (fun w' => w'.cell? ⟨gp, 0, none⟩ = some (.string ⟨x.1.toArray⟩) ∧ w'.cell? ⟨gp, 1, none⟩ = some (.int .i64 x.2.sort) ∧ w'.cell? ⟨gp, 2, none⟩ = some (.bool x.2.on) ∧ w'.cell? ⟨gp, 3, none⟩ = some (.int .i64 x.2.n) ∧ w'.cell? ⟨gp, 4, none⟩ = some (.string ⟨x.2.text.toArray⟩) ∧ w'.cell? ⟨gp, 5, none⟩ = some (.slice x.2.a x.2.list.length x.2.c) ∧ w'.cell? ⟨gp, 6, none⟩ = some (.slice x.2.ka x.2.keys.length x.2.kc))) (by kernel_rfl) ?_ (fun hHeld => ?_)
   ·
    exact HK.out _ HP1.out
   refine wpAnyH_take (i := 0) (oi := ⟨some 13, _, _, _, _, _⟩) (v := ?_) rfl (by kernel_rfl) (by kernel_rfl) (by kernel_rfl) (fun _ _ _ h => h) (Or.inl ⟨by rfl, ?_⟩) (by assumption) ?_; rotate_left; focus (intro w hSw; (try dsimp only at hSw); first | (go_simp; done) | (go_simp; with_reducible rfl))
   try simp only [Act.put, List.setIfInBounds_toArray, List.set_cons_succ, List.set_cons_zero]
   refine wpAnyH_take (i := 2) (oi := ⟨some 15, _, _, _, _, _⟩) (v := ?_) rfl (by kernel_rfl) (by kernel_rfl) (by kernel_rfl) (fun _ _ _ h => h) (Or.inl ⟨by rfl, ?_⟩) (by assumption) ?_; rotate_left; focus (intro w hSw; (try dsimp only at hSw); first | (go_simp; done) | (go_simp; with_reducible rfl))
   try simp only [Act.put, List.setIfInBounds_toArray, List.set_cons_succ, List.set_cons_zero]
   refine wpAnyH_take (i := 3) (oi := ⟨some 16, _, _, _, _, _⟩) (v := ?_) rfl (by kernel_rfl) (by kernel_rfl) (by kernel_rfl) (fun _ _ _ h => h) (Or.inl ⟨by rfl, ?_⟩) (by assumption) ?_; rotate_left; focus (intro w hSw; (try dsimp only at hSw); first | (go_simp; done) | (go_simp; with_reducible rfl))
   try simp only [Act.put, List.setIfInBounds_toArray, List.set_cons_succ, List.set_cons_zero]
   refine wpAnyH_take (i := 6) (oi := ⟨some 19, _, _, _, _, _⟩) (v := ?_) rfl (by kernel_rfl) (by kernel_rfl) (by kernel_rfl) (fun _ _ _ h => h) (Or.inl ⟨by rfl, ?_⟩) (by assumption) ?_; rotate_left; focus (intro w hSw; (try dsimp only at hSw); first | (go_simp; done) | (go_simp; with_reducible rfl))
   try simp only [Act.put, List.setIfInBounds_toArray, List.set_cons_succ, List.set_cons_zero]
   refine wpAnyH_take (i := 8) (oi := ⟨some 21, _, _, _, _, _⟩) (v := ?_) rfl (by kernel_rfl) (by kernel_rfl) (by kernel_rfl) (fun _ _ _ h => h) (Or.inl ⟨by rfl, ?_⟩) (by assumption) ?_; rotate_left; focus (intro w hSw; (try dsimp only at hSw); first | (go_simp; done) | (go_simp; with_reducible rfl))
   try simp only [Act.put, List.setIfInBounds_toArray, List.set_cons_succ, List.set_cons_zero]
   refine wpAnyH_take (i := 9) (oi := ⟨some 22, _, _, _, _, _⟩) (v := ?_) rfl (by kernel_rfl) (by kernel_rfl) (by kernel_rfl) (fun _ _ _ h => h) (Or.inl ⟨by rfl, ?_⟩) (by assumption) ?_; rotate_left; focus (intro w hSw; (try dsimp only at hSw); first | (go_simp; done) | (go_simp; with_reducible rfl))
   try simp only [Act.put, List.setIfInBounds_toArray, List.set_cons_succ, List.set_cons_zero]
   refine wpAnyH_invF [14, 17, 18, 20, 23, 24, 25, 26] [0, 2, 3, 6, 8, 9] (RecI w (w.heap.size + 1) w.heap.size gp l x la lc ka kc) (by kernel_rfl) (by rfl) (by kernel_rfl) (by kernel_rfl) (Nat.le_of_ble_eq_true (by kernel_rfl)) ?_ ?_ ?_ ?_
   ·
    intro D s W hJ
    exact HK.out _ hJ.prt
   ·
    intro s
    exact RecI.start HL1.out (by omega) (by omega) (by omega) HP1.out rfl rfl rfl rfl rfl rfl rfl rfl rfl rfl s
   ·
    refine InvAllF.skip (by kernel_rfl) ?_
    refine InvAllF.cons (o := ⟨some 14, _, _, _, _, _⟩) (by kernel_rfl) (fun D s W hD hdep hno hJ K hK => ?_) ?_
    ·
     have n5 : D 5 = false := hno 5 (by kernel_rfl)
     have n11 : D 11 = false := hno 11 (by kernel_rfl)
     have n12 : D 12 = false := hno 12 (by kernel_rfl)
     have n13 : D 13 = false := hno 13 (by kernel_rfl)
     have n14 : D 14 = false := hno 14 (by kernel_rfl)
     have n15 : D 15 = false := hno 15 (by kernel_rfl)
     clear hdep hno
     simp only [setAll, List.foldl_cons, List.foldl_nil, Act.put, List.setIfInBounds_toArray, List.set_cons_succ, List.set_cons_zero]
     have HBk := Lib.hid hJ.blk
     have b0 := HBk.out.cell 0
     have b1 := HBk.out.cell 1
     have b2 := HBk.out.cell 2
     have b3 := HBk.out.cell 3
     have b4 := HBk.out.cell 4
     have b5 := HBk.out.cell 5
     have m4 := HBk.out.free 4
     have m5 := HBk.out.free 5
     unfold recC at b0 b1 b2 b3 b4 b5
     simp only [List.getElem?_toArray, List.getElem?_cons_zero, List.getElem?_cons_succ] at b0 b1 b2 b3 b4 b5
     clear HBk
     rw [n13] at b5
     have HJ := Lib.hid hJ
     clear hJ b0 b1 b2 b3 b4 m4 m5
     go_simp
     refine hK.out _ _ _ ?_ HJ.out.op1
     simp only [setAll, List.foldl_cons, List.foldl_nil, Act.put, List.setIfInBounds_toArray, List.set_cons_succ, List.set_cons_zero]
    refine InvAllF.skip (by kernel_rfl) ?_
    refine InvAllF.skip (by kernel_rfl) ?_
    refine InvAllF.cons (o := ⟨some 17, _, _, _, _, _⟩) (by kernel_rfl) (fun D s W hD hdep hno hJ K hK => ?_) ?_
    ·
     have n5 : D 5 = false := hno 5 (by kernel_rfl)
     have n11 : D 11 = false := hno 11 (by kernel_rfl)
     have n12 : D 12 = false := hno 12 (by kernel_rfl)
     have n13 : D 13 = false := hno 13 (by kernel_rfl)
     have n14 : D 14 = false := hno 14 (by kernel_rfl)
     have n15 : D 15 = false := hno 15 (by kernel_rfl)
     clear hdep hno
     simp only [setAll, List.foldl_cons, List.foldl_nil, Act.put, List.setIfInBounds_toArray, List.set_cons_succ, List.set_cons_zero]
     have HJ := Lib.hid hJ
     clear hJ
     go_simp
     refine hK.out _ _ _ ?_ HJ.out.op4
     simp only [setAll, List.foldl_cons, List.foldl_nil, Act.put, List.setIfInBounds_toArray, List.set_cons_succ, List.set_cons_zero]
    refine InvAllF.cons (o := ⟨some 18, _, _, _, _, _⟩) (by kernel_rfl) (fun D s W hD hdep hno hJ K hK => ?_) ?_
    ·
     have e1 : D 1 = true := hdep 1 (by kernel_rfl)
     have e4 : D 4 = true := hdep 4 (by kernel_rfl)
     have n11 : D 11 = false := hno 11 (by kernel_rfl)
     have n12 : D 12 = false := hno 12 (by kernel_rfl)
     have n13 : D 13 = false := hno 13 (by kernel_rfl)
     have n14 : D 14 = false := hno 14 (by kernel_rfl)
     have n15 : D 15 = false := hno 15 (by kernel_rfl)
     clear hdep hno
     simp only [setAll, List.foldl_cons, List.foldl_nil, Act.put, List.setIfInBounds_toArray, List.set_cons_succ, List.set_cons_zero]
     have HS1 := Lib.hid (hJ.s14 e1)
     obtain ⟨g, hs2, hg⟩ := hJ.s17 e4 hD
     have HS2 := Lib.hid hs2
     have HG := Lib.hid hg
     have HO := Lib.hid (hJ.k0 hD).1
     have HJ := Lib.hid hJ
     clear hJ hs2 hg
     simp only [HS1.out, HS2.out]
     refine step_append_Own (act := ⟨_, []⟩) rfl (.tmp 14) (.tmp 17) 24 rfl w.heap.size 9 _ 1 16 Tryz.underlying24 Tryz.infoStr rfl (by decide) ka l.length kc _ (by simp [go_sem]) HO.out (some ⟨g, 0, none⟩) 1 1 [strV x.1] (by simp [go_sem]) (row_blk HG.out rfl) (by intro u hu; simp at hu; subst hu; rfl) (by unfold maxLen; omega) (by omega) HJ.out.below.size ?_
     intro a5 c5 w5 ho5 hg5 hb5
     simp only [Act.put, List.setIfInBounds_toArray, List.set_cons_succ, List.set_cons_zero]
     refine hK.out _ _ _ ?_ (HJ.out.op5 hD n13 ho5 hg5 hb5)
     simp only [HS1.out, HS2.out, setAll, List.foldl_cons, List.foldl_nil, Act.put, List.setIfInBounds_toArray, List.set_cons_succ, List.set_cons_zero]
    refine InvAllF.skip (by kernel_rfl) ?_
    refine InvAllF.cons (o := ⟨some 20, _, _, _, _, _⟩) (by kernel_rfl) (fun D s W hD hdep hno hJ K hK => ?_) ?_
    ·
     have n11 : D 11 = false := hno 11 (by kernel_rfl)
     have n12 : D 12 = false := hno 12 (by kernel_rfl)
     have n13 : D 13 = false := hno 13 (by kernel_rfl)
     have n14 : D 14 = false := hno 14 (by kernel_rfl)
     have n15 : D 15 = false := hno 15 (by kernel_rfl)
     clear hdep hno
     simp only [setAll, List.foldl_cons, List.foldl_nil, Act.put, List.setIfInBounds_toArray, List.set_cons_succ, List.set_cons_zero]
     have HBk := Lib.hid hJ.blk
     have b0 := HBk.out.cell 0
     have b1 := HBk.out.cell 1
     have b2 := HBk.out.cell 2
     have b3 := HBk.out.cell 3
     have b4 := HBk.out.cell 4
     have b5 := HBk.out.cell 5
     have m4 := HBk.out.free 4
     have m5 := HBk.out.free 5
     unfold recC at b0 b1 b2 b3 b4 b5
     simp only [List.getElem?_toArray, List.getElem?_cons_zero, List.getElem?_cons_succ] at b0 b1 b2 b3 b4 b5
     clear HBk
     rw [n15] at b4
     have HJ := Lib.hid hJ
     clear hJ b0 b1 b2 b3 b5 m4 m5
     go_simp
     refine hK.out _ _ _ ?_ HJ.out.op7
     simp only [setAll, List.foldl_cons, List.foldl_nil, Act.put, List.setIfInBounds_toArray, List.set_cons_succ, List.set_cons_zero]
    refine InvAllF.skip (by kernel_rfl) ?_
    refine InvAllF.skip (by kernel_rfl) ?_
    refine InvAllF.cons (o := ⟨some 23, _, _, _, _, _⟩) (by kernel_rfl) (fun D s W hD hdep hno hJ K hK => ?_) ?_
    ·
     have n11 : D 11 = false := hno 11 (by kernel_rfl)
     have n13 : D 13 = false := hno 13 (by kernel_rfl)
     have n14 : D 14 = false := hno 14 (by kernel_rfl)
     have n15 : D 15 = false := hno 15 (by kernel_rfl)
     clear hdep hno
     simp only [setAll, List.foldl_cons, List.foldl_nil, Act.put, List.setIfInBounds_toArray, List.set_cons_succ, List.set_cons_zero]
     have HJ := Lib.hid hJ
     clear hJ
     go_simp
     refine hK.out _ _ _ ?_ HJ.out.op10'
     simp only [setAll, List.foldl_cons, List.foldl_nil, Act.put, List.setIfInBounds_toArray, List.set_cons_succ, List.set_cons_zero]
    refine InvAllF.cons (o := ⟨some 24, _, _, _, _, _⟩) (by kernel_rfl) (fun D s W hD hdep hno hJ K hK => ?_) ?_
    ·
     have e1 : D 1 = true := hdep 1 (by kernel_rfl)
     have e4 : D 4 = true := hdep 4 (by kernel_rfl)
     have e5 : D 5 = true := hdep 5 (by kernel_rfl)
     have e7 : D 7 = true := hdep 7 (by kernel_rfl)
     have e10 : D 10 = true := hdep 10 (by kernel_rfl)
     have n13 : D 13 = false := hno 13 (by kernel_rfl)
     have n14 : D 14 = false := hno 14 (by kernel_rfl)
     have n15 : D 15 = false := hno 15 (by kernel_rfl)
     clear hdep hno
     simp only [setAll, List.foldl_cons, List.foldl_nil, Act.put, List.setIfInBounds_toArray, List.set_cons_succ, List.set_cons_zero]
     have HS1 := Lib.hid (hJ.s20 e7)
     obtain ⟨g, hs2, hg⟩ := hJ.s23 e10 hD
     have HS2 := Lib.hid hs2
     have HG := Lib.hid hg
     have HO := Lib.hid (hJ.v0 hD).1
     have HJ := Lib.hid hJ
     clear hJ hs2 hg
     simp only [HS1.out, HS2.out]
     refine step_append_Own (act := ⟨_, []⟩) rfl (.tmp 20) (.tmp 23) 34 rfl w.heap.size 36 _ 6 88 Tryz.underlying34 Tryz.infoVal rfl (by decide) la l.length lc _ (by simp [go_sem]) HO.out (some ⟨g, 0, none⟩) 1 1 x.2.cells (by simp [go_sem]) (row_blk HG.out x.2.len) (by rw [val_list]; intro u hu; simp at hu; rcases hu with rfl | rfl | rfl | rfl | rfl | rfl <;> rfl) (by unfold maxLen; omega) (by omega) HJ.out.below.size ?_
     intro a5 c5 w5 ho5 hg5 hb5
     simp only [Act.put, List.setIfInBounds_toArray, List.set_cons_succ, List.set_cons_zero]
     refine hK.out _ _ _ ?_ (HJ.out.op11 hD n15 ho5 hg5 hb5)
     simp only [HS1.out, HS2.out, setAll, List.foldl_cons, List.foldl_nil, Act.put, List.setIfInBounds_toArray, List.set_cons_succ, List.set_cons_zero]
    refine InvAllF.cons (o := ⟨some 25, _, _, _, _, _⟩) (by kernel_rfl) (fun D s W hD hdep hno hJ K hK => ?_) ?_
    ·
     have e1 : D 1 = true := hdep 1 (by kernel_rfl)
     have e4 : D 4 = true := hdep 4 (by kernel_rfl)
     have e5 : D 5 = true := hdep 5 (by kernel_rfl)
     have e7 : D 7 = true := hdep 7 (by kernel_rfl)
     have n13 : D 13 = false := hno 13 (by kernel_rfl)
     have n14 : D 14 = false := hno 14 (by kernel_rfl)
     have n15 : D 15 = false := hno 15 (by kernel_rfl)
     clear hdep hno
     simp only [setAll, List.foldl_cons, List.foldl_nil, Act.put, List.setIfInBounds_toArray, List.set_cons_succ, List.set_cons_zero]
     have HJ := Lib.hid hJ
     clear hJ
     go_simp
     refine hK.out _ _ _ ?_ HJ.out.op12
     simp only [setAll, List.foldl_cons, List.foldl_nil, Act.put, List.setIfInBounds_toArray, List.set_cons_succ, List.set_cons_zero]
    refine InvAllF.cons (o := ⟨none, _, _, _, _, _⟩) (by kernel_rfl) (fun D s W hD hdep hno hJ K hK => ?_) ?_
    ·
     have e1 : D 1 = true := hdep 1 (by kernel_rfl)
     have e4 : D 4 = true := hdep 4 (by kernel_rfl)
     have e5 : D 5 = true := hdep 5 (by kernel_rfl)
     have e7 : D 7 = true := hdep 7 (by kernel_rfl)
     have e10 : D 10 = true := hdep 10 (by kernel_rfl)
     have e11 : D 11 = true := hdep 11 (by kernel_rfl)
     have e12 : D 12 = true := hdep 12 (by kernel_rfl)
     have n14 : D 14 = false := hno 14 (by kernel_rfl)
     have n15 : D 15 = false := hno 15 (by kernel_rfl)
     clear hdep hno
     simp only [setAll, List.foldl_cons, List.foldl_nil, Act.put, List.setIfInBounds_toArray, List.set_cons_succ, List.set_cons_zero]
     obtain ⟨a2, c2, q18, -⟩ := hJ.k1 e5
     have q25 := hJ.s25 e12
     have HBk := Lib.hid hJ.blk
     have b0 := HBk.out.cell 0
     have b1 := HBk.out.cell 1
     have b2 := HBk.out.cell 2
     have b3 := HBk.out.cell 3
     have b4 := HBk.out.cell 4
     have b5 := HBk.out.cell 5
     have m4 := HBk.out.free 4
     have m5 := HBk.out.free 5
     unfold recC at b0 b1 b2 b3 b4 b5
     simp only [List.getElem?_toArray, List.getElem?_cons_zero, List.getElem?_cons_succ] at b0 b1 b2 b3 b4 b5
     clear HBk
     have HQ := Lib.hid q18
     have HQ2 := Lib.hid q25
     have HJ := Lib.hid hJ
     clear hJ b0 b1 b2 b3 b4 m4
     rw [q25, q18]
     clear q25 q18
     go_simp
     refine hK.out _ undef _ ?_ (HQ.out ▸ (HJ.out.op13 e5 e11 n15 _))
     simp only [HQ.out, HQ2.out, setAll, List.foldl_cons, List.foldl_nil, Act.put, List.setIfInBounds_toArray, List.set_cons_succ, List.set_cons_zero]
    refine InvAllF.cons (o := ⟨some 26, _, _, _, _, _⟩) (by kernel_rfl) (fun D s W hD hdep hno hJ K hK => ?_) ?_
    ·
     have e1 : D 1 = true := hdep 1 (by kernel_rfl)
     have e4 : D 4 = true := hdep 4 (by kernel_rfl)
     have e5 : D 5 = true := hdep 5 (by kernel_rfl)
     have e7 : D 7 = true := hdep 7 (by kernel_rfl)
     have e10 : D 10 = true := hdep 10 (by kernel_rfl)
     have e11 : D 11 = true := hdep 11 (by kernel_rfl)
     have e12 : D 12 = true := hdep 12 (by kernel_rfl)
     have e13 : D 13 = true := hdep 13 (by kernel_rfl)
     have n15 : D 15 = false := hno 15 (by kernel_rfl)
     clear hdep hno
     simp only [setAll, List.foldl_cons, List.foldl_nil, Act.put, List.setIfInBounds_toArray, List.set_cons_succ, List.set_cons_zero]
     have HJ := Lib.hid hJ
     clear hJ
     go_simp
     refine hK.out _ _ _ ?_ HJ.out.op14
     simp only [setAll, List.foldl_cons, List.foldl_nil, Act.put, List.setIfInBounds_toArray, List.set_cons_succ, List.set_cons_zero]
    refine InvAllF.cons (o := ⟨none, _, _, _, _, _⟩) (by kernel_rfl) (fun D s W hD hdep hno hJ K hK => ?_) ?_
    ·
     have e1 : D 1 = true := hdep 1 (by kernel_rfl)
     have e4 : D 4 = true := hdep 4 (by kernel_rfl)
     have e5 : D 5 = true := hdep 5 (by kernel_rfl)
     have e7 : D 7 = true := hdep 7 (by kernel_rfl)
     have e10 : D 10 = true := hdep 10 (by kernel_rfl)
     have e11 : D 11 = true := hdep 11 (by kernel_rfl)
     have e12 : D 12 = true := hdep 12 (by kernel_rfl)
     have e13 : D 13 = true := hdep 13 (by kernel_rfl)
     have e14 : D 14 = true := hdep 14 (by kernel_rfl)
     clear hdep hno
     simp only [setAll, List.foldl_cons, List.foldl_nil, Act.put, List.setIfInBounds_toArray, List.set_cons_succ, List.set_cons_zero]
     obtain ⟨a2, c2, q24, -⟩ := hJ.v1 e11
     have q26 := hJ.s26 e14
     have HBk := Lib.hid hJ.blk
     have b0 := HBk.out.cell 0
     have b1 := HBk.out.cell 1
     have b2 := HBk.out.cell 2
     have b3 := HBk.out.cell 3
     have b4 := HBk.out.cell 4
     have b5 := HBk.out.cell 5
     have m4 := HBk.out.free 4
     have m5 := HBk.out.free 5
     unfold recC at b0 b1 b2 b3 b4 b5
     simp only [List.getElem?_toArray, List.getElem?_cons_zero, List.getElem?_cons_succ] at b0 b1 b2 b3 b4 b5
     clear HBk
     have HQ := Lib.hid q24
     have HQ2 := Lib.hid q26
     have HJ := Lib.hid hJ
     clear hJ b0 b1 b2 b3 b5 m5
     rw [q26, q24]
     clear q26 q24
     go_simp
     refine hK.out _ undef _ ?_ (HQ.out ▸ (HJ.out.op15 e5 e11 e13 _))
     simp only [HQ.out, HQ2.out, setAll, List.foldl_cons, List.foldl_nil, Act.put, List.setIfInBounds_toArray, List.set_cons_succ, List.set_cons_zero]
    exact InvAllF.nil
   ·
    intro D s W hD hJ
    have HE := Lib.hid (hJ.ends (hD 5 (by decide)) (hD 11 (by decide)) (hD 13 (by decide)) (hD 15 (by decide)))
    clear hJ hD
    simp only [setAll, List.foldl_cons, List.foldl_nil, Act.put, List.setIfInBounds_toArray, List.set_cons_succ, List.set_cons_zero]
    go_wp2
    go_roundw
    case rel => exact ⟨k + 1, by omega, by go_num, Lib.hid (by rw [take_snoc1 HX.out, ← HT.out]; exact HE.out)⟩
    case measure => simp [intOf]; omega
  ·
   have hkn : k = parts.length := by omega
   have HE := HL
   clear HL
   have v0 := HE.out.blk.cell 0
   have v1 := HE.out.blk.cell 1
   have v2 := HE.out.blk.cell 2
   have v3 := HE.out.blk.cell 3
   have v4 := HE.out.blk.cell 4
   have v5 := HE.out.blk.cell 5
   have z0 := HE.out.res.cell 0
   have z1 := HE.out.res.cell 1
   have z2 := HE.out.res.cell 2
   have z3 := HE.out.res.cell 3
   have z4 := HE.out.res.cell 4
   have z5 := HE.out.res.cell 5
   have f0 := HE.out.res.free 0
   have f1 := HE.out.res.free 1
   have f2 := HE.out.res.free 2
   have f3 := HE.out.res.free 3
   have f4 := HE.out.res.free 4
   have f5 := HE.out.res.free 5
   unfold recC at v0 v1 v2 v3 v4 v5
   unfold zeroC at z0 z1 z2 z3 z4 z5
   simp only [List.getElem?_toArray, List.getElem?_cons_zero, List.getElem?_cons_succ] at v0 v1 v2 v3 v4 v5 z0 z1 z2 z3 z4 z5
   have HN : Hid (l = parts) := Lib.hid (by rw [HT.out, hkn]; simp)
   clear hkn
   go_wp2
   refine rec_end (g := w.heap.size) rfl (store6 HE.out.res) ?_
   have h := HE.out
   exact HN.out ▸ h.doc (o := 0) HPP.out (HN.out ▸ HP.out.vals) (Nat.le_refl _) rfl
end Go.Proofs.YthnbeebilomchaaGreatDoor

namespace Go.Proofs.YthnbeebilomchaaGreatDoor
open Go Go.RowKit

def strD (s : Nm) : VD := .mk 3 false 0 s none 0 [] none 0 []
def numD (n : Int) : VD := .mk 2 false n [] none 0 [] none 0 []
theorem ptC_str (k s : Nm) : ptC (k, strD s) = [.string ⟨k.toArray⟩, .int .i64 3, .bool false, .int .i64 0, .string ⟨s.toArray⟩, .slice none 0 0, .slice none 0 0] := rfl
theorem ptC_num (k : Nm) (n : Int) : ptC (k, numD n) = [.string ⟨k.toArray⟩, .int .i64 2, .bool false, .int .i64 n, .string { data := #[] }, .slice none 0 0, .slice none 0 0] := rfl
theorem ptC_of (k : Nm) (d : VD) : ptC (k, d) = [.string ⟨k.toArray⟩, .int .i64 d.sort, .bool d.on, .int .i64 d.n, .string ⟨d.text.toArray⟩, .slice d.a d.list.length d.c, .slice d.ka d.keys.length d.kc] := by obtain ⟨s, o, n, t, va, vc, l2, ka, kc, ks⟩ := d; rfl
theorem docS {w wr : World} {P P' : Nat → Prop} {gr o : Nat} {v : V} {d : VD} (hv : d.v = v) (hd : ValAt wr P' d) (hp : ∀ g, P' g → g ≠ gr ∧ P g) (hb : Below w.heap.size w wr) (hg : w.heap.size ≤ gr) :
    DocP w P v (.returned (.agg #[.int .i64 d.sort, .bool d.on, .int .i64 d.n, .string ⟨d.text.toArray⟩, .slice d.a d.list.length d.c, .slice d.ka d.keys.length d.kc])) (put6 wr gr o (.int .i64 d.sort) (.bool d.on) (.int .i64 d.n) (.string ⟨d.text.toArray⟩) (.slice d.a d.list.length d.c) (.slice d.ka d.keys.length d.kc)) :=
  ⟨d, rfl, hv, (hd.congr fun g h _ => put6_other (hp g h).1).mono fun g h _ => (hp g h).2, put6_below hb hg⟩
theorem at_end {W : World} {tm : Array Value} {R : Ending → World → Prop} {g : Nat} {u0 u1 u2 u3 u4 u5 : Value} (h2 : tm.getD 2 undef = .pointer (some ⟨g, 0, none⟩)) (hB : Blk W g #[u0, u1, u2, u3, u4, u5] 36)
    (hR : R (.returned (.agg #[u0, u1, u2, u3, u4, u5])) W) : bodyPost Tryz.prog Tryz.f55 R .ret { tmps := tm, defers := [] } W := by
  have d0 := hB.cell 0
  have d1 := hB.cell 1
  have d2 := hB.cell 2
  have d3 := hB.cell 3
  have d4 := hB.cell 4
  have d5 := hB.cell 5
  simp only [List.getElem?_toArray, List.getElem?_cons_zero, List.getElem?_cons_succ] at d0 d1 d2 d3 d4 d5
  rw [Array.getD_eq_getD_getElem?] at h2
  refine bodyPost_ret (v := .agg #[u0, u1, u2, u3, u4, u5]) ?_ rfl hR
  simp [results, Tryz.results55, go_sem, h2, d0, d1, d2, d3, d4, d5]
set_option maxHeartbeats 4000000 in
set_option maxRecDepth 20000 in
theorem at_any (P : Nat → Prop) (a b : Int) (w : World) (hP : ∀ g, w.heap.size ≤ g → P g) : Calls Tryz.prog 55 #[.agg #[.int .i64 a, .int .i64 b]] w (DocP w P (atW a b)) := by
 obtain ⟨W0, hW0⟩ : ∃ W0, W0 = (w.alloc (.cells #[.int .i64 a, .int .i64 b] 29)).alloc (.cells #[.int .i64 0, .bool false, .int .i64 0, .string { data := #[] }, .slice none 0 0, .slice none 0 0] 36) := ⟨_, rfl⟩
 have HR : Hid (Blk W0 w.heap.size #[.int .i64 a, .int .i64 b] 29) := Lib.hid (by rw [hW0]; exact (Blk.new rfl).alloc _)
 have HZ : Hid (Blk W0 (w.heap.size + 1) #[.int .i64 0, .bool false, .int .i64 0, .string { data := #[] }, .slice none 0 0, .slice none 0 0] 36) := Lib.hid (by rw [hW0]; exact Blk.new (by simp))
 have HW : Hid (Below w.heap.size w W0) := Lib.hid (by rw [hW0]; exact (below_a1 w _).alloc (by simp) _)
 have HP := Lib.hid hP
 have hw0 := HZ.out.lt
 have HPP : Hid (∀ W : World, W0.heap.size ≤ W.heap.size → ∀ g, W.heap.size ≤ g → w.heap.size + 1 < g) := Lib.hid fun W h g hg => by omega
 have HK : Hid (∀ w' : World, Below W0.heap.size W0 w' → (fun w' => Blk w' w.heap.size #[.int .i64 a, .int .i64 b] 29) w') := Lib.hid fun w' hb => HR.out.ext hb
 clear hP
 go_enter Tryz.func55, Tryz.ntmps55
 go_upto_region 1 with (fail)
 rw [← hW0]
 clear hW0
 have HB0 : Hid (Below W0.heap.size W0 W0.drew) := Lib.hid (Below.refl _ _).drew
 obtain ⟨Wd, hWd⟩ : ∃ Wd, Wd = W0.drew := ⟨_, rfl⟩
 have HB : Hid (Below W0.heap.size W0 Wd) := Lib.hid (by rw [hWd]; exact HB0.out)
 refine wp_region_held_drew (S := (fun w' => Blk w' w.heap.size #[.int .i64 a, .int .i64 b] 29)) (by kernel_rfl) ?_ (fun hHeld => ?_)
 ·
  exact HK.out _ HB0.out
 rw [← hWd] at hHeld ⊢
 clear hWd HB0
 refine wpAnyH_take (i := 0) (oi := ⟨some 3, _, _, _, _, _⟩) (v := ?_) rfl (by kernel_rfl) (by kernel_rfl) (by kernel_rfl) (fun _ _ _ h => h) (Or.inl ⟨by rfl, ?_⟩) (by assumption) ?_; rotate_left; focus (intro w hSw; (try dsimp only at hSw); first | (go_simp; done) | (go_simp; with_reducible rfl))
 try simp only [Act.put, List.setIfInBounds_toArray, List.set_cons_succ, List.set_cons_zero]
 refine wpAnyH_take (i := 1) (oi := ⟨some 4, _, _, _, _, _⟩) (v := ?_) rfl (by kernel_rfl) (by kernel_rfl) (by kernel_rfl) (fun _ _ _ h => h) (Or.inl ⟨by rfl, ?_⟩) (by assumption) ?_; rotate_left; focus (intro w hSw; (try dsimp only at hSw); have q0 := hSw.cell 0; simp only [List.getElem?_toArray, List.getElem?_cons_zero] at q0; first | (go_simp; done) | (go_simp; with_reducible rfl))
 try simp only [Act.put, List.setIfInBounds_toArray, List.set_cons_succ, List.set_cons_zero]
 refine wpAnyH_take (i := 4) (oi := ⟨some 7, _, _, _, _, _⟩) (v := ?_) rfl (by kernel_rfl) (by kernel_rfl) (by kernel_rfl) (fun _ _ _ h => h) (Or.inl ⟨by rfl, ?_⟩) (by assumption) ?_; rotate_left; focus (intro w hSw; (try dsimp only at hSw); first | (go_simp; done) | (go_simp; with_reducible rfl))
 try simp only [Act.put, List.setIfInBounds_toArray, List.set_cons_succ, List.set_cons_zero]
 refine wpAnyH_take (i := 5) (oi := ⟨some 8, _, _, _, _, _⟩) (v := ?_) rfl (by kernel_rfl) (by kernel_rfl) (by kernel_rfl) (fun _ _ _ h => h) (Or.inl ⟨by rfl, ?_⟩) (by assumption) ?_; rotate_left; focus (intro w hSw; (try dsimp only at hSw); have q0 := hSw.cell 1; simp only [List.getElem?_toArray, List.getElem?_cons_zero, List.getElem?_cons_succ] at q0; first | (go_simp; done) | (go_simp; with_reducible rfl))
 try simp only [Act.put, List.setIfInBounds_toArray, List.set_cons_succ, List.set_cons_zero]
 refine wpAnyH_ready (rs := [2]) (by kernel_rfl) (by simp) ?_
 refine AllReadyH.cons (i := 2) (o := ⟨some 5, _, _, _, _, _⟩) rfl (fun K hK => ?_) ?_
 ·
  go_simp
  refine (num_any a _).mono ?_
  rintro e ws ⟨rfl, hb⟩
  have HBn : Hid (Below W0.heap.size W0 ws) := Lib.hid (HB.out.trans (hb.mono HB.out.size))
  clear HB hb
  have HB := HBn
  clear HBn
  refine hK.out _ _ ?_ (fun hHeld => ?_)
  ·
   exact HK.out _ HB.out
  try simp only [Act.put, List.setIfInBounds_toArray, List.set_cons_succ, List.set_cons_zero]
  refine wpAnyH_take (i := 3) (oi := ⟨some 6, _, _, _, _, _⟩) (v := ?_) rfl (by kernel_rfl) (by kernel_rfl) (by kernel_rfl) (fun _ _ _ h => h) (Or.inl ⟨by rfl, ?_⟩) (by assumption) ?_; rotate_left; focus (intro w hSw; (try dsimp only at hSw); first | (go_simp; done) | (go_simp; with_reducible rfl))
  try simp only [Act.put, List.setIfInBounds_toArray, List.set_cons_succ, List.set_cons_zero]
  refine wpAnyH_ready (rs := [6]) (by kernel_rfl) (by simp) ?_
  refine AllReadyH.cons (i := 6) (o := ⟨some 9, _, _, _, _, _⟩) rfl (fun K hK => ?_) ?_
  ·
   go_simp
   refine (num_any b _).mono ?_
   rintro e wt ⟨rfl, hb⟩
   have HBn : Hid (Below W0.heap.size W0 wt) := Lib.hid (HB.out.trans (hb.mono HB.out.size))
   clear HB hb
   have HB := HBn
   clear HBn
   refine hK.out _ _ ?_ (fun hHeld => ?_)
   ·
    exact HK.out _ HB.out
   try simp only [Act.put, List.setIfInBounds_toArray, List.set_cons_succ, List.set_cons_zero]
   refine wpAnyH_take (i := 7) (oi := ⟨some 10, _, _, _, _, _⟩) (v := ?_) rfl (by kernel_rfl) (by kernel_rfl) (by kernel_rfl) (fun _ _ _ h => h) (Or.inl ⟨by rfl, ?_⟩) (by assumption) ?_; rotate_left; focus (intro w hSw; (try dsimp only at hSw); first | (go_simp; done) | (go_simp; with_reducible rfl))
   try simp only [Act.put, List.setIfInBounds_toArray, List.set_cons_succ, List.set_cons_zero]
   refine wpAnyH_ready (rs := [8]) (by kernel_rfl) (by simp) ?_
   refine AllReadyH.cons (i := 8) (o := ⟨some 11, _, _, _, _, _⟩) rfl (fun K hK => ?_) ?_
   ·
    obtain ⟨gv, hgv⟩ : ∃ gv, gv = wt.heap.size := ⟨_, rfl⟩
    obtain ⟨wv, hwv⟩ : ∃ wv, wv = wt.alloc (.cells ([(kLine, numD a), (kChar, numD b)].flatMap ptC).toArray 74) := ⟨_, rfl⟩
    have hb : Below wt.heap.size wt wv := by rw [hwv]; exact below_a1 _ _
    have HPgv : Hid (PtsAt wv (fun g => w.heap.size + 1 < g) (some ⟨gv, 0, none⟩) [(kLine, numD a), (kChar, numD b)]) := Lib.hid ⟨by rw [hwv, hgv]; exact row_blk (Blk.new rfl) (flat_length ptC 7 ptC_len _), fun p hp => by
     simp only [List.mem_cons, List.mem_nil_iff, or_false] at hp
     rcases hp with rfl | rfl
     ·
      exact .leaf
     ·
      exact .leaf⟩
    have HBn : Hid (Below W0.heap.size W0 wv) := Lib.hid (HB.out.trans (hb.mono HB.out.size))
    clear HB hb
    have HB := HBn
    clear HBn
    simp only [List.flatMap_cons, List.flatMap_nil] at hwv
    try simp only [ptC_str] at hwv
    try simp only [ptC_num] at hwv
    try simp only [ptC_of] at hwv
    simp only [List.cons_append, List.nil_append, List.append_nil, kLine, kChar] at hwv
    go_simp
    rw [← hwv, ← hgv]
    clear hwv hgv
    refine hK.out _ _ ?_ (fun hHeld => ?_)
    ·
     exact HK.out _ HB.out
    try simp only [Act.put, List.setIfInBounds_toArray, List.set_cons_succ, List.set_cons_zero]
    refine wpAnyH_ready (rs := [9]) (by kernel_rfl) (by simp) ?_
    refine AllReadyH.cons (i := 9) (o := ⟨some 12, _, _, _, _, _⟩) rfl (fun K hK => ?_) ?_
    ·
     go_simp
     have hR := record_any (fun g => w.heap.size + 1 < g) (some ⟨gv, 0, none⟩) 2 [(kLine, numD a), (kChar, numD b)] wv (HPP.out _ HB.out.size) HPgv.out (by simp)
     simp only [List.length_cons, List.length_nil, Nat.zero_add, Nat.reduceAdd] at hR
     refine hR.mono ?_
     clear hR
     rintro e wr ⟨d, rfl, hvd, hdd, hb⟩
     have HVd := Lib.hid hvd
     have HDd := Lib.hid hdd
     clear hvd hdd
     have HBn : Hid (Below W0.heap.size W0 wr) := Lib.hid (HB.out.trans (hb.mono HB.out.size))
     clear HB hb
     have HB := HBn
     clear HBn
     refine hK.out _ _ ?_ (fun hHeld => ?_)
     ·
      exact HK.out _ HB.out
     try simp only [Act.put, List.setIfInBounds_toArray, List.set_cons_succ, List.set_cons_zero]
     refine wpAnyH_ready (rs := [10]) (by kernel_rfl) (by simp) ?_
     refine AllReadyH.cons (i := 10) (o := ⟨none, _, _, _, _, _⟩) rfl (fun K hK => ?_) ?_
     ·
      have HZr := Lib.hid (HZ.out.ext HB.out)
      have f0 := HZr.out.free 0
      have f1 := HZr.out.free 1
      have f2 := HZr.out.free 2
      have f3 := HZr.out.free 3
      have f4 := HZr.out.free 4
      have f5 := HZr.out.free 5
      obtain ⟨z0, z1, z2, z3, z4, z5⟩ := HZr.out.sixT
      go_simp
      refine hK.out _ _ ?_ (fun hHeld => ?_)
      ·
       exact (put6_other (g := w.heap.size + 1) (o := 0) (by omega)).trans (HK.out _ HB.out)
      try simp only [Act.put, List.setIfInBounds_toArray, List.set_cons_succ, List.set_cons_zero]
      refine wpAnyH_done (by kernel_rfl) ?_ _
      clear hHeld
      go_wp2
      refine at_end (g := w.heap.size + 1) rfl (store6 HZr.out) ?_
      exact docS (P := P) (o := 0) HVd.out HDd.out (fun g h => ⟨by omega, HP.out g (by omega)⟩) (HW.out.trans (HB.out.mono HW.out.size)) (by omega)
     exact AllReadyH.nil
    exact AllReadyH.nil
   exact AllReadyH.nil
  exact AllReadyH.nil
 exact AllReadyH.nil
end Go.Proofs.YthnbeebilomchaaGreatDoor

namespace Go.Proofs.YthnbeebilomchaaGreatDoor
open Go Go.RowKit

def getS (v : V) (s : Int) (p : List Nm) : Option V := (getV v p).bind fun x => if x.sort = s then some x else none
theorem gText_S (v : V) (p : List Nm) : gText v p = (getS v 3 p).map V.text := by
  unfold gText getS
  cases getV v p with
  | none => rfl
  | some x => simp only [Option.bind_some]; split <;> rfl
theorem gNum_S (v : V) (p : List Nm) : gNum v p = (getS v 2 p).map V.n := by
  unfold gNum getS
  cases getV v p with
  | none => rfl
  | some x => simp only [Option.bind_some]; split <;> rfl
theorem gList_S (v : V) (p : List Nm) : gList v p = (getS v 4 p).map V.list := by
  unfold gList getS
  cases getV v p with
  | none => rfl
  | some x => simp only [Option.bind_some]; split <;> rfl
def prC (d : VD) (m : Bool) : Array Value := #[.int .i64 d.sort, .bool d.on, .int .i64 d.n, .string ⟨d.text.toArray⟩, .slice d.a d.list.length d.c, .slice d.ka d.keys.length d.kc, .bool m]
def zeroD : VD := .mk 0 false 0 [] none 0 [] none 0 []
def SorE (w : World) (pb : Nat) (d : VD) (m : Bool) (P : Nat → Prop) (r : Option V) (e : Ending) (w' : World) : Prop :=
  w.grownBy w' (some pb) ∧ Blk w' pb (prC d (m || r.isNone)) 96 ∧ ∃ x : VD, e = .returned (.agg #[.int .i64 x.sort, .bool x.on, .int .i64 x.n, .string ⟨x.text.toArray⟩, .slice x.a x.list.length x.c, .slice x.ka x.keys.length x.kc]) ∧ x.v = r.getD .null ∧ ValAt w' P x
theorem grown_of {w w' : World} {row : Option Nat} (h : Below w.heap.size w w') : w.grownBy w' row := ⟨h.os, h.tape, h.output, h.size, fun k hk _ => h.block k hk⟩
theorem grown_set {w w' : World} {g : Nat} (h : w.grownBy w' (some g)) (o : Nat) (u : Value) : w.grownBy (w'.setCell ⟨g, o, none⟩ u) (some g) :=
  ⟨h.os, h.tape, h.output, by simpa using h.size, fun k hk hne => (Below.heap_setCell w' _ u k (fun e => hne (by rw [e]))).trans (h.block k hk hne)⟩
theorem grown_put {w w' : World} {row : Option Nat} (h : w.grownBy w' row) {g : Nat} (hg : w.heap.size ≤ g) (o : Nat) (u : Value) : w.grownBy (w'.setCell ⟨g, o, none⟩ u) row :=
  ⟨h.os, h.tape, h.output, by simpa using h.size, fun k hk hne => (Below.heap_setCell w' _ u k (fun e => by have : k = g := e; omega)).trans (h.block k hk hne)⟩
theorem grown_put6 {w w' : World} {row : Option Nat} (h : w.grownBy w' row) {g o : Nat} (hg : w.heap.size ≤ g) (u0 u1 u2 u3 u4 u5 : Value) : w.grownBy (put6 w' g o u0 u1 u2 u3 u4 u5) row := by
  unfold put6
  exact grown_put (grown_put (grown_put (grown_put (grown_put (grown_put h hg _ _) hg _ _) hg _ _) hg _ _) hg _ _) hg _ _
theorem sorted_end {W : World} {tm : Array Value} {R : Ending → World → Prop} {g : Nat} {u0 u1 u2 u3 u4 u5 : Value} (h2 : tm.getD 6 undef = .pointer (some ⟨g, 0, none⟩)) (hB : Blk W g #[u0, u1, u2, u3, u4, u5] 36)
    (hR : R (.returned (.agg #[u0, u1, u2, u3, u4, u5])) W) : bodyPost Tryz.prog Tryz.f64 R .ret { tmps := tm, defers := [] } W := by
  have d0 := hB.cell 0
  have d1 := hB.cell 1
  have d2 := hB.cell 2
  have d3 := hB.cell 3
  have d4 := hB.cell 4
  have d5 := hB.cell 5
  simp only [List.getElem?_toArray, List.getElem?_cons_zero, List.getElem?_cons_succ] at d0 d1 d2 d3 d4 d5
  rw [Array.getD_eq_getD_getElem?] at h2
  refine bodyPost_ret (v := .agg #[u0, u1, u2, u3, u4, u5]) ?_ rfl hR
  simp [results, Tryz.results64, go_sem, h2, d0, d1, d2, d3, d4, d5]
theorem get_w (P : Nat → Prop) (d : VD) (pa : Option Addr) (pc : Nat) (p : List Nm) (w : World) (hv : ValAt w P d) (hp : Row w 1 pa p.length (p.map strV)) (hl : p.length ≤ 1048576) (hs : sizeV d.v ≤ 1048576) :
  Calls Tryz.prog 44 #[.agg #[.int .i64 d.sort, .bool d.on, .int .i64 d.n, .string ⟨d.text.toArray⟩, .slice d.a d.list.length d.c, .slice d.ka d.keys.length d.kc], .slice pa p.length pc] w
   (fun e w' => ∃ (x : VD) (b : Bool), e = .returned (.tuple #[.agg #[.int .i64 x.sort, .bool x.on, .int .i64 x.n, .string ⟨x.text.toArray⟩, .slice x.a x.list.length x.c, .slice x.ka x.keys.length x.kc], .bool b]) ∧ Hid (b = (getV d.v p).isSome) ∧ Hid (x.v = (getV d.v p).getD .null) ∧ ValAt w P x ∧ Below w.heap.size w w') := by
 have h := get_anyP P d pa pc p w hv hp hl hs
 rw [VD.val6] at h
 refine h.mono fun e w' he => ?_
 obtain ⟨hb, he⟩ := he
 cases hr : getV d.v p with
 | none => rw [hr] at he; exact ⟨zeroD, false, he, rfl, rfl, .leaf, hb⟩
 | some v => rw [hr] at he; obtain ⟨x, h1, h2, h3⟩ := he; exact ⟨x, true, by rw [h1, VD.val6], rfl, h2, h3, hb⟩
set_option maxHeartbeats 2000000 in
theorem sorted_any (P : Nat → Prop) (pb : Nat) (d : VD) (m : Bool) (s : Int) (pa : Option Addr) (pc : Nat) (p : List Nm) (w : World) (hP : ∀ g, P g → g ≠ pb) (hB : Blk w pb (prC d m) 96) (hv : ValAt w P d) (hp : Row w 1 pa p.length (p.map strV)) (hl : p.length ≤ 1048576) (hs : sizeV d.v ≤ 1048576) :
  Calls Tryz.prog 64 #[.pointer (some ⟨pb, 0, none⟩), .int .i64 s, .slice pa p.length pc] w (SorE w pb d m P (getS d.v s p)) := by
 obtain ⟨W0, hW0⟩ : ∃ W0, W0 = w.alloc (.cells #[.int .i64 0, .bool false, .int .i64 0, .string { data := #[] }, .slice none 0 0, .slice none 0 0] 36) := ⟨_, rfl⟩
 have hb0 : Below w.heap.size w W0 := by rw [hW0]; exact below_a1 _ _
 have HZ : Hid (Blk W0 w.heap.size #[.int .i64 0, .bool false, .int .i64 0, .string { data := #[] }, .slice none 0 0, .slice none 0 0] 36) := Lib.hid (by rw [hW0]; exact Blk.new rfl)
 have hPb := hB.ext hb0
 have H1 := Lib.hid (get_w (fun g => P g ∧ g < w.heap.size) d pa pc p W0 ((hv.mono fun g h1 h2 => ⟨h1, h2⟩).ext hb0) (hp.ext hb0) hl hs)
 have hg := hB.lt
 have HP := Lib.hid hPb
 have HB0 := Lib.hid hb0
 have HPP := Lib.hid hP
 have q0 := hPb.cell 0
 have q1 := hPb.cell 1
 have q2 := hPb.cell 2
 have q3 := hPb.cell 3
 have q4 := hPb.cell 4
 have q5 := hPb.cell 5
 unfold prC at q0 q1 q2 q3 q4 q5
 simp only [List.getElem?_toArray, List.getElem?_cons_zero, List.getElem?_cons_succ] at q0 q1 q2 q3 q4 q5
 clear hP hPb hB hb0 hv hp hs
 go_enter Tryz.func64, Tryz.ntmps64
 go_upto_region 1 with (fail)
 rw [← hW0]
 clear hW0
 go_wp2_with fail
 refine H1.out.mono ?_
 clear H1 q0 q1 q2 q3 q4 q5
 rintro e w1 ⟨x, b, rfl, hb, hx, hvx, hbl⟩
 have HP1 := Lib.hid (HP.out.ext hbl)
 have HZ1 := Lib.hid (HZ.out.ext hbl)
 have HB1 := Lib.hid (HB0.out.trans (hbl.mono HB0.out.size))
 have HX := Lib.hid (hvx.ext hbl)
 clear hbl HP HZ hvx
 have hz1 : w.heap.size < w1.heap.size := HZ1.out.lt
 have hz2 : pb ≠ w1.heap.size := by omega
 have HR : Hid (b = true → x.sort = s → getS d.v s p = some x.v) := Lib.hid fun h1 h2 => by
  have := hb.out
  have k := hx.out
  unfold getS
  cases hr : getV d.v p with
  | none => rw [hr, h1] at this; cases this
  | some y => rw [hr] at k; simp only [Option.getD_some] at k; subst k; rw [Option.bind_some, if_pos (by rw [vd_sort]; exact h2)]
 have HN : Hid (b = false ∨ x.sort ≠ s → getS d.v s p = none) := Lib.hid fun h1 => by
  have := hb.out
  have k := hx.out
  unfold getS
  cases hr : getV d.v p with
  | none => rfl
  | some y =>
   rw [hr] at k this
   simp only [Option.getD_some] at k
   subst k
   rw [Option.bind_some, if_neg (by rw [vd_sort]; rcases h1 with h1 | h1; (· rw [h1] at this; cases this); exact h1)]
 obtain ⟨W2, hW2⟩ : ∃ W2, W2 = w1.alloc (.cells #[.int .i64 x.sort, .bool x.on, .int .i64 x.n, .string ⟨x.text.toArray⟩, .slice x.a x.list.length x.c, .slice x.ka x.keys.length x.kc] 36) := ⟨_, rfl⟩
 have HX2 : Hid (Blk W2 w1.heap.size #[.int .i64 x.sort, .bool x.on, .int .i64 x.n, .string ⟨x.text.toArray⟩, .slice x.a x.list.length x.c, .slice x.ka x.keys.length x.kc] 36) := Lib.hid (by rw [hW2]; exact Blk.new rfl)
 have HP2 : Hid (Blk W2 pb (prC d m) 96) := Lib.hid (by rw [hW2]; exact HP1.out.alloc _)
 have HZ2 : Hid (Blk W2 w.heap.size #[.int .i64 0, .bool false, .int .i64 0, .string { data := #[] }, .slice none 0 0, .slice none 0 0] 36) := Lib.hid (by rw [hW2]; exact HZ1.out.alloc _)
 have HB2 : Hid (Below w.heap.size w W2) := Lib.hid (by rw [hW2]; exact HB1.out.alloc HB1.out.size _)
 have HXV : Hid (ValAt W2 (fun g => P g ∧ g < w.heap.size) x) := Lib.hid (by rw [hW2]; exact HX.out.ext (below_a1 _ _))
 go_upto_region 2 with (fail)
 rw [← hW2]
 obtain ⟨gx, hgx⟩ : ∃ gx, gx = w1.heap.size := ⟨_, rfl⟩
 rw [← hgx] at HX2 hz1 hz2 ⊢
 clear hW2 HP1 HZ1 HB1 hgx hb hx
 obtain ⟨c0, c1, c2, c3, c4, c5⟩ := HX2.out.sixT
 have m6 := HP2.out.cell 6
 have n6 := HP2.out.free 6
 have f0 := HZ2.out.free 0
 have f1 := HZ2.out.free 1
 have f2 := HZ2.out.free 2
 have f3 := HZ2.out.free 3
 have f4 := HZ2.out.free 4
 have f5 := HZ2.out.free 5
 obtain ⟨z0, z1, z2, z3, z4, z5⟩ := HZ2.out.sixT
 unfold prC at m6
 simp only [List.getElem?_toArray, List.getElem?_cons_zero, List.getElem?_cons_succ] at m6
 by_cases hok : b = true ∧ x.sort = s
 ·
  obtain ⟨hbt, hxs⟩ := hok
  have HR2 := Lib.hid (HR.out hbt hxs)
  clear HR HN
  subst hbt
  have e1 : (x.sort == s) = true := by simpa using hxs
  have e2 : (x.sort != s) = false := by simpa using hxs
  clear hxs
  go_wp2
  refine sorted_end (g := w.heap.size) rfl (store6 HZ2.out) ⟨grown_put6 (o := 0) (grown_of HB2.out) (Nat.le_refl _) _ _ _ _ _ _, ?_, x, rfl, by rw [HR2.out]; rfl, (HXV.out.congr fun g h _ => put6_other (o := 0) (by have := h.2; omega)).mono fun g h _ => h.1⟩
  rw [HR2.out]
  exact (put6_other (o := 0) (by omega)).trans (by rw [Option.isNone_some, Bool.or_false]; exact HP2.out)
 ·
  have hpz : pb ≠ w.heap.size := by omega
  have HE : Hid (SorE w pb d m P none (.returned (.agg #[.int .i64 0, .bool false, .int .i64 0, .string { data := #[] }, .slice none 0 0, .slice none 0 0])) (put6 (W2.setCell ⟨pb, 6, none⟩ (.bool true)) w.heap.size 0 (.int .i64 0) (.bool false) (.int .i64 0) (.string { data := #[] }) (.slice none 0 0) (.slice none 0 0))) := Lib.hid (by
   refine ⟨grown_put6 (grown_set (grown_of HB2.out) _ _) (Nat.le_refl _) _ _ _ _ _ _, ?_, zeroD, rfl, rfl, .leaf⟩
   rw [Option.isNone_none, Bool.or_true]
   exact (put6_other hpz).trans (HP2.out.set 6 (.bool true)))
  have HZ3 : Hid (Blk (W2.setCell ⟨pb, 6, none⟩ (.bool true)) w.heap.size #[.int .i64 0, .bool false, .int .i64 0, .string { data := #[] }, .slice none 0 0, .slice none 0 0] 36) := Lib.hid (HZ2.out.other (p := ⟨pb, 6, none⟩) (Ne.symm hpz) _)
  cases b with
  | false =>
   have HN2 := Lib.hid (HN.out (.inl rfl))
   clear hok HR HN
   go_wp2
   rw [HN2.out]
   exact sorted_end (g := w.heap.size) rfl (store6 HZ3.out) HE.out
  | true =>
   have e1 : (x.sort == s) = false := by simpa using hok
   have e2 : (x.sort != s) = true := by simpa using hok
   have HN2 := Lib.hid (HN.out (.inr (by simpa using hok)))
   clear hok HR HN
   go_wp2
   rw [HN2.out]
   exact sorted_end (g := w.heap.size) rfl (store6 HZ3.out) HE.out

def ScaE (w : World) (pb : Nat) (d : VD) (m : Bool) (y : Value) (b : Bool) (e : Ending) (w' : World) : Prop :=
  e = .returned y ∧ Blk w' pb (prC d (m || b)) 96 ∧ w.grownBy w' (some pb)
set_option maxHeartbeats 1000000 in
theorem ptext_any (pb : Nat) (d : VD) (m : Bool) (pa : Option Addr) (pc : Nat) (p : List Nm) (w : World) (hB : Blk w pb (prC d m) 96) (hv : ValAt w (fun g => g ≠ pb) d) (hp : Row w 1 pa p.length (p.map strV)) (hl : p.length ≤ 1048576) (hs : sizeV d.v ≤ 1048576) :
  Calls Tryz.prog 43 #[.pointer (some ⟨pb, 0, none⟩), .slice pa p.length pc] w (ScaE w pb d m (.string ⟨((gText d.v p).getD []).toArray⟩) (gText d.v p).isNone) := by
 have H1 := Lib.hid (sorted_any (fun g => g ≠ pb) pb d m 3 pa pc p w (fun _ h => h) hB hv hp hl hs)
 have HQ : Hid (∀ x : VD, x.v = (getS d.v 3 p).getD .null → (.string ⟨((gText d.v p).getD []).toArray⟩ : Value) = .string ⟨x.text.toArray⟩) := Lib.hid fun x hx => by
  rw [gText_S]
  cases hr : getS d.v 3 p with
  | none => rw [hr] at hx; rw [← vd_text, hx]; rfl
  | some y => rw [hr] at hx; rw [← vd_text, hx]; rfl
 have HN : Hid ((getS d.v 3 p).isNone = (gText d.v p).isNone) := Lib.hid (by rw [gText_S]; cases getS d.v 3 p <;> rfl)
 clear hB hv hp hs
 go_enter Tryz.func43, Tryz.ntmps43
 go_wp2_with fail
 refine H1.out.mono ?_
 clear H1
 rintro e w1 ⟨hg, hbk, x, rfl, hx, -⟩
 have HE : Hid (ScaE w pb d m (.string ⟨((gText d.v p).getD []).toArray⟩) (gText d.v p).isNone (.returned (.string ⟨x.text.toArray⟩)) w1) := Lib.hid ⟨by rw [HQ.out x hx], by rw [← HN.out]; exact hbk, hg⟩
 have hf : ∀ w : World, Sem.run Tryz.prog (Instr.field 36 (.agg #[.int .i64 x.sort, .bool x.on, .int .i64 x.n, .string ⟨x.text.toArray⟩, .slice x.a x.list.length x.c, .slice x.ka x.keys.length x.kc]) 3) w = .ok (.string ⟨x.text.toArray⟩) w := fun _ => by kernel_rfl
 have hf := hf w1
 clear hg hbk hx HQ HN
 go_wp2
 go_ret
 exact HE.out
set_option maxHeartbeats 1000000 in
theorem pnumber_any (pb : Nat) (d : VD) (m : Bool) (pa : Option Addr) (pc : Nat) (p : List Nm) (w : World) (hB : Blk w pb (prC d m) 96) (hv : ValAt w (fun g => g ≠ pb) d) (hp : Row w 1 pa p.length (p.map strV)) (hl : p.length ≤ 1048576) (hs : sizeV d.v ≤ 1048576) :
  Calls Tryz.prog 65 #[.pointer (some ⟨pb, 0, none⟩), .slice pa p.length pc] w (ScaE w pb d m (.int .i64 ((gNum d.v p).getD 0)) (gNum d.v p).isNone) := by
 have H1 := Lib.hid (sorted_any (fun g => g ≠ pb) pb d m 2 pa pc p w (fun _ h => h) hB hv hp hl hs)
 have HQ : Hid (∀ x : VD, x.v = (getS d.v 2 p).getD .null → (.int .i64 ((gNum d.v p).getD 0) : Value) = .int .i64 x.n) := Lib.hid fun x hx => by
  rw [gNum_S]
  cases hr : getS d.v 2 p with
  | none => rw [hr] at hx; rw [← vd_n, hx]; rfl
  | some y => rw [hr] at hx; rw [← vd_n, hx]; rfl
 have HN : Hid ((getS d.v 2 p).isNone = (gNum d.v p).isNone) := Lib.hid (by rw [gNum_S]; cases getS d.v 2 p <;> rfl)
 clear hB hv hp hs
 go_enter Tryz.func65, Tryz.ntmps65
 go_wp2_with fail
 refine H1.out.mono ?_
 clear H1
 rintro e w1 ⟨hg, hbk, x, rfl, hx, -⟩
 have HE : Hid (ScaE w pb d m (.int .i64 ((gNum d.v p).getD 0)) (gNum d.v p).isNone (.returned (.int .i64 x.n)) w1) := Lib.hid ⟨by rw [HQ.out x hx], by rw [← HN.out]; exact hbk, hg⟩
 have hf : ∀ w : World, Sem.run Tryz.prog (Instr.field 36 (.agg #[.int .i64 x.sort, .bool x.on, .int .i64 x.n, .string ⟨x.text.toArray⟩, .slice x.a x.list.length x.c, .slice x.ka x.keys.length x.kc]) 2) w = .ok (.int .i64 x.n) w := fun _ => by kernel_rfl
 have hf := hf w1
 clear hg hbk hx HQ HN
 go_wp2
 go_ret
 exact HE.out
end Go.Proofs.YthnbeebilomchaaGreatDoor

namespace Go.Proofs.YthnbeebilomchaaGreatDoor
open Go Go.RowKit

def CloE (w : World) (n : Nat) (L : List Value) (e : Ending) (w' : World) : Prop := ∃ a c, e = .returned (.slice a n c) ∧ Own w' w.heap.size 9 1 a n c L ∧ Below w.heap.size w w'
set_option maxHeartbeats 1000000 in
set_option maxRecDepth 20000 in
theorem clone_any (pa : Option Addr) (pc : Nat) (n : Nat) (L : List Value) (w : World) (hp : Row w 1 pa n L) (hl : n ≤ 1048576) (h1 : ∀ u ∈ L, u.oneCell' = true) :
  Calls Tryz.prog 83 #[.slice pa n pc] w (CloE w n L) := by
 have HL := Lib.hid hl
 clear hl
 cases pa with
 | none =>
  have hn : n = 0 := by
   rcases Nat.eq_zero_or_pos n with h | h
   ·
    exact h
   ·
    obtain ⟨_, _, h, _⟩ := hp.2 (by omega); cases h
  subst hn
  have hL : L = [] := List.eq_nil_of_length_eq_zero hp.1
  subst hL
  have HE : Hid (CloE w 0 [] (.returned (.slice none 0 0)) w) := Lib.hid ⟨none, 0, rfl, Own.nil _ _ _ _, Below.refl _ _⟩
  have hq := Lib.run_eql_slice_nil (P := Tryz.prog) w 24 9 none 0 pc 0 0 Tryz.underlying24
  clear hp h1
  go_enter Tryz.func83, Tryz.ntmps83
  go_wp2
  go_ret
  exact HE.out
 | some ad =>
  have HR : Hid (Row (w.alloc (.cells #[] 9)) 1 (some ad) n L) := Lib.hid (hp.ext (below_a1 _ _))
  have HO : Hid (Own (w.alloc (.cells #[] 9)) w.heap.size 9 1 (some ⟨w.heap.size, 0, none⟩) 0 0 []) := Lib.hid ⟨by simp, .inl ⟨rfl, rfl, fun g h => by simp [blockOf] at h; omega⟩⟩
  have H1 := Lib.hid h1
  have hq := Lib.run_eql_slice_nil (P := Tryz.prog) w 24 9 (some ad) n pc 0 0 Tryz.underlying24
  clear hp h1
  go_enter Tryz.func83, Tryz.ntmps83
  go_wp2_with (at_builtin; refine wpList_append_Own rfl _ _ 24 rfl w.heap.size 9 _ 1 16 Tryz.underlying24 Tryz.infoStr rfl (by decide) _ 0 0 _ rfl HO.out (some ad) n pc L rfl HR.out H1.out (by have := HL.out; unfold maxLen; omega) (by have := HL.out; omega) (by simp) ?_; intro a5 c5 w5 ho5 hg5 hb5)
  rw [Nat.zero_add, List.nil_append] at ho5
  have HE : Hid (CloE w n L (.returned (.slice a5 n c5)) w5) := Lib.hid ⟨a5, c5, rfl, ho5, (below_a1 w _).grown hg5 (by simp) (HO.out.rowBase (Nat.le_refl _))⟩
  clear ho5 hg5 hb5
  go_ret
  exact HE.out
end Go.Proofs.YthnbeebilomchaaGreatDoor

namespace Go.Proofs.YthnbeebilomchaaGreatDoor
open Go Go.RowKit

theorem val_grown {w W : World} {pb : Nat} {d : VD} (h : ValAt w (fun g => g ≠ pb) d) (hg : w.grownBy W (some pb)) : ValAt W (fun g => g ≠ pb) d :=
  ((h.mono (q := fun g => g ≠ pb ∧ g < w.heap.size) fun g h1 h2 => ⟨h1, h2⟩).congr fun g h1 _ => hg.block g h1.2 (fun e => h1.1 (by cases e; rfl))).mono fun g h1 _ => h1.1
theorem row_grown {w W : World} {pb sz n : Nat} {a : Option Addr} {xs : List Value} (h : Row w sz a n xs) (hp : 0 < n → blockOf a ≠ some pb) (hg : w.grownBy W (some pb)) : Row W sz a n xs :=
  h.congr fun g h0 h1 h2 => hg.block g h2 (fun e => hp (Nat.pos_of_mul_pos_right h0) (by rw [h1]; exact e))
theorem grown_trans {a b c : World} {row : Option Nat} (h : a.grownBy b row) (k : b.grownBy c row) : a.grownBy c row :=
  ⟨k.os.trans h.os, k.tape.trans h.tape, k.output.trans h.output, Nat.le_trans h.size k.size, fun i hi hne => (k.block i (Nat.lt_of_lt_of_le hi h.size) hne).trans (h.block i hi hne)⟩
theorem pnumber_n (pb : Nat) (d : VD) (m : Bool) (pa : Option Addr) (pc : Nat) (p : List Nm) (n : Nat) (w : World) (hn : n = p.length) (hB : Blk w pb (prC d m) 96) (hv : ValAt w (fun g => g ≠ pb) d) (hp : Row w 1 pa n (p.map strV)) (hl : n ≤ 1048576) (hs : sizeV d.v ≤ 1048576) :
    Calls Tryz.prog 65 #[.pointer (some ⟨pb, 0, none⟩), .slice pa n pc] w (ScaE w pb d m (.int .i64 ((gNum d.v p).getD 0)) (gNum d.v p).isNone) := by
  subst hn; exact pnumber_any pb d m pa pc p w hB hv hp hl hs
theorem place_end {W : World} {tm : Array Value} {R : Ending → World → Prop} {g : Nat} {u0 u1 : Value} (h2 : tm.getD 4 undef = .pointer (some ⟨g, 0, none⟩)) (hB : Blk W g #[u0, u1] 29)
    (hR : R (.returned (.agg #[u0, u1])) W) : bodyPost Tryz.prog Tryz.f67 R .ret { tmps := tm, defers := [] } W := by
  have d0 := hB.cell 0
  have d1 := hB.cell 1
  simp only [List.getElem?_toArray, List.getElem?_cons_zero, List.getElem?_cons_succ] at d0 d1
  rw [Array.getD_eq_getD_getElem?] at h2
  refine bodyPost_ret (v := .agg #[u0, u1]) ?_ rfl hR
  simp [results, Tryz.results67, go_sem, h2, d0, d1]
structure PlS (w : World) (pb gr : Nat) (d : VD) (m : Bool) (W : World) : Prop where
  pblk : Blk W pb (prC d m) 96
  rblk : Blk W gr #[.int .i64 0, .int .i64 0] 29
  grown : w.grownBy W (some pb)
  pbl : pb < w.heap.size
  base : w.heap.size ≤ gr
theorem PlS.ext {w : World} {pb gr : Nat} {d : VD} {m : Bool} {W W' : World} (h : PlS w pb gr d m W) (hb : Below W.heap.size W W') : PlS w pb gr d m W' := ⟨h.pblk.ext hb, h.rblk.ext hb, grown_trans h.grown (grown_of hb), h.pbl, h.base⟩
theorem PlS.app {w : World} {pb gr : Nat} {d : VD} {m : Bool} {W W' : World} (h : PlS w pb gr d m W) {T : TypeId} {a : Option Addr} {n c : Nat} {xs : List Value} (ho : Own W (gr + 1) T 1 a n c xs) (hg : W.grownBy W' (rowOf a c)) : PlS w pb gr d m W' := by
  have h1 := h.pbl
  have h2 := h.base
  have hr : ∀ k, k ≤ gr → some k ≠ rowOf a c := fun k hk e => by have := ho.rowBase (Nat.le_refl _) k e.symm; omega
  have h3 := h.grown.size
  exact ⟨h.pblk.grown hg (hr _ (by omega)), h.rblk.grown hg (hr _ (Nat.le_refl _)), ⟨hg.os.trans h.grown.os, hg.tape.trans h.grown.tape, hg.output.trans h.grown.output, Nat.le_trans h3 hg.size, fun k hk hne => (hg.block k (by omega) (hr k (by omega))).trans (h.grown.block k hk hne)⟩, h1, h2⟩
theorem PlS.call {w : World} {pb gr : Nat} {d : VD} {m m' : Bool} {W W' : World} (h : PlS w pb gr d m W) (hb : Blk W' pb (prC d m') 96) (hg : W.grownBy W' (some pb)) : PlS w pb gr d m' W' := by
  have h1 := h.pbl
  have h2 := h.base
  exact ⟨hb, h.rblk.grown hg (by simp; omega), ⟨hg.os.trans h.grown.os, hg.tape.trans h.grown.tape, hg.output.trans h.grown.output, Nat.le_trans h.grown.size hg.size, fun k hk hne => (hg.block k (by have := h.grown.size; omega) hne).trans (h.grown.block k hk hne)⟩, h1, h2⟩
set_option maxHeartbeats 4000000 in
set_option maxRecDepth 20000 in
theorem place_any (pb : Nat) (d : VD) (m : Bool) (pa : Option Addr) (pc : Nat) (p : List Nm) (w : World) (hB : Blk w pb (prC d m) 96) (hv : ValAt w (fun g => g ≠ pb) d) (hp : Row w 1 pa p.length (p.map strV)) (hpp : 0 < p.length → blockOf pa ≠ some pb) (hl : p.length ≤ 1000) (hs : sizeV d.v ≤ 1048576) :
  Calls Tryz.prog 67 #[.pointer (some ⟨pb, 0, none⟩), .slice pa p.length pc] w (ScaE w pb d m (.agg #[.int .i64 ((gNum d.v (p ++ [kLine])).getD 0), .int .i64 ((gNum d.v (p ++ [kChar])).getD 0)]) ((gNum d.v (p ++ [kLine])).isNone || (gNum d.v (p ++ [kChar])).isNone)) := by
 obtain ⟨W0, hW0⟩ : ∃ W0, W0 = w.alloc (.cells #[.int .i64 0, .int .i64 0] 29) := ⟨_, rfl⟩
 have hb0 : Below w.heap.size w W0 := by rw [hW0]; exact below_a1 w _
 have HS0 : Hid (PlS w pb w.heap.size d m W0) := Lib.hid ⟨hB.ext hb0, by rw [hW0]; exact Blk.new rfl, grown_of hb0, hB.lt, Nat.le_refl _⟩
 have HV := Lib.hid hv
 have HR := Lib.hid hp
 have HPP := Lib.hid hpp
 have HLL := Lib.hid hl
 have HSZ := Lib.hid hs
 obtain ⟨n1, hn1⟩ : ∃ x, x = gNum d.v (p ++ [kLine]) := ⟨_, rfl⟩
 obtain ⟨n2, hn2⟩ : ∃ x, x = gNum d.v (p ++ [kChar]) := ⟨_, rfl⟩
 rw [← hn1, ← hn2]
 have HN1 := Lib.hid hn1
 have HN2 := Lib.hid hn2
 have HL1 : Hid (∀ u ∈ p.map strV, u.oneCell' = true) := Lib.hid fun u hu => by obtain ⟨x, -, rfl⟩ := List.mem_map.1 hu; rfl
 have hz0 := HS0.out.rblk.lt
 obtain ⟨n, hn⟩ : ∃ n, n = p.length := ⟨_, rfl⟩
 rw [← hn] at HR HPP HLL ⊢
 have HN := Lib.hid hn
 clear hB hv hp hpp hl hs hb0 hn1 hn2 hn
 go_enter Tryz.func67, Tryz.ntmps67
 go_upto_region 1 with (fail)
 rw [← hW0]
 clear hW0
 go_wp2_with fail
 refine (clone_any pa pc n (p.map strV) W0 (row_grown HR.out HPP.out HS0.out.grown) (by have := HLL.out; omega) HL1.out).mono ?_
 rintro e w2 ⟨a2, c2, rfl, ho2, hb2⟩
 have HO2 : Hid (Own w2 (w.heap.size + 1) 9 1 a2 n c2 (p.map strV)) := Lib.hid (ho2.mono hz0)
 have HS2 := Lib.hid (HS0.out.ext hb2)
 have hz2 : w.heap.size + 1 ≤ w2.heap.size := Nat.le_trans hz0 hb2.size
 clear ho2 hb2 HS0 hz0
 go_wp2_with (at_builtin; refine wpList_append_Own rfl _ _ 24 rfl (w.heap.size + 1) 9 _ 1 16 Tryz.underlying24 Tryz.infoStr rfl (by decide) a2 n c2 _ rfl (HO2.out.alloc _) _ 1 1 [strV kLine] rfl (Row.new1 (by simp) rfl rfl) (by intro u hu; simp at hu; subst hu; rfl) (by have := HLL.out; unfold maxLen; omega) (by have := HLL.out; omega) (by simp; omega) ?_; intro a5 c5 w5 ho5 hg5 hb5)
 have HS5 := Lib.hid ((HS2.out.ext (below_a1 _ _)).app (HO2.out.alloc _) hg5)
 have HO5 := Lib.hid ho5
 have hz5 : w.heap.size + 1 ≤ w5.heap.size := HS5.out.rblk.lt
 clear ho5 hg5 hb5 HS2 HO2 hz2
 refine (pnumber_n pb d m a5 c5 (p ++ [kLine]) (n + 1) w5 (by rw [HN.out]; simp) HS5.out.pblk (val_grown HV.out HS5.out.grown) (by rw [List.map_append]; exact HO5.out.row) (by have := HLL.out; omega) HSZ.out).mono ?_
 rw [← HN1.out]
 rintro e w6 ⟨rfl, hb6, hg6⟩
 have HS6 := Lib.hid (HS5.out.call hb6 hg6)
 clear hb6 hg6 HS5 HO5 hz5
 go_wp2_with fail
 refine (clone_any pa pc n (p.map strV) w6 (row_grown HR.out HPP.out HS6.out.grown) (by have := HLL.out; omega) HL1.out).mono ?_
 rintro e w7 ⟨a7, c7, rfl, ho7, hb7⟩
 have HO7 : Hid (Own w7 (w.heap.size + 1) 9 1 a7 n c7 (p.map strV)) := Lib.hid (ho7.mono HS6.out.rblk.lt)
 have HS7 := Lib.hid (HS6.out.ext hb7)
 have hz7 : w.heap.size + 1 ≤ w7.heap.size := HS7.out.rblk.lt
 clear ho7 hb7 HS6
 go_wp2_with (at_builtin; refine wpList_append_Own rfl _ _ 24 rfl (w.heap.size + 1) 9 _ 1 16 Tryz.underlying24 Tryz.infoStr rfl (by decide) a7 n c7 _ rfl (HO7.out.alloc _) _ 1 1 [strV kChar] rfl (Row.new1 (by simp) rfl rfl) (by intro u hu; simp at hu; subst hu; rfl) (by have := HLL.out; unfold maxLen; omega) (by have := HLL.out; omega) (by simp; omega) ?_; intro a5 c5 w8 ho5 hg5 hb5)
 have HS8 := Lib.hid ((HS7.out.ext (below_a1 _ _)).app (HO7.out.alloc _) hg5)
 have HO8 := Lib.hid ho5
 clear ho5 hg5 hb5 HS7 HO7 hz7
 refine (pnumber_n pb d (m || n1.isNone) _ _ (p ++ [kChar]) (n + 1) w8 (by rw [HN.out]; simp) HS8.out.pblk (val_grown HV.out HS8.out.grown) (by rw [List.map_append]; exact HO8.out.row) (by have := HLL.out; omega) HSZ.out).mono ?_
 rw [← HN2.out]
 rintro e w9 ⟨rfl, hb9, hg9⟩
 have HS9 := Lib.hid (HS8.out.call hb9 hg9)
 clear hb9 hg9 HS8 HO8
 have f0 := HS9.out.rblk.free 0
 have f1 := HS9.out.rblk.free 1
 have z0 := HS9.out.rblk.cell 0
 have z1 := HS9.out.rblk.cell 1
 simp only [List.getElem?_toArray, List.getElem?_cons_zero, List.getElem?_cons_succ] at z0 z1
 go_wp2
 refine place_end (g := w.heap.size) rfl ((HS9.out.rblk.set 0 (.int .i64 (n1.getD 0))).set 1 (.int .i64 (n2.getD 0))) ⟨rfl, ?_, grown_put (grown_put HS9.out.grown (Nat.le_refl _) _ _) (Nat.le_refl _) _ _⟩
 have hne : pb ≠ w.heap.size := Nat.ne_of_lt HS9.out.pbl
 rw [← Bool.or_assoc]
 exact (HS9.out.pblk.other (p := ⟨w.heap.size, 0, none⟩) hne _).other (p := ⟨w.heap.size, 1, none⟩) hne _
end Go.Proofs.YthnbeebilomchaaGreatDoor

namespace Go.Proofs.YthnbeebilomchaaGreatDoor
open Go Go.RowKit

def chG (v : V) : E :=
  match getV v [kRange] with
  | none => ⟨0, 0, 0, 0, (gText v [kText]).getD [], true⟩
  | some _ => ⟨(gNum v [kRange, kStart, kLine]).getD 0, (gNum v [kRange, kStart, kChar]).getD 0, (gNum v [kRange, kEnd, kLine]).getD 0, (gNum v [kRange, kEnd, kChar]).getD 0, (gText v [kText]).getD [], false⟩
theorem chL_chG {v : V} {e : E} (h : chL v = some e) : chG v = e := by
  unfold chL gPlace at h
  unfold chG
  cases ht : gText v [kText] with
  | none => rw [ht] at h; cases h
  | some t =>
    rw [ht, Option.bind_some] at h
    cases hr : getV v [kRange] with
    | none => rw [hr] at h; simp only [Option.some.injEq] at h; rw [← h]; rfl
    | some r =>
      rw [hr] at h
      simp only [List.cons_append, List.nil_append] at h
      cases h1 : gNum v [kRange, kStart, kLine] with
      | none => rw [h1] at h; cases h
      | some a =>
        cases h2 : gNum v [kRange, kStart, kChar] with
        | none => rw [h1, h2] at h; cases h
        | some b =>
          cases h3 : gNum v [kRange, kEnd, kLine] with
          | none => rw [h1, h2, h3] at h; cases h
          | some c =>
            cases h4 : gNum v [kRange, kEnd, kChar] with
            | none => rw [h1, h2, h3, h4] at h; cases h
            | some d => rw [h1, h2, h3, h4] at h; simp at h; rw [← h]; rfl
theorem chL_none (v : V) : (chL v).isNone = ((gText v [kText]).isNone || (getV v [kRange]).isSome && (((gNum v [kRange, kStart, kLine]).isNone || (gNum v [kRange, kStart, kChar]).isNone) || ((gNum v [kRange, kEnd, kLine]).isNone || (gNum v [kRange, kEnd, kChar]).isNone))) := by
  unfold chL gPlace
  cases gText v [kText] with
  | none => rfl
  | some t =>
    rw [Option.bind_some]
    cases getV v [kRange] with
    | none => rfl
    | some r =>
      simp only [List.cons_append, List.nil_append]
      cases gNum v [kRange, kStart, kLine] <;> cases gNum v [kRange, kStart, kChar] <;> cases gNum v [kRange, kEnd, kLine] <;> cases gNum v [kRange, kEnd, kChar] <;> rfl
def edC (e : E) : Array Value := #[.int .i64 e.fl, .int .i64 e.fu, .int .i64 e.tl, .int .i64 e.tu, .string ⟨e.text.toArray⟩, .bool e.whole]
structure ChS (w : World) (pb : Nat) (d : VD) (m : Bool) (v : VD) (m2 : Bool) (e : E) (W : World) : Prop where
  below : Below w.heap.size w W
  pblk : Blk W pb (prC d m) 96
  vblk : Blk W w.heap.size #[.int .i64 v.sort, .bool v.on, .int .i64 v.n, .string ⟨v.text.toArray⟩, .slice v.a v.list.length v.c, .slice v.ka v.keys.length v.kc] 36
  rblk : Blk W (w.heap.size + 1) (edC ⟨0, 0, 0, 0, [], false⟩) 82
  xblk : Blk W (w.heap.size + 2) (prC v m2) 96
  eblk : Blk W (w.heap.size + 3) (edC e) 82
  val : ValAt W (fun g => g < w.heap.size) v
  pbl : pb < w.heap.size
theorem ChS.ext {w : World} {pb : Nat} {d : VD} {m : Bool} {v : VD} {m2 : Bool} {e : E} {W W' : World} (h : ChS w pb d m v m2 e W) (hb : Below W.heap.size W W') : ChS w pb d m v m2 e W' :=
  ⟨h.below.trans (hb.mono h.below.size), h.pblk.ext hb, h.vblk.ext hb, h.rblk.ext hb, h.xblk.ext hb, h.eblk.ext hb, h.val.ext hb, h.pbl⟩
theorem ChS.call {w : World} {pb : Nat} {d : VD} {m : Bool} {v : VD} {m2 m3 : Bool} {e : E} {W W' : World} (h : ChS w pb d m v m2 e W) (hb : Blk W' (w.heap.size + 2) (prC v m3) 96) (hg : W.grownBy W' (some (w.heap.size + 2))) : ChS w pb d m v m3 e W' := by
  have h1 := h.pbl
  exact ⟨⟨hg.os.trans h.below.os, hg.tape.trans h.below.tape, hg.output.trans h.below.output, Nat.le_trans h.below.size hg.size, fun k hk => (hg.block k (by have := h.below.size; omega) (by simp; omega)).trans (h.below.block k hk)⟩,
    h.pblk.grown hg (by simp; omega), h.vblk.grown hg (by simp), h.rblk.grown hg (by simp), hb, h.eblk.grown hg (by simp), h.val.congr fun g h1 h2 => hg.block g h2 (by simp; omega), h.pbl⟩
theorem ChS.put {w : World} {pb : Nat} {d : VD} {m : Bool} {v : VD} {m2 : Bool} {e e' : E} {W : World} (h : ChS w pb d m v m2 e W) (o : Nat) (u : Value) (he : (edC e).setIfInBounds o u = edC e') : ChS w pb d m v m2 e' (W.setCell ⟨w.heap.size + 3, o, none⟩ u) := by
 have h1 := h.pbl
 have q0 : pb ≠ w.heap.size + 3 := by omega
 have q1 : w.heap.size ≠ w.heap.size + 3 := by omega
 have q2 : w.heap.size + 1 ≠ w.heap.size + 3 := by omega
 have q3 : w.heap.size + 2 ≠ w.heap.size + 3 := by omega
 have q4 : w.heap.size ≤ w.heap.size + 3 := by omega
 exact ⟨h.below.setCell (p := ⟨w.heap.size + 3, o, none⟩) q4 _, h.pblk.other (p := ⟨w.heap.size + 3, o, none⟩) q0 _, h.vblk.other (p := ⟨w.heap.size + 3, o, none⟩) q1 _, h.rblk.other (p := ⟨w.heap.size + 3, o, none⟩) q2 _,
  h.xblk.other (p := ⟨w.heap.size + 3, o, none⟩) q3 _, by rw [← he]; exact h.eblk.set o u, h.val.congr fun g h1 _ => Below.heap_setCell W _ u g (fun e => by have : g = w.heap.size + 3 := e; omega), h.pbl⟩
theorem ChS.vx {w : World} {pb : Nat} {d : VD} {m : Bool} {v : VD} {m2 : Bool} {e : E} {W : World} (h : ChS w pb d m v m2 e W) : ValAt W (fun g => g ≠ w.heap.size + 2) v := h.val.mono fun g h1 _ => by omega
theorem change_end {W : World} {tm : Array Value} {R : Ending → World → Prop} {g : Nat} {u0 u1 u2 u3 u4 u5 : Value} (h2 : tm.getD 4 undef = .pointer (some ⟨g, 0, none⟩)) (hB : Blk W g #[u0, u1, u2, u3, u4, u5] 82)
    (hR : R (.returned (.agg #[u0, u1, u2, u3, u4, u5])) W) : bodyPost Tryz.prog Tryz.f66 R .ret { tmps := tm, defers := [] } W := by
  have d0 := hB.cell 0
  have d1 := hB.cell 1
  have d2 := hB.cell 2
  have d3 := hB.cell 3
  have d4 := hB.cell 4
  have d5 := hB.cell 5
  simp only [List.getElem?_toArray, List.getElem?_cons_zero, List.getElem?_cons_succ] at d0 d1 d2 d3 d4 d5
  rw [Array.getD_eq_getD_getElem?] at h2
  refine bodyPost_ret (v := .agg #[u0, u1, u2, u3, u4, u5]) ?_ rfl hR
  simp [results, Tryz.results66, go_sem, h2, d0, d1, d2, d3, d4, d5]
def ChE (w : World) (pb : Nat) (d : VD) (m : Bool) (v : V) (r : Ending) (w' : World) : Prop := r = .returned (.agg (edC (chG v))) ∧ Blk w' pb (prC d (m || (chL v).isNone)) 96 ∧ w.grownBy w' (some pb)
set_option maxHeartbeats 4000000 in
set_option maxRecDepth 20000 in
theorem change_any (pb : Nat) (d : VD) (m : Bool) (v : VD) (w : World) (hB : Blk w pb (prC d m) 96) (hv : ValAt w (fun _ => True) v) (hs : sizeV v.v ≤ 1048576) :
  Calls Tryz.prog 66 #[.pointer (some ⟨pb, 0, none⟩), v.val] w (ChE w pb d m v.v) := by
 rw [VD.val6]
 obtain ⟨W0, hW0⟩ : ∃ W0, W0 = (((w.alloc (.cells #[.int .i64 v.sort, .bool v.on, .int .i64 v.n, .string ⟨v.text.toArray⟩, .slice v.a v.list.length v.c, .slice v.ka v.keys.length v.kc] 36)).alloc (.cells #[.int .i64 0, .int .i64 0, .int .i64 0, .int .i64 0, .string { data := #[] }, .bool false] 82)).alloc (.cells #[.int .i64 v.sort, .bool v.on, .int .i64 v.n, .string ⟨v.text.toArray⟩, .slice v.a v.list.length v.c, .slice v.ka v.keys.length v.kc, .bool false] 96)).alloc (.cells #[.int .i64 0, .int .i64 0, .int .i64 0, .int .i64 0, .string { data := #[] }, .bool true] 82) := ⟨_, rfl⟩
 have hb0 : Below w.heap.size w W0 := by rw [hW0]; exact (((below_a1 w _).alloc (by simp) _).alloc (by simp; omega) _).alloc (by simp; omega) _
 have HS0 : Hid (ChS w pb d m v false ⟨0, 0, 0, 0, [], true⟩ W0) := Lib.hid ⟨hb0, hB.ext hb0, by rw [hW0]; exact (((Blk.new rfl).alloc _).alloc _).alloc _, by rw [hW0]; exact ((Blk.new (by simp)).alloc _).alloc _, by rw [hW0]; exact (Blk.new (by simp)).alloc _, by rw [hW0]; exact Blk.new (by simp), (hv.mono fun g _ h => h).ext hb0, hB.lt⟩
 have HSZ := Lib.hid hs
 clear hB hv hs hb0
 go_enter Tryz.func66, Tryz.ntmps66
 go_upto_region 3 with (fail)
 rw [← hW0]
 clear hW0
 obtain ⟨tx, htx⟩ : ∃ x, x = gText v.v [kText] := ⟨_, rfl⟩
 have HTX := Lib.hid htx
 clear htx
 go_wp2_with fail
 have HSa := Lib.hid (HS0.out.ext (below_a1 W0 (.cells #[strV kText] 9)))
 refine (ptext_any (w.heap.size + 2) v false (some ⟨W0.heap.size, 0, none⟩) 1 [kText] _ HSa.out.xblk HSa.out.vx (Row.new1 rfl rfl rfl) (by decide) HSZ.out).mono ?_
 rw [← HTX.out]
 rintro e w1 ⟨rfl, hb1, hg1⟩
 have HS1 := Lib.hid (HSa.out.call hb1 hg1)
 clear hb1 hg1 HSa HS0
 have b0 := HS1.out.eblk.cell 0
 have b1 := HS1.out.eblk.cell 1
 have b2 := HS1.out.eblk.cell 2
 have b3 := HS1.out.eblk.cell 3
 have b4 := HS1.out.eblk.cell 4
 have b5 := HS1.out.eblk.cell 5
 have m0 := HS1.out.eblk.free 0
 have m1 := HS1.out.eblk.free 1
 have m2 := HS1.out.eblk.free 2
 have m3 := HS1.out.eblk.free 3
 have m4 := HS1.out.eblk.free 4
 have m5 := HS1.out.eblk.free 5
 have v0 := HS1.out.vblk.cell 0
 have v1 := HS1.out.vblk.cell 1
 have v2 := HS1.out.vblk.cell 2
 have v3 := HS1.out.vblk.cell 3
 have v4 := HS1.out.vblk.cell 4
 have v5 := HS1.out.vblk.cell 5
 unfold edC at b0 b1 b2 b3 b4 b5
 simp only [List.getElem?_toArray, List.getElem?_cons_zero, List.getElem?_cons_succ] at b0 b1 b2 b3 b4 b5 v0 v1 v2 v3 v4 v5
 have HS2 := Lib.hid (HS1.out.put 4 (.string ⟨(tx.getD []).toArray⟩) (e' := ⟨0, 0, 0, 0, tx.getD [], true⟩) rfl)
 go_upto_region 4 with (fail)
 clear b0 b1 b2 b3 b4 b5 m0 m1 m2 m3 m4 m5 v0 v1 v2 v3 v4 v5
 rw [Bool.false_or] at HS1 HS2
 obtain ⟨W2, hW2⟩ : ∃ W2, W2 = w1.setCell ⟨w.heap.size + 3, 4, none⟩ (.string ⟨(tx.getD []).toArray⟩) := ⟨_, rfl⟩
 rw [← hW2] at HS2 ⊢
 clear hW2 HS1
 have b0 := HS2.out.eblk.cell 0
 have b1 := HS2.out.eblk.cell 1
 have b2 := HS2.out.eblk.cell 2
 have b3 := HS2.out.eblk.cell 3
 have b4 := HS2.out.eblk.cell 4
 have b5 := HS2.out.eblk.cell 5
 have m0 := HS2.out.eblk.free 0
 have m1 := HS2.out.eblk.free 1
 have m2 := HS2.out.eblk.free 2
 have m3 := HS2.out.eblk.free 3
 have m4 := HS2.out.eblk.free 4
 have m5 := HS2.out.eblk.free 5
 have v0 := HS2.out.vblk.cell 0
 have v1 := HS2.out.vblk.cell 1
 have v2 := HS2.out.vblk.cell 2
 have v3 := HS2.out.vblk.cell 3
 have v4 := HS2.out.vblk.cell 4
 have v5 := HS2.out.vblk.cell 5
 unfold edC at b0 b1 b2 b3 b4 b5
 simp only [List.getElem?_toArray, List.getElem?_cons_zero, List.getElem?_cons_succ] at b0 b1 b2 b3 b4 b5 v0 v1 v2 v3 v4 v5
 go_wp2_with fail
 have HSb := Lib.hid (HS2.out.ext (below_a1 W2 (.cells #[strV kRange] 9)))
 refine (get_w (fun _ => True) v (some ⟨W2.heap.size, 0, none⟩) 1 [kRange] _ (HSb.out.val.mono fun _ _ _ => trivial) (Row.new1 rfl rfl rfl) (by decide) HSZ.out).mono ?_
 rintro e w3 ⟨x, b, rfl, hb, -, -, hbl⟩
 have HS3 := Lib.hid ((HSb.out.ext hbl).ext (below_a1 w3 (.cells #[.int .i64 x.sort, .bool x.on, .int .i64 x.n, .string ⟨x.text.toArray⟩, .slice x.a x.list.length x.c, .slice x.ka x.keys.length x.kc] 36)))
 have HB3 := Lib.hid hb.out
 clear b0 b1 b2 b3 b4 b5 m0 m1 m2 m3 m4 m5 v0 v1 v2 v3 v4 v5
 clear hbl hb HSb HS2
 go_upto_region 5 with (fail)
 obtain ⟨W4, hW4⟩ : ∃ W4, W4 = w3.alloc (.cells #[.int .i64 x.sort, .bool x.on, .int .i64 x.n, .string ⟨x.text.toArray⟩, .slice x.a x.list.length x.c, .slice x.ka x.keys.length x.kc] 36) := ⟨_, rfl⟩
 rw [← hW4] at HS3 ⊢
 clear hW4
 cases b with
 | false =>
  have HG : Hid (chG v.v = ⟨0, 0, 0, 0, tx.getD [], true⟩) := Lib.hid (by
   have := HB3.out
   unfold chG
   cases hr : getV v.v [kRange] with
   | none => rw [HTX.out]
   | some y => rw [hr] at this; cases this)
  have HM : Hid ((chL v.v).isNone = tx.isNone) := Lib.hid (by rw [chL_none, ← HB3.out, HTX.out]; simp)
  clear HB3 HTX
  have HS9 : Hid (ChS w pb d m v tx.isNone ⟨0, 0, 0, 0, tx.getD [], true⟩ W4) := HS3
  have c6 := HS9.out.pblk.cell 6
  have x6 := HS9.out.xblk.cell 6
  have p6 := HS9.out.pblk.free 6
  have e0 := HS9.out.eblk.cell 0
  have e1 := HS9.out.eblk.cell 1
  have e2 := HS9.out.eblk.cell 2
  have e3 := HS9.out.eblk.cell 3
  have e4 := HS9.out.eblk.cell 4
  have e5 := HS9.out.eblk.cell 5
  have r0 := HS9.out.rblk.cell 0
  have r1 := HS9.out.rblk.cell 1
  have r2 := HS9.out.rblk.cell 2
  have r3 := HS9.out.rblk.cell 3
  have r4 := HS9.out.rblk.cell 4
  have r5 := HS9.out.rblk.cell 5
  have s0 := HS9.out.rblk.free 0
  have s1 := HS9.out.rblk.free 1
  have s2 := HS9.out.rblk.free 2
  have s3 := HS9.out.rblk.free 3
  have s4 := HS9.out.rblk.free 4
  have s5 := HS9.out.rblk.free 5
  unfold edC at e0 e1 e2 e3 e4 e5 r0 r1 r2 r3 r4 r5
  unfold prC at c6 x6
  simp only [List.getElem?_toArray, List.getElem?_cons_zero, List.getElem?_cons_succ] at e0 e1 e2 e3 e4 e5 r0 r1 r2 r3 r4 r5 c6 x6
  have hpb := HS9.out.pbl
  have q1 : pb ≠ w.heap.size + 3 := by omega
  have q2 : pb ≠ w.heap.size + 1 := by omega
  have q3 : pb ≠ w.heap.size + 2 := by omega
  have HC9 : Hid (Blk ((W4.setCell ⟨pb, 6, none⟩ (.bool (m || tx.isNone)))) (w.heap.size + 1) (edC ⟨0, 0, 0, 0, [], false⟩) 82) := Lib.hid (HS9.out.rblk.other (p := ⟨pb, 6, none⟩) (Ne.symm q2) _)
  have HE9 : Hid (ChE w pb d m v.v (.returned (.agg (edC ⟨0, 0, 0, 0, tx.getD [], true⟩))) (put6 (W4.setCell ⟨pb, 6, none⟩ (.bool (m || tx.isNone))) (w.heap.size + 1) 0 (.int .i64 (⟨0, 0, 0, 0, tx.getD [], true⟩ : E).fl) (.int .i64 (⟨0, 0, 0, 0, tx.getD [], true⟩ : E).fu) (.int .i64 (⟨0, 0, 0, 0, tx.getD [], true⟩ : E).tl) (.int .i64 (⟨0, 0, 0, 0, tx.getD [], true⟩ : E).tu) (.string ⟨(⟨0, 0, 0, 0, tx.getD [], true⟩ : E).text.toArray⟩) (.bool (⟨0, 0, 0, 0, tx.getD [], true⟩ : E).whole))) := Lib.hid ⟨by rw [HG.out], by rw [HM.out]; exact (put6_other q2).trans (HS9.out.pblk.set 6 _), grown_put6 (grown_set (grown_of HS9.out.below) _ _) (by omega) _ _ _ _ _ _⟩
  clear HS3 HG HM
  cases m with
  | true =>
   go_wp2
   exact change_end (g := w.heap.size + 1) rfl (store6 HC9.out) HE9.out
  | false =>
   go_wp2
   exact change_end (g := w.heap.size + 1) rfl (store6 HC9.out) HE9.out
 | true =>
  have b0 := HS3.out.eblk.cell 0
  have b1 := HS3.out.eblk.cell 1
  have b2 := HS3.out.eblk.cell 2
  have b3 := HS3.out.eblk.cell 3
  have b5 := HS3.out.eblk.cell 5
  have m0 := HS3.out.eblk.free 0
  have m1 := HS3.out.eblk.free 1
  have m2 := HS3.out.eblk.free 2
  have m3 := HS3.out.eblk.free 3
  have m5 := HS3.out.eblk.free 5
  unfold edC at b0 b1 b2 b3 b5
  simp only [List.getElem?_toArray, List.getElem?_cons_zero, List.getElem?_cons_succ] at b0 b1 b2 b3 b5
  have HS5 := Lib.hid (HS3.out.put 5 (.bool false) (e' := ⟨0, 0, 0, 0, tx.getD [], false⟩) rfl)
  obtain ⟨n1, hn1⟩ : ∃ x, x = gNum v.v [kRange, kStart, kLine] := ⟨_, rfl⟩
  obtain ⟨n2, hn2⟩ : ∃ x, x = gNum v.v [kRange, kStart, kChar] := ⟨_, rfl⟩
  obtain ⟨n3, hn3⟩ : ∃ x, x = gNum v.v [kRange, kEnd, kLine] := ⟨_, rfl⟩
  obtain ⟨n4, hn4⟩ : ∃ x, x = gNum v.v [kRange, kEnd, kChar] := ⟨_, rfl⟩
  have HNS := Lib.hid (And.intro (And.intro hn1 hn2) (And.intro hn3 hn4))
  clear hn1 hn2 hn3 hn4
  go_upto_region 7 with (fail)
  obtain ⟨W5, hW5⟩ : ∃ W5, W5 = W4.setCell ⟨w.heap.size + 3, 5, none⟩ (.bool false) := ⟨_, rfl⟩
  rw [← hW5] at HS5 ⊢
  clear hW5 HS3
  clear b0 b1 b2 b3 b5 m0 m1 m2 m3 m5
  go_wp2_with fail
  have HSc := Lib.hid (HS5.out.ext (below_a1 W5 (.cells #[strV kRange, strV kStart] 9)))
  have hx5 := HS5.out.xblk.lt
  refine (place_any (w.heap.size + 2) v tx.isNone (some ⟨W5.heap.size, 0, none⟩) 2 [kRange, kStart] _ HSc.out.xblk HSc.out.vx (row_blk (Blk.new rfl) rfl) (fun _ => by simp [blockOf]; omega) (by decide) HSZ.out).mono ?_
  simp only [List.cons_append, List.nil_append]
  rw [← HNS.out.1.1, ← HNS.out.1.2]
  rintro e w6 ⟨rfl, hb6, hg6⟩
  have HS6 := Lib.hid (HSc.out.call hb6 hg6)
  clear hb6 hg6 HSc HS5 hx5
  go_wp2_with fail
  have HSd := Lib.hid (HS6.out.ext (below_a1 w6 (.cells #[strV kRange, strV kEnd] 9)))
  have hx5 := HS6.out.xblk.lt
  refine (place_any (w.heap.size + 2) v (tx.isNone || (n1.isNone || n2.isNone)) (some ⟨w6.heap.size, 0, none⟩) 2 [kRange, kEnd] _ HSd.out.xblk HSd.out.vx (row_blk (Blk.new rfl) rfl) (fun _ => by simp [blockOf]; omega) (by decide) HSZ.out).mono ?_
  simp only [List.cons_append, List.nil_append]
  rw [← HNS.out.2.1, ← HNS.out.2.2]
  rintro e w7 ⟨rfl, hb7, hg7⟩
  have HS7 := Lib.hid (HSd.out.call hb7 hg7)
  clear hb7 hg7 HSd HS6 hx5
  have b0 := HS7.out.eblk.cell 0
  have b1 := HS7.out.eblk.cell 1
  have b2 := HS7.out.eblk.cell 2
  have b3 := HS7.out.eblk.cell 3
  have b5 := HS7.out.eblk.cell 5
  have m0 := HS7.out.eblk.free 0
  have m1 := HS7.out.eblk.free 1
  have m2 := HS7.out.eblk.free 2
  have m3 := HS7.out.eblk.free 3
  have m5 := HS7.out.eblk.free 5
  unfold edC at b0 b1 b2 b3 b5
  simp only [List.getElem?_toArray, List.getElem?_cons_zero, List.getElem?_cons_succ] at b0 b1 b2 b3 b5
  have HSd := Lib.hid ((((HS7.out.put 0 (.int .i64 (n1.getD 0)) (e' := ⟨n1.getD 0, 0, 0, 0, tx.getD [], false⟩) rfl).put 1 (.int .i64 (n2.getD 0)) (e' := ⟨n1.getD 0, n2.getD 0, 0, 0, tx.getD [], false⟩) rfl).put 2 (.int .i64 (n3.getD 0)) (e' := ⟨n1.getD 0, n2.getD 0, n3.getD 0, 0, tx.getD [], false⟩) rfl).put 3 (.int .i64 (n4.getD 0)) (e' := ⟨n1.getD 0, n2.getD 0, n3.getD 0, n4.getD 0, tx.getD [], false⟩) rfl)
  go_upto_region 8 with (fail)
  obtain ⟨W8, hW8⟩ : ∃ W8, W8 = (((w7.setCell ⟨w.heap.size + 3, 0, none⟩ (.int .i64 (n1.getD 0))).setCell ⟨w.heap.size + 3, 1, none⟩ (.int .i64 (n2.getD 0))).setCell ⟨w.heap.size + 3, 2, none⟩ (.int .i64 (n3.getD 0))).setCell ⟨w.heap.size + 3, 3, none⟩ (.int .i64 (n4.getD 0)) := ⟨_, rfl⟩
  rw [← hW8] at HSd ⊢
  clear hW8 HS7
  clear b0 b1 b2 b3 b5 m0 m1 m2 m3 m5
  have HG : Hid (chG v.v = ⟨n1.getD 0, n2.getD 0, n3.getD 0, n4.getD 0, tx.getD [], false⟩) := Lib.hid (by
   have := HB3.out
   unfold chG
   cases hr : getV v.v [kRange] with
   | none => rw [hr] at this; cases this
   | some y => simp only; rw [HTX.out, HNS.out.1.1, HNS.out.1.2, HNS.out.2.1, HNS.out.2.2])
  have HM : Hid ((chL v.v).isNone = (tx.isNone || (n1.isNone || n2.isNone) || (n3.isNone || n4.isNone))) := Lib.hid (by rw [chL_none, ← HB3.out, HTX.out, HNS.out.1.1, HNS.out.1.2, HNS.out.2.1, HNS.out.2.2]; simp [Bool.or_assoc])
  clear HB3 HTX HNS
  have HS9 : Hid (ChS w pb d m v (tx.isNone || (n1.isNone || n2.isNone) || (n3.isNone || n4.isNone)) ⟨n1.getD 0, n2.getD 0, n3.getD 0, n4.getD 0, tx.getD [], false⟩ W8) := HSd
  have c6 := HS9.out.pblk.cell 6
  have x6 := HS9.out.xblk.cell 6
  have p6 := HS9.out.pblk.free 6
  have e0 := HS9.out.eblk.cell 0
  have e1 := HS9.out.eblk.cell 1
  have e2 := HS9.out.eblk.cell 2
  have e3 := HS9.out.eblk.cell 3
  have e4 := HS9.out.eblk.cell 4
  have e5 := HS9.out.eblk.cell 5
  have r0 := HS9.out.rblk.cell 0
  have r1 := HS9.out.rblk.cell 1
  have r2 := HS9.out.rblk.cell 2
  have r3 := HS9.out.rblk.cell 3
  have r4 := HS9.out.rblk.cell 4
  have r5 := HS9.out.rblk.cell 5
  have s0 := HS9.out.rblk.free 0
  have s1 := HS9.out.rblk.free 1
  have s2 := HS9.out.rblk.free 2
  have s3 := HS9.out.rblk.free 3
  have s4 := HS9.out.rblk.free 4
  have s5 := HS9.out.rblk.free 5
  unfold edC at e0 e1 e2 e3 e4 e5 r0 r1 r2 r3 r4 r5
  unfold prC at c6 x6
  simp only [List.getElem?_toArray, List.getElem?_cons_zero, List.getElem?_cons_succ] at e0 e1 e2 e3 e4 e5 r0 r1 r2 r3 r4 r5 c6 x6
  have hpb := HS9.out.pbl
  have q1 : pb ≠ w.heap.size + 3 := by omega
  have q2 : pb ≠ w.heap.size + 1 := by omega
  have q3 : pb ≠ w.heap.size + 2 := by omega
  have HC9 : Hid (Blk ((W8.setCell ⟨pb, 6, none⟩ (.bool (m || (tx.isNone || (n1.isNone || n2.isNone) || (n3.isNone || n4.isNone)))))) (w.heap.size + 1) (edC ⟨0, 0, 0, 0, [], false⟩) 82) := Lib.hid (HS9.out.rblk.other (p := ⟨pb, 6, none⟩) (Ne.symm q2) _)
  have HE9 : Hid (ChE w pb d m v.v (.returned (.agg (edC ⟨n1.getD 0, n2.getD 0, n3.getD 0, n4.getD 0, tx.getD [], false⟩))) (put6 (W8.setCell ⟨pb, 6, none⟩ (.bool (m || (tx.isNone || (n1.isNone || n2.isNone) || (n3.isNone || n4.isNone))))) (w.heap.size + 1) 0 (.int .i64 (⟨n1.getD 0, n2.getD 0, n3.getD 0, n4.getD 0, tx.getD [], false⟩ : E).fl) (.int .i64 (⟨n1.getD 0, n2.getD 0, n3.getD 0, n4.getD 0, tx.getD [], false⟩ : E).fu) (.int .i64 (⟨n1.getD 0, n2.getD 0, n3.getD 0, n4.getD 0, tx.getD [], false⟩ : E).tl) (.int .i64 (⟨n1.getD 0, n2.getD 0, n3.getD 0, n4.getD 0, tx.getD [], false⟩ : E).tu) (.string ⟨(⟨n1.getD 0, n2.getD 0, n3.getD 0, n4.getD 0, tx.getD [], false⟩ : E).text.toArray⟩) (.bool (⟨n1.getD 0, n2.getD 0, n3.getD 0, n4.getD 0, tx.getD [], false⟩ : E).whole))) := Lib.hid ⟨by rw [HG.out], by rw [HM.out]; exact (put6_other q2).trans (HS9.out.pblk.set 6 _), grown_put6 (grown_set (grown_of HS9.out.below) _ _) (by omega) _ _ _ _ _ _⟩
  clear HSd HG HM
  cases m with
  | true =>
   go_wp2
   exact change_end (g := w.heap.size + 1) rfl (store6 HC9.out) HE9.out
  | false =>
   go_wp2
   exact change_end (g := w.heap.size + 1) rfl (store6 HC9.out) HE9.out
end Go.Proofs.YthnbeebilomchaaGreatDoor

namespace Go.Proofs.YthnbeebilomchaaGreatDoor
open Go Go.RowKit

def cdC (c : CD) : Array Value := #[.int .i64 c.kind, .int .i64 c.id.sort, .bool c.id.on, .int .i64 c.id.n, .string ⟨c.id.text.toArray⟩, .slice c.id.a c.id.list.length c.id.c, .slice c.id.ka c.id.keys.length c.id.kc,
  .string ⟨c.name.toArray⟩, .int .i64 c.version, .string ⟨c.text.toArray⟩, .slice c.a c.changes.length c.c, .int .i64 c.pl, .int .i64 c.pu,
  .int .i64 c.other.sort, .bool c.other.on, .int .i64 c.other.n, .string ⟨c.other.text.toArray⟩, .slice c.other.a c.other.list.length c.other.c, .slice c.other.ka c.other.keys.length c.other.kc]
theorem cdC_val (c : CD) : c.val = .agg (cdC c) := by
  obtain ⟨k, i, n, v, t, a, cc, ch, pl, pu, o⟩ := c
  obtain ⟨i1, i2, i3, i4, i5, i6, i7, i8, i9, i10⟩ := i
  obtain ⟨o1, o2, o3, o4, o5, o6, o7, o8, o9, o10⟩ := o
  rfl
def zeroCD : CD := ⟨0, zeroD, [], 0, [], none, 0, [], 0, 0, zeroD⟩
def ofCD (k : Int) (x : VD) : CD := { zeroCD with kind := k, id := x }
def PP (w : World) (P : Nat → Prop) (pb g : Nat) : Prop := (g < w.heap.size ∧ g ≠ pb) ∧ P g
structure CallP (w : World) (P : Nat → Prop) (d : CD) : Prop where
  id : ValAt w P d.id
  other : ValAt w P d.other
  row : Row w 6 d.a d.changes.length (d.changes.flatMap E.cells)
  blk : ∀ g, 0 < d.changes.length → blockOf d.a = some g → P g
structure TlS (w : World) (P : Nat → Prop) (pb : Nat) (d : VD) (m : Bool) (c : CD) (W : World) : Prop where
  pblk : Blk W pb (prC d m) 96
  cblk : Blk W w.heap.size (cdC c) 43
  rblk : Blk W (w.heap.size + 1) (cdC zeroCD) 43
  grown : w.grownBy W (some pb)
  pbl : pb < w.heap.size
  val : ValAt W (PP w P pb) d
  id : ValAt W (PP w P pb) c.id
  other : ValAt W (PP w P pb) c.other
  own : Own W (w.heap.size + 2) 82 6 c.a c.changes.length c.c (c.changes.flatMap E.cells)
section
variable {w : World} {P : Nat → Prop} {pb : Nat} {d : VD} {m m' : Bool} {c c' : CD} {W W' : World}
theorem TlS.ext (h : TlS w P pb d m c W) (hb : Below W.heap.size W W') : TlS w P pb d m c W' :=
  ⟨h.pblk.ext hb, h.cblk.ext hb, h.rblk.ext hb, grown_trans h.grown (grown_of hb), h.pbl, h.val.ext hb, h.id.ext hb, h.other.ext hb, h.own.ext hb⟩
theorem TlS.vx (h : TlS w P pb d m c W) : ValAt W (fun g => g ≠ pb) d := h.val.mono fun _ h1 _ => h1.1.2
theorem TlS.call (h : TlS w P pb d m c W) (hb : Blk W' pb (prC d m') 96) (hg : W.grownBy W' (some pb)) : TlS w P pb d m' c W' := by
  have h1 := h.pbl
  have q0 : some w.heap.size ≠ some pb := by simp; omega
  have q1 : some (w.heap.size + 1) ≠ some pb := by simp; omega
  have qv : ∀ {y : VD}, ValAt W (PP w P pb) y → ValAt W' (PP w P pb) y := fun hy => hy.congr fun g h2 h3 => hg.block g h3 (by simpa using h2.1.2)
  refine ⟨hb, h.cblk.grown hg q0, h.rblk.grown hg q1, grown_trans h.grown hg, h.pbl, qv h.val, qv h.id, qv h.other, ?_⟩
  refine h.own.kept hg ?_
  cases ha : blockOf c.a with
  | none => exact .inl rfl
  | some g => exact .inr (by have := h.own.base ha; simp; omega)
theorem TlS.put (h : TlS w P pb d m c W) (o : Nat) (u : Value) (hc : (cdC c).setIfInBounds o u = cdC c') (hi : c'.id = c.id) (ho : ValAt W (PP w P pb) c'.other) (hch : c'.a = c.a ∧ c'.c = c.c ∧ c'.changes = c.changes) : TlS w P pb d m c' (W.setCell ⟨w.heap.size, o, none⟩ u) := by
 have h1 := h.pbl
 have q0 : pb ≠ w.heap.size := by omega
 have q1 : w.heap.size + 1 ≠ w.heap.size := by omega
 have qv : ∀ {y : VD}, ValAt W (PP w P pb) y → ValAt (W.setCell ⟨w.heap.size, o, none⟩ u) (PP w P pb) y := fun hy => hy.congr fun g h2 h3 => Below.heap_setCell W _ u g (fun e => by have : g = w.heap.size := e; have := h2.1.1; omega)
 refine ⟨h.pblk.other (p := ⟨w.heap.size, o, none⟩) q0 _, by rw [← hc]; exact h.cblk.set o u, h.rblk.other (p := ⟨w.heap.size, o, none⟩) q1 _, grown_put h.grown (Nat.le_refl _) _ _, h.pbl, qv h.val, by rw [hi]; exact qv h.id, qv ho, ?_⟩
 rw [hch.1, hch.2.1, hch.2.2]
 refine h.own.setCell_other (p := ⟨w.heap.size, o, none⟩) (fun e => ?_) u
 have := h.own.base e
 simp at this
 omega
end
def TellE (w : World) (P : Nat → Prop) (pb : Nat) (d : VD) (r : Option C) (e : Ending) (w' : World) : Prop :=
  Blk w' pb (prC d r.isNone) 96 ∧ w.grownBy w' (some pb) ∧ ∃ c : CD, e = .returned (.agg (cdC c)) ∧ CallP w' (fun g => P g ∨ w.heap.size ≤ g) c ∧ 0 ≤ c.kind ∧ ∀ y, r = some y → c.k = y
end Go.Proofs.YthnbeebilomchaaGreatDoor
