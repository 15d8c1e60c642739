/- The edges from one location, sorted by slices.SortFunc. -/
import Derived.Test.YtadekfjgdbngdaaCmpE
import Derived.Shelf.SlSortCmp.NoneTotal
namespace Go.Proofs.Ytadekfjgdbngdaa
open Go Go.RowKit Go.Shelf Go.Sort

theorem ltE (x y : EdgeD) : ltOf cfE x y = decide (x.dst < y.dst ∨ (x.dst = y.dst ∧ x.deref < y.deref)) := by
  unfold ltOf cfE
  by_cases h1 : x.dst < y.dst
  · simp [h1]
  · by_cases h2 : y.dst < x.dst
    · have : ¬ x.dst = y.dst := by omega
      simp [h1, h2, this]
    · have : x.dst = y.dst := by omega
      by_cases h3 : x.deref < y.deref
      · simp [this, h3]
      · by_cases h4 : y.deref < x.deref <;> simp [this, h3, h4]
theorem swoE : SWO (ltOf cfE) where
  irrefl x := by rw [ltE]; simp
  trans x y z h1 h2 := by rw [ltE] at *; simp at *; omega
  ntrans x y z h1 h2 := by rw [ltE] at *; simp at *; omega

instance : Inhabited EdgeD := ⟨⟨0, 0, 0⟩⟩

theorem flat_E (l : List EdgeD) : (flatK EdgeD.cells 3 l.toArray).toList = l.flatMap EdgeD.cells := by
  apply List.ext_getElem?
  intro t
  by_cases ht : t < l.length * 3
  · have h1 : t / 3 < l.length := by omega
    have h2 := flat_get EdgeD.cells 3 EdgeD.len l (t / 3) (t % 3) l[t / 3] (List.getElem?_eq_getElem h1) (by omega)
    rw [show t / 3 * 3 + t % 3 = t from by omega] at h2
    rw [h2]
    have h3 := get_flatK EdgeD.cells 3 l.toArray t (by simpa using ht)
    rw [getElem!_pos _ t (by simpa using ht)] at h3
    rw [Array.getElem?_toList, Array.getElem?_eq_getElem (by simpa using ht), h3]
    have h4 : l.toArray[t / 3]! = l[t / 3] := by rw [getElem!_pos _ _ (by simpa using h1)]; simp
    rw [h4, getElem!_pos _ _ (by rw [EdgeD.len]; omega), List.getElem?_eq_getElem]
  · rw [List.getElem?_eq_none (by simp; omega), List.getElem?_eq_none (by rw [flat_length EdgeD.cells 3 EdgeD.len]; omega)]

theorem holds_E {w : World} {B g off cap : Nat} {l : List EdgeD} (h : Own w B 48 3 (some ⟨g, off, none⟩) l.length cap (l.flatMap EdgeD.cells)) : HoldsK EdgeD.cells 3 w g off l.toArray := by
  intro j hj
  have hj' : j < l.length * 3 := by simpa using hj
  have h1 := h.store (j := j) hj' (.int .i64 0)
  obtain ⟨b, o, hb, hc⟩ := h.row.2 (by omega)
  cases hb
  refine ⟨?_, h1.1⟩
  rw [hc j hj', ← flat_E, Array.getElem?_toList, Array.getElem?_eq_getElem hj, getElem!_pos _ j hj]
  rfl

theorem splice_cells (cur : Array Value) (off : Nat) (F : Array Value) (h : off + F.size ≤ cur.size) : ((putCells id off F cur).toList.drop off).take F.size = F.toList := by
  apply List.ext_getElem?
  intro j
  by_cases hj : j < F.size
  · rw [List.getElem?_take_of_lt hj, List.getElem?_drop, Array.getElem?_toList]
    simp [putCells, hj, show off + j < cur.size by omega]
  · rw [List.getElem?_take_eq_none (by omega), List.getElem?_eq_none (by simp; omega)]

theorem grownBy_sortK {w : World} {g off n : Nat} {os : Array Obj} (d : Array EdgeD) : w.grownBy (sortWorldK EdgeD.cells 3 w g off n d os) (some g) := by
  unfold sortWorldK putRowK
  refine ⟨rfl, rfl, rfl, by simp, fun k hk hne => ?_⟩
  rw [heap_grow_old _ _ (by simpa using hk)]
  have : g ≠ k := fun e => hne (by rw [e])
  simp [putRow, mapBlock, Sort.ahead, Array.getElem?_modify, this]

theorem own_sortK {w : World} {B g off cap n : Nat} {os : Array Obj} {l l' : List EdgeD} (hl : l'.length = l.length) (hc : 0 < l.length) (h : Own w B 48 3 (some ⟨g, off, none⟩) l.length cap (l.flatMap EdgeD.cells)) :
    Own (sortWorldK EdgeD.cells 3 w g off n l'.toArray os) B 48 3 (some ⟨g, off, none⟩) l.length cap (l'.flatMap EdgeD.cells) := by
  refine ⟨by rw [flat_length EdgeD.cells 3 EdgeD.len, hl], ?_⟩
  rcases h.2 with ⟨h1, _⟩ | ⟨g', off', cur, h1, h2, h3, h4, h5, h6, h7⟩
  · omega
  · simp only [Option.some.injEq, Addr.mk.injEq, and_true] at h1
    obtain ⟨rfl, rfl⟩ := h1
    have hg : g < w.heap.size := (Array.getElem?_eq_some_iff.1 h3).1
    have hle : l.length * 3 ≤ cap * 3 := Nat.mul_le_mul_right _ h4
    refine .inr ⟨g, off, putCells id off (flatK EdgeD.cells 3 l'.toArray) cur, rfl, h2, ?_, h4, h5, by simpa [putCells] using h6, ?_⟩
    · unfold sortWorldK putRowK
      rw [heap_grow_old _ _ (by simpa using hg)]
      simp [putRow, mapBlock, Sort.ahead, Array.getElem?_modify, h3, onCells]
    · have h8 := splice_cells cur off (flatK EdgeD.cells 3 l'.toArray) (by simp; omega)
      rw [size_flatK] at h8
      simp only [List.size_toArray] at h8
      rw [hl, flat_E] at h8
      exact h8

theorem sortE_any (B : Nat) (a : Option Addr) (cap : Nat) (l : List EdgeD) (w : World) (hown : Own w B 48 3 a l.length cap (l.flatMap EdgeD.cells)) (hn : l.length ≤ 1048576) :
    Calls Try.prog 38 #[.slice a l.length cap, .func (.func 39) #[] #[]] w fun e w' => e = .returned (.tuple #[]) ∧ ∃ l' : List EdgeD, l'.Perm l ∧ (∀ (j k : Nat) x y, j < k → l'[j]? = some x → l'[k]? = some y → leE x y) ∧
      Own w' B 48 3 a l.length cap (l'.flatMap EdgeD.cells) ∧ w.grownBy w' (rowOf a cap) := by
  rcases Nat.eq_zero_or_pos l.length with h0 | h0
  · have hl0 : l = [] := List.eq_nil_of_length_eq_zero h0
    subst hl0
    have h := AnyF.slices_SortFunc_none Try.sortE a cap (.func (.func 39) #[] #[]) w
    refine Calls.mono h ?_
    rintro e w' ⟨he, rfl⟩
    exact ⟨he, [], List.Perm.refl _, fun j k x y _ hx => by simp at hx, hown, World.grownBy.refl _ _⟩
  · have hle := hown.le
    obtain ⟨g, off, rfl⟩ := hown.addr (by omega)
    have eg : ∀ args w, (callFunc 39 args).run Try.prog w = .ok (.enter 39 args) w := enters_of Try.func39 (by kernel_rfl) rfl
    have hH := holds_E hown
    have h := AnyQ.slices_SortFunc Try.sortE 3 Try.isAgg48 Try.sizeOf48 EdgeD.cells EdgeD.len (fun x v hv => by simp [EdgeD.cells] at hv; rcases hv with rfl | rfl | rfl <;> rfl) cfE swoE 39 #[] g off cap l.toArray w eg (fun _ _ _ _ x y => cmpE_any x y _) hH (by have := hown.size (g := g) (by omega) rfl; exact this.2) (by simp; omega)
    refine Calls.mono h ?_
    rintro e w' ⟨he, d', n, os, hp, hs, rfl⟩
    obtain ⟨p1, p2, p3⟩ := hp
    have hsz : d'.toList.length = l.length := by simpa using p1
    have hperm : d'.toList.Perm l := by
      have e1 : d'.extract 0 l.toArray.size = d' := by rw [← p1]; simp
      have e2 : l.toArray.extract 0 l.toArray.size = l.toArray := by simp
      rw [e1, e2] at p3; exact p3
    refine ⟨he, d'.toList, hperm, fun j k x y hjk hx hy => ?_, ?_, ?_⟩
    · have hk := get_lt hy
      have h1 := hs j k (Nat.zero_le _) hjk (by simp; omega)
      rw [Array.getElem?_toList] at hx hy
      rw [getElem!_def, getElem!_def, hx, hy, ltE] at h1
      simp at h1
      unfold leE; omega
    · have := own_sortK (n := n) (os := os) (l' := d'.toList) hsz h0 hown
      simpa using this
    · rw [rowOf, if_neg (by omega)]
      exact grownBy_sortK d'
end Go.Proofs.Ytadekfjgdbngdaa
