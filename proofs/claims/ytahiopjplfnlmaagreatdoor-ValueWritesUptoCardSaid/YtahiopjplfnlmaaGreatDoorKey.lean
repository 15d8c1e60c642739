/- A list's, or a record's, parts in the making; a key: walked. -/
import Derived.Test.YtahiopjplfnlmaaGreatDoorPln
namespace Go.Proofs.YtahiopjplfnlmaaGreatDoor
open Go Go.RowKit

theorem Tryz.infoVal : (Tryz.prog.info? 34).map (fun i => (i.zero, i.size, i.bytes)) = some (some (.agg #[.int .i64 0, .bool false, .int .i64 0, .string ByteArray.empty, .slice none 0 0, .slice none 0 0]), 6, 88) := by kernel_rfl
theorem Tryz.infoStr : (Tryz.prog.info? 9).map (fun i => (i.zero, i.size, i.bytes)) = some (some (.string ByteArray.empty), 1, 16) := by kernel_rfl
theorem ne_types : 9 ≠ 34 := by decide

/-- a value in the making: what is read of it; the box of the reader's pointer, and the result, beside it -/
structure PV (w0 wr : World) (b : Nat) (sort : Int) (vs : List VD) (la : Option Addr) (lc : Nat) (ks : List Nm) (ka : Option Addr) (kc : Nat) : Prop where
  box : Blk wr w0.heap.size #[.pointer (some ⟨b, 0, none⟩)] 58
  res : Blk wr (w0.heap.size + 1) zeroV 34
  blk : Blk wr (w0.heap.size + 2) #[.int .i64 sort, .bool false, .int .i64 0, .string { data := #[] }, .slice la vs.length lc, .slice ka ks.length kc] 34
  own : Own wr (w0.heap.size + 3) 34 6 la vs.length lc (vs.flatMap VD.cells)
  kown : Own wr (w0.heap.size + 3) 9 1 ka ks.length kc (ks.map strV)
  at' : ∀ x ∈ vs, ValAt wr (fun k => w0.heap.size + 3 ≤ k ∧ rowOf la lc ≠ some k ∧ rowOf ka kc ≠ some k) x
  keep : Keep b w0 wr
theorem blockOf_ne {w : World} {base : Nat} {e : TypeId} {sz : Nat} {a : Option Addr} {n cap : Nat} {xs : List Value} (h : Own w base e sz a n cap xs) {b : Nat} (hb : b < base) : blockOf a ≠ some b := fun he => by have := h.base he; omega
section
variable {w0 wr w' : World} {b : Nat} {sort : Int} {vs : List VD} {la : Option Addr} {lc : Nat} {ks : List Nm} {ka : Option Addr} {kc : Nat}
/-- the reader turned -/
theorem PV.turn (h : PV w0 wr b sort vs la lc ks ka kc) (hb : b < w0.heap.size) (k : Keep b wr w') : PV w0 w' b sort vs la lc ks ka kc :=
  ⟨k.blk h.box (by omega), k.blk h.res (by omega), k.blk h.blk (by omega), k.own h.own (blockOf_ne h.own (by omega)), k.own h.kown (blockOf_ne h.kown (by omega)),
    fun x hx => (h.at' x hx).congr fun g hg hlt => k.block hlt (by omega), h.keep.trans k⟩
theorem PV.ext (h : PV w0 wr b sort vs la lc ks ka kc) (hb : b < w0.heap.size) (k : Below wr.heap.size wr w') : PV w0 w' b sort vs la lc ks ka kc := h.turn hb ((Keep.refl b wr).ext k)
/-- a row of keys, one more, that is no row of a value's -/
theorem PV.pushKey {ka' : Option Addr} {kc' : Nat} {k : Nm} (h : PV w0 wr b sort vs la lc ks ka kc) (ho : Own w' (w0.heap.size + 3) 9 1 ka' (ks.length + 1) kc' ((ks ++ [k]).map strV)) (hg : wr.grownBy w' (rowOf ka kc)) (hr : rowOf ka' kc' = rowOf ka kc ∨ ∃ j, rowOf ka' kc' = some j ∧ wr.heap.size ≤ j) :
    PV w0 (w'.setCell ⟨w0.heap.size + 2, 5, none⟩ (.slice ka' (ks.length + 1) kc')) b sort vs la lc (ks ++ [k]) ka' kc' := by
  have hap : ∀ j, j < w0.heap.size + 3 → some j ≠ rowOf ka kc := fun j hj => h.kown.apart hj
  have hsz : wr.heap.size ≤ w'.heap.size := hg.size
  have hbl := h.blk.lt
  have hl := (h.own.keptType h.kown ne_types.symm hg)
  refine ⟨(h.box.grown hg (hap _ (by omega))).other (p := ⟨w0.heap.size + 2, 5, none⟩) (by show w0.heap.size ≠ w0.heap.size + 2; omega) _, (h.res.grown hg (hap _ (by omega))).other (p := ⟨w0.heap.size + 2, 5, none⟩) (by show w0.heap.size + 1 ≠ w0.heap.size + 2; omega) _, ?_, ?_, ?_, ?_, ?_⟩
  · have := (h.blk.grown hg (hap _ (by omega))).set 5 (.slice ka' (ks.length + 1) kc')
    simpa using this
  · exact hl.setCell_other (p := ⟨w0.heap.size + 2, 5, none⟩) (blockOf_ne (b := w0.heap.size + 2) hl (by omega)) _
  · have := ho.setCell_other (p := ⟨w0.heap.size + 2, 5, none⟩) (blockOf_ne (b := w0.heap.size + 2) ho (by omega)) (.slice ka' (ks.length + 1) kc')
    simpa using this
  · intro x hx
    have h2 := (h.at' x hx).mono (q := fun k => (w0.heap.size + 3 ≤ k ∧ rowOf la lc ≠ some k ∧ rowOf ka kc ≠ some k) ∧ rowOf ka' kc' ≠ some k) fun g hp hlt => ⟨hp, by
      rcases hr with hr | ⟨j, hr, hj⟩
      · rw [hr]; exact hp.2.2
      · rw [hr]; intro e; injection e; omega⟩
    have h3 := h2.congr (w' := w'.setCell ⟨w0.heap.size + 2, 5, none⟩ (.slice ka' (ks.length + 1) kc')) fun g hp hlt => by
      rw [Below.heap_setCell w' ⟨w0.heap.size + 2, 5, none⟩ _ g (by show g ≠ w0.heap.size + 2; omega)]
      exact hg.block g hlt (fun e => hp.1.2.2 e.symm)
    exact h3.mono fun g hp _ => ⟨hp.1.1, hp.1.2.1, hp.2⟩
  · exact (h.keep.grown hg (h.kown.rowBase (by omega))).put (by omega) _ _
/-- a row of values, one more, whose rows are new -/
theorem PV.pushVal {la' : Option Addr} {lc' : Nat} {x : VD} (h : PV w0 wr b sort vs la lc ks ka kc) (hx : ValAt wr (fun k => w0.heap.size + 3 ≤ k ∧ rowOf la lc ≠ some k ∧ rowOf ka kc ≠ some k) x) (ho : Own w' (w0.heap.size + 3) 34 6 la' (vs.length + 1) lc' ((vs ++ [x]).flatMap VD.cells))
    (hk : ∀ j, j < wr.heap.size → some j ≠ rowOf la lc → some j ≠ rowOf la' lc' → w'.heap[j]? = wr.heap[j]?) (hK : Below 0 wr w') (hr : rowOf la' lc' = rowOf la lc ∨ ∃ j, rowOf la' lc' = some j ∧ wr.heap.size ≤ j) :
    PV w0 (w'.setCell ⟨w0.heap.size + 2, 4, none⟩ (.slice la' (vs.length + 1) lc')) b sort (vs ++ [x]) la' lc' ks ka kc := by
  have hap : ∀ j, j < w0.heap.size + 3 → some j ≠ rowOf la lc := fun j hj => h.own.apart hj
  have hap2 : ∀ j, j < w0.heap.size + 3 → some j ≠ rowOf la' lc' := fun j hj => ho.apart hj
  have hbl := h.blk.lt
  have hkk : ∀ j, j < w0.heap.size + 3 → w'.heap[j]? = wr.heap[j]? := fun j hj => hk j (by omega) (hap j hj) (hap2 j hj)
  have hko : Own w' (w0.heap.size + 3) 9 1 ka ks.length kc (ks.map strV) := by
    refine ⟨h.kown.1, ?_⟩
    rcases h.kown.2 with h1 | ⟨g, off, cur, rfl, k2, k3, r⟩
    · exact .inl h1
    · refine .inr ⟨g, off, cur, rfl, k2, ?_, r⟩
      have hlt := (Array.getElem?_eq_some_iff.1 k3).1
      have hne : ∀ {a : Option Addr} {n c : Nat} {xs : List Value} {W : World}, Own W (w0.heap.size + 3) 34 6 a n c xs → W.heap[g]? = wr.heap[g]? → some g ≠ rowOf a c := fun {a n c xs W} o hW he => by
        unfold rowOf at he
        split at he
        · cases he
        · rename_i hc
          rcases o.2 with ⟨_, q, _⟩ | ⟨g', off', cur', rfl, _, q3, _⟩
          · exact hc q
          · simp [blockOf] at he; subst he
            rw [hW, k3] at q3
            simp only [Option.some.injEq, Obj.cells.injEq] at q3
            exact ne_types q3.2.1
      have h1 := hne h.own rfl
      have h2 : some g ≠ rowOf la' lc' := by
        rcases hr with hr | ⟨j, hr, hj⟩
        · rw [hr]; exact h1
        · rw [hr]; intro e; injection e; omega
      rw [hk g hlt h1 h2]; exact k3
  refine ⟨?_, ?_, ?_, ?_, ?_, ?_, ?_⟩
  · exact Blk.other (p := ⟨w0.heap.size + 2, 4, none⟩) ((hkk _ (by omega)).trans h.box) (by show w0.heap.size ≠ w0.heap.size + 2; omega) _
  · exact Blk.other (p := ⟨w0.heap.size + 2, 4, none⟩) ((hkk _ (by omega)).trans h.res) (by show w0.heap.size + 1 ≠ w0.heap.size + 2; omega) _
  · have := Blk.set (w := w') (g := w0.heap.size + 2) ((hkk _ (by omega)).trans h.blk) 4 (.slice la' (vs.length + 1) lc')
    simpa using this
  · have := ho.setCell_other (p := ⟨w0.heap.size + 2, 4, none⟩) (blockOf_ne (b := w0.heap.size + 2) ho (by omega)) (.slice la' (vs.length + 1) lc')
    simpa using this
  · exact hko.setCell_other (p := ⟨w0.heap.size + 2, 4, none⟩) (blockOf_ne (b := w0.heap.size + 2) hko (by omega)) _
  · intro y hy
    have hy2 : ValAt wr (fun k => w0.heap.size + 3 ≤ k ∧ rowOf la lc ≠ some k ∧ rowOf ka kc ≠ some k) y := by
      rcases List.mem_append.1 hy with hy | hy
      · exact h.at' y hy
      · rw [List.mem_singleton] at hy; rw [hy]; exact hx
    have h2 := hy2.mono (q := fun k => (w0.heap.size + 3 ≤ k ∧ rowOf la lc ≠ some k ∧ rowOf ka kc ≠ some k) ∧ rowOf la' lc' ≠ some k) fun g hp hlt => ⟨hp, by
      rcases hr with hr | ⟨j, hr, hj⟩
      · rw [hr]; exact hp.2.1
      · rw [hr]; intro e; injection e; omega⟩
    have h3 := h2.congr (w' := w'.setCell ⟨w0.heap.size + 2, 4, none⟩ (.slice la' (vs.length + 1) lc')) fun g hp hlt => by
      rw [Below.heap_setCell w' ⟨w0.heap.size + 2, 4, none⟩ _ g (by show g ≠ w0.heap.size + 2; omega)]
      exact hk g hlt (fun e => hp.1.2.1 e.symm) (fun e => hp.2 e.symm)
    exact h3.mono fun g hp _ => ⟨hp.1.1, hp.2, hp.1.2.2⟩
  · refine Keep.put ⟨h.keep.1.trans hK, fun j hj hne => ?_⟩ (by omega) _ _
    have := h.keep.size
    exact (hkk j (by omega)).trans (h.keep.2 j hj hne)
end

theorem mem_ba (k : Nm) (ks : List Nm) : ((⟨k.toArray⟩ : ByteArray) ∈ ks.map fun x => (⟨x.toArray⟩ : ByteArray)) ↔ k ∈ ks := by
  rw [List.mem_map]
  constructor
  · rintro ⟨x, hx, he⟩
    have : x = k := by
      have h1 := congrArg (fun z : ByteArray => z.data.toList) he
      simpa using h1
    rw [← this]; exact hx
  · intro h; exact ⟨k, h, rfl⟩
theorem contains_any (a : Option Addr) (c : Nat) (ks : List Nm) (k : Nm) (w : World) (h : Row w 1 a ks.length (ks.map strV)) (hl : ks.length ≤ 1048576) : Calls Tryz.prog 73 #[.slice a ks.length c, .string ⟨k.toArray⟩] w fun e w' => e = .returned (.bool (decide (k ∈ ks))) ∧ w' = w := by
  cases ks with
  | nil => exact Tryz.slices_Contains_string_empty a c ⟨k.toArray⟩ w
  | cons x l =>
    obtain ⟨b, off, rfl, hc⟩ := h.2 (by simp)
    have h1 := Tryz.slices_Contains_string b off (x :: l).length c ((x :: l).map fun x => (⟨x.toArray⟩ : ByteArray)) ⟨k.toArray⟩ w (by simp) (by omega) (fun j hj => by
      rw [List.length_map] at hj
      have := hc j (by omega)
      rw [this]
      generalize x :: l = L at *
      rw [List.getElem?_map, List.getD_eq_getElem?_getD, List.getElem?_map, List.getElem?_eq_getElem hj]
      rfl)
    have e : Lib.containsS (((x :: l).map fun x => (⟨x.toArray⟩ : ByteArray)).take (x :: l).length) ⟨k.toArray⟩ = decide (k ∈ x :: l) := by
      rw [List.take_of_length_le (by simp), Bool.eq_iff_iff, Lib.containsS_iff, mem_ba, decide_eq_true_eq]
    rw [e] at h1
    exact h1
end Go.Proofs.YtahiopjplfnlmaaGreatDoor
