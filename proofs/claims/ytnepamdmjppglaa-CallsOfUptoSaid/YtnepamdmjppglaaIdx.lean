/- Where a name stands in a row; what stands from there on, sorted; a look at a map as an operation that may be taken first. -/
import Derived.Test.YtnepamdmjppglaaFin
namespace Go.Proofs.Ytnepamdmjppglaa
open Go Go.RowKit Go.Shelf Go.Sort

theorem ba_inj {x y : Nm} (h : (⟨x.toArray⟩ : ByteArray) = ⟨y.toArray⟩) : x = y := by simpa using h
theorem index_any (a : Option Addr) (c : Nat) (pre post : List Nm) (x : Nm) (w : World) (hr : Row w 1 a (pre ++ x :: post).length ((pre ++ x :: post).map strV)) (hl : (pre ++ x :: post).length ≤ 4194304) (hx : x ∉ pre) :
    Calls Try.prog 55 #[.slice a (pre ++ x :: post).length c, .string ⟨x.toArray⟩] w fun e w' => e = .returned (.int .i64 (pre.length : Nat)) ∧ w' = w := by
  obtain ⟨b, off, rfl, _⟩ := str_at hr (i := pre.length) (x := x) (by simp)
  refine Calls.mono (Try.slices_Index_string b off (pre ++ x :: post).length c ((pre ++ x :: post).map fun x => (⟨x.toArray⟩ : ByteArray)) ⟨x.toArray⟩ w (by simp) (by omega) fun j hj => ?_) fun e w' h => ⟨?_, h.2⟩
  · rw [List.length_map] at hj
    obtain ⟨y, hy⟩ := get_some hj
    obtain ⟨b2, off2, e2, h2⟩ := str_at hr hy
    cases e2
    rw [h2]
    simp only [List.getD_eq_getElem?_getD, List.getElem?_map, hy]; rfl
  · rw [h.1, Lib.idxOfS_hit _ _ pre.length _ (by simp) (by simp)]
    · simp [List.getD_eq_getElem?_getD]
    · intro j hj
      obtain ⟨y, hy⟩ := get_some hj
      have : (pre ++ x :: post)[j]? = some y := by rw [List.getElem?_append_left hj]; exact hy
      simp only [List.getD_eq_getElem?_getD, List.getElem?_map, this]
      intro e
      exact hx (ba_inj e ▸ List.mem_of_getElem? hy)

/-- slices.Sorted(slices.Values(row)) -/
theorem sorted_values (a : Option Addr) (cap : Nat) (zs : List Nm) (w : World) (hz : zs.length ≤ 2097152) (hr : Row w 1 a zs.length (zs.map strV)) :
    Calls Try.prog 31 #[.func (.func 75) #[] #[.pointer (some ⟨w.heap.size, 0, none⟩)]] (w.alloc (.cells #[.slice a zs.length cap] 28)) fun e w' => ∃ a' c, e = .returned (.slice a' (srt zs).length c) ∧ Own w' w.heap.size 9 1 a' (srt zs).length c ((srt zs).map strV) ∧ Below w.heap.size w w' := by
  refine Calls.mono (sorted_seq 75 #[.pointer (some ⟨w.heap.size, 0, none⟩)] zs zs.length (w.alloc (.cells #[.slice a zs.length cap] 28)) (by omega) (Nat.le_refl _) (enters_of Try.func75 (by kernel_rfl) rfl)
    (values_stops w.heap.size _ a cap zs _ (by omega) (by simp) (Nat.le_refl _) (.inr trivial) (by simp) (hr.ext (below_a1 _ _)) fun g h0 hg => by have := hr.lt (by omega) hg; simp; omega)) fun e w' h => ?_
  obtain ⟨a', c, rfl, ho, hb⟩ := h
  exact ⟨a', c, by rw [srt_len], by rw [srt_len]; exact ho.mono (by simp), (below_a1 _ _).trans (hb.mono (by simp))⟩

theorem take_lookI {w : World} {o : Oper} {ev : Operand → Value} (m k : Operand) (ho : o.op = .lookup 57 m k false) {b : Nat} {ks : List Nm} {f : Nm → Nat} (h : IM w b ks f) {x : Nm} (hx : x.length ≤ maxLen) (hm : ev m = .map (some b)) (hk : ev k = .string ⟨x.toArray⟩) (v : Nat) (hv : f x = v) :
    (execOp ev o).run Try.prog w = .ok (.value (.int .i64 (v : Nat))) w := by
  subst hv
  have hr := IM.look h hx
  simp [execOp, ho, hm, hk, hr, Result.andThen]
end Go.Proofs.Ytnepamdmjppglaa
