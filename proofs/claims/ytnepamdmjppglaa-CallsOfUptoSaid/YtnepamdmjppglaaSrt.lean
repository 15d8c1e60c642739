/- Rows of texts sorted: slices.Sort at a slice of the call's own; slices.Sorted of what a sequence tells. -/
import Derived.Sort.OwnSorted
import Derived.Test.YtnepamdmjppglaaSeq
namespace Go.Proofs.Ytnepamdmjppglaa
open Go Go.RowKit Go.Shelf Go.Sort

/-- sorted -/
def srt (l : List Nm) : List Nm := l.mergeSort fun x y => decide (x ≤ y)
theorem srt_perm (l : List Nm) : (srt l).Perm l := List.mergeSort_perm l _
theorem mem_srt {l : List Nm} {x : Nm} : x ∈ srt l ↔ x ∈ l := (srt_perm l).mem_iff
theorem srt_len (l : List Nm) : (srt l).length = l.length := (srt_perm l).length_eq
theorem nmOrd : Ord (fun a b : Nm => a < b) where
  irrefl := fun x => List.lt_irrefl x
  trans := fun x y z h1 h2 => List.lt_trans h1 h2
  total := fun x y h => by
    rcases Classical.em (x < y) with q | q
    · exact .inl q
    · rcases Classical.em (y < x) with r | r
      · exact .inr r
      · exact absurd (List.le_antisymm (List.not_lt.1 r) (List.not_lt.1 q)) h
theorem srt_le (l : List Nm) : (srt l).Pairwise fun x y => x ≤ y := by
  have h := List.pairwise_mergeSort (le := fun x y : Nm => decide (x ≤ y)) (fun a b c h1 h2 => by
    simp only [decide_eq_true_eq] at *; exact List.le_trans h1 h2) (fun a b => by
    rcases List.le_total a b with q | q
    · simp [q]
    · simp [q]) l
  exact h.imp fun h => by simpa using h
theorem srt_rising {l : List Nm} (h : l.Nodup) : (srt l).Pairwise fun x y => x < y := by
  have h1 := srt_le l
  have h2 : (srt l).Nodup := (srt_perm l).nodup_iff.2 h
  refine (h1.and h2).imp fun ⟨p, q⟩ => ?_
  rcases nmOrd.total _ _ q with r | r
  · exact r
  · exact absurd (List.le_antisymm p (List.le_of_lt r)) q
theorem srt_of_perm {a b : List Nm} (h : a.Perm b) (hn : b.Nodup) : srt a = srt b :=
  rising_unique nmOrd (srt_rising (h.nodup_iff.2 hn)) (srt_rising hn) fun x => by rw [mem_srt, mem_srt, h.mem_iff]

theorem own_holds {w : World} {B : Nat} {e : TypeId} {g off cap : Nat} {l : List Nm} (h : Own w B e 1 (some ⟨g, off, none⟩) l.length cap (l.map strV)) : Holds encStr w g off l.toArray := by
  rcases h.2 with ⟨h0, _, _⟩ | ⟨g', off', cur, e1, _, h3, _, _, _, h7⟩
  · intro j hj; simp at hj; omega
  · cases e1
    intro j hj
    simp at hj
    have h8 : cur[off + j]? = some (strV l[j]) := by
      rw [← Array.getElem?_toList, ← List.getElem?_drop]
      have := congrArg (·[j]?) h7
      simp only [List.getElem?_take, List.getElem?_map] at this
      rw [if_pos (by omega), List.getElem?_eq_getElem hj] at this
      simpa using this
    refine ⟨?_, frozen_of_row w g (off + j) cur e h3⟩
    rw [cell_of_row w g (off + j) cur e (0, 0) h3, h8]
    simp [strV, hj]

theorem own_sorted {w : World} {B : Nat} {e : TypeId} {g off cap n : Nat} {os : Array Obj} {l ts : List Nm} (hl : ts.length = l.length) (h : Own w B e 1 (some ⟨g, off, none⟩) l.length cap (l.map strV)) (h0 : 0 < l.length) :
    Own (grow (putRow encStr (Sort.ahead w n) g off ts.toArray) os) B e 1 (some ⟨g, off, none⟩) l.length cap (ts.map strV) := by
  rcases h.2 with ⟨h1, _, _⟩ | ⟨g', off', cur, e1, h2, h3, h4, h5, h6, h7⟩
  · omega
  · cases e1
    have hg : g < w.heap.size := (Array.getElem?_eq_some_iff.1 h3).1
    have hb : (grow (putRow encStr (Sort.ahead w n) g off ts.toArray) os).heap[g]? = some (.cells (putCells encStr off ts.toArray cur) e (0, 0)) := by
      rw [heap_grow_old _ _ (by simpa using hg)]
      simp [putRow, mapBlock, Sort.ahead, Array.getElem?_modify, h3, onCells]
    refine ⟨by simp [hl], .inr ⟨g, off, _, rfl, h2, hb, h4, h5, by simpa [putCells] using h6, ?_⟩⟩
    apply List.ext_getElem?
    intro j
    by_cases hj : j < ts.length
    · rw [List.getElem?_take_of_lt (by omega), List.getElem?_drop, Array.getElem?_toList]
      have h8 : off + j < cur.size := by omega
      simp [putCells, hj, h8, strV]
    · rw [List.getElem?_take_eq_none (by omega), List.getElem?_eq_none (by simp; omega)]

/-- slices.Sort at a slice of the call's own -/
theorem sort_any (a : Option Addr) (c B : Nat) (l : List Nm) (w : World) (ho : Own w B 9 1 a l.length c (l.map strV)) (hl : l.length ≤ 4194304) :
    Calls Try.prog 25 #[.slice a l.length c] w fun e w' => e = .returned (.tuple #[]) ∧ Own w' B 9 1 a l.length c ((srt l).map strV) ∧ w.grownBy w' (rowOf a c) := by
  rcases Nat.eq_zero_or_pos l.length with h0 | h0
  · have hl0 : l = [] := List.length_eq_zero_iff.1 h0
    subst hl0
    exact Calls.mono (Try.slices_Sort_string_none a c w) fun e w' h => ⟨h.1, by rw [h.2]; simpa [srt] using ho, by rw [h.2]; exact World.grownBy.refl _ _⟩
  · obtain ⟨g, off, rfl⟩ := ho.addr (by have := ho.le; omega)
    have hlt := (ho.size (by have := ho.le; omega) rfl).2
    refine Calls.mono (Try.slices_Sort_string g off c l w (own_holds ho) hlt (by omega)) fun e w' h => ?_
    obtain ⟨he, n, os, rfl⟩ := h
    refine ⟨he, own_sorted (ts := srt l) (srt_len l) ho h0, ?_⟩
    have e1 : rowOf (some ⟨g, off, none⟩) c = some g := by unfold rowOf; rw [if_neg (by have := ho.le; omega)]; rfl
    rw [e1]
    refine ⟨rfl, rfl, rfl, by simp, fun k hk hne => ?_⟩
    rw [heap_grow_old _ _ (by simpa using hk)]
    have : g ≠ k := fun e => hne (by rw [e])
    simp [putRow, mapBlock, Sort.ahead, Array.getElem?_modify, this]

/-- slices.Sorted of a sequence that is told whole -/
theorem sorted_seq (g : Nat) (lb : Array Value) (xs : List Nm) (N : Nat) (w : World) (hN : N ≤ 4194304) (hl : xs.length ≤ N) (eg : ∀ args w, (callFunc g args).run Try.prog w = .ok (.enter g args) w)
    (hst : SeqStopsK Fence.wide 8 Try.prog g lb (fun x : Nm => #[strV x]) (Below w.heap.size) (fun ys => ys = xs) (fun _ => True) N w) :
    Calls Try.prog 31 #[.func (.func g) #[] lb] w fun e w' => ∃ a c, e = .returned (.slice a xs.length c) ∧ Own w' w.heap.size 9 1 a xs.length c ((srt xs).map strV) ∧ Below w.heap.size w w' := by
  have hap := collect_str g lb xs N w hN hl eg hst
  go_enter Try.func31, Try.ntmps31
  go_wp2_with fail
  refine hap.mono ?_
  rintro e w1 ⟨a, c, rfl, ho, hb⟩
  have hs := sort_any a c w.heap.size xs w1 ho (by omega)
  have hrb := ho.rowBase (Nat.le_refl _)
  go_wp2_with fail
  refine hs.mono ?_
  rintro e w2 ⟨rfl, ho2, hg2⟩
  go_wp2
  go_ret
  exact ⟨a, c, rfl, ho2, hb.grown hg2 hb.size (fun j hj => hrb j hj)⟩
end Go.Proofs.Ytnepamdmjppglaa
