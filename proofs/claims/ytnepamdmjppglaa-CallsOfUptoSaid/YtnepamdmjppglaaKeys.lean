/- slices.Sorted(maps.Keys(m)) at the two kinds of maps. -/
import Derived.Test.YtnepamdmjppglaaIterL
import Derived.Test.YtnepamdmjppglaaSrt
namespace Go.Proofs.Ytnepamdmjppglaa
open Go Go.RowKit Go.Shelf Go.Sort Go.Maps

theorem SMap.nodup {P : Program} {k : TypeId} {w : World} {b : Nat} {ks : List Nm} {f : Nm → Value} {z : Value} (h : SMap P k w b ks f z) : ks.Nodup := by
  obtain ⟨_, _, _, _, _, _, hn, _⟩ := h
  exact hn
theorem SMap.klen {P : Program} {k : TypeId} {w : World} {b : Nat} {ks : List Nm} {f : Nm → Value} {z : Value} (h : SMap P k w b ks f z) : ∀ x ∈ ks, x.length ≤ maxLen := by
  obtain ⟨_, _, _, _, _, _, _, hn, _⟩ := h
  exact hn

theorem sorts_in (m : Nat) : AnyZ.SortsIn Try.prog Try.sorted31_ren Fence.wide m :=
  ⟨fun blk off cap ss W hH hblk hsz => callsIn_wide.2 (AnyM.slices_Sort_string Try.sort25 blk off cap ss W hH hblk hsz),
   fun p cap W => callsIn_wide.2 (AnyM.slices_Sort_string_none Try.sort25 p cap W)⟩

theorem keys_of {w w' : World} {b0 : Nat} {ks : List Nm} {D : DataW Unit} {e : Ending} (hD : (strKeys D).Perm ks) (hn : ks.Nodup) {w1 : World} (hb1 : Below w.heap.size w w1) (hs1 : w.heap.size ≤ b0)
    (h : ∃ (v : Value) (ss : List (List UInt8)), e = .returned v ∧ ss.Perm (strKeys D) ∧ w'.ownsRow b0 9 1 v ss.length ((ss.mergeSort (fun x y => decide (x ≤ y))).map encStr) ∧ (v = .slice none 0 0 ↔ ss = []) ∧ Below b0 w1 w') :
    ∃ a c, e = .returned (.slice a ks.length c) ∧ Own w' w.heap.size 9 1 a ks.length c ((srt ks).map strV) ∧ Below w.heap.size w w' := by
  obtain ⟨v, ss, rfl, h1, h2, _, h3⟩ := h
  obtain ⟨a, c, rfl, ho, _⟩ := Own.ofOwns h2
  have hp := h1.trans hD
  have e1 : srt ss = srt ks := srt_of_perm hp hn
  rw [hp.length_eq] at ho ⊢
  rw [show (ss.mergeSort fun x y => decide (x ≤ y)) = srt ks from e1] at ho
  exact ⟨a, c, rfl, ho.mono hs1, hb1.trans (h3.mono hs1)⟩

theorem keysG_call (mb : Option Nat) (w : World) : Calls Try.prog 32 #[.map mb] w fun e w' => e = .returned (.func (.func 54) #[] #[.pointer (some ⟨w.heap.size, 0, none⟩)]) ∧ w' = w.alloc (.cells #[.map mb] 55) :=
  (callsIn_wide (n := 5)).1 (AnyZ.keys_in Try.keys32 Fence.wide 5 trivial rfl mb w)
theorem sortedG (b : Nat) (ks : List Nm) (f : Nm → Value) (z : Value) (w : World) (h : SM w b ks f z) (hl : ks.length ≤ 2097152) :
    Calls Try.prog 31 #[.func (.func 54) #[] #[.pointer (some ⟨w.heap.size, 0, none⟩)]] (w.alloc (.cells #[.map (some b)] 55)) fun e w' => ∃ a c, e = .returned (.slice a ks.length c) ∧ Own w' w.heap.size 9 1 a ks.length c ((srt ks).map strV) ∧ Below w.heap.size w w' := by
  obtain ⟨D, hown, hp, hz⟩ := SMap.owns h
  have hbl := hown.lt
  have hseq : SeqGives Fence.wide 2 Try.prog 54 #[.pointer (some ⟨w.heap.size, 0, none⟩)] encStr (fun ss => ss.Perm (strKeys D)) (Maps.size D) (w.alloc (.cells #[.map (some b)] 55)) :=
    AnyZ.keys_gives (ρ := Try.keys32_ren) { Try.keys32 with } Fence.wide _ trivial rfl (by omega) w.heap.size b ks.length D _ (by simp) (by simp) (by
      obtain ⟨es, clock, hb, Ft, hs, hD⟩ := hown
      exact ⟨es, clock, (Below.heap_alloc _ _ b hbl).trans hb, Ft, hs, hD⟩)
  refine Calls.mono ((callsIn_wide (n := 5)).1 (AnyZ.sorted_in Try.sorted31 Fence.wide 5 trivial trivial trivial trivial rfl (by omega) (sorts_in _) (enters_of Try.func25 (by kernel_rfl) rfl) 54 #[.pointer (some ⟨w.heap.size, 0, none⟩)] trivial (enters_of Try.func54 (by kernel_rfl) rfl) _ (Maps.size D) (by rw [hz]; unfold maxLen; omega) (by rw [hz]; omega) _ hseq)) fun e w' h' => ?_
  exact keys_of hp h.nodup (below_a1 w _) (by simp) h'

theorem keysI_call (mb : Option Nat) (w : World) : Calls Try.prog 47 #[.map mb] w fun e w' => e = .returned (.func (.func 61) #[] #[.pointer (some ⟨w.heap.size, 0, none⟩)]) ∧ w' = w.alloc (.cells #[.map mb] 57) :=
  (callsIn_wide (n := 5)).1 (AnyZ.keys_in Try.keys47 Fence.wide 5 trivial rfl mb w)
theorem sortedI (b : Nat) (ks : List Nm) (f : Nm → Nat) (w : World) (h : IM w b ks f) (hl : ks.length ≤ 2097152) :
    Calls Try.prog 31 #[.func (.func 61) #[] #[.pointer (some ⟨w.heap.size, 0, none⟩)]] (w.alloc (.cells #[.map (some b)] 57)) fun e w' => ∃ a c, e = .returned (.slice a ks.length c) ∧ Own w' w.heap.size 9 1 a ks.length c ((srt ks).map strV) ∧ Below w.heap.size w w' := by
  obtain ⟨D, hown, hp, hz⟩ := SMap.owns h
  have hbl := hown.lt
  have hseq : SeqGives Fence.wide 2 Try.prog 61 #[.pointer (some ⟨w.heap.size, 0, none⟩)] encStr (fun ss => ss.Perm (strKeys D)) (Maps.size D) (w.alloc (.cells #[.map (some b)] 57)) :=
    AnyZ.keys_gives (ρ := Try.keys47_ren) { Try.keys47 with } Fence.wide _ trivial rfl (by omega) w.heap.size b ks.length D _ (by simp) (by simp) (by
      obtain ⟨es, clock, hb, Ft, hs, hD⟩ := hown
      exact ⟨es, clock, (Below.heap_alloc _ _ b hbl).trans hb, Ft, hs, hD⟩)
  refine Calls.mono ((callsIn_wide (n := 5)).1 (AnyZ.sorted_in Try.sorted31 Fence.wide 5 trivial trivial trivial trivial rfl (by omega) (sorts_in _) (enters_of Try.func25 (by kernel_rfl) rfl) 61 #[.pointer (some ⟨w.heap.size, 0, none⟩)] trivial (enters_of Try.func61 (by kernel_rfl) rfl) _ (Maps.size D) (by rw [hz]; unfold maxLen; omega) (by rw [hz]; omega) _ hseq)) fun e w' h' => ?_
  exact keys_of hp h.nodup (below_a1 w _) (by simp) h'
end Go.Proofs.Ytnepamdmjppglaa
