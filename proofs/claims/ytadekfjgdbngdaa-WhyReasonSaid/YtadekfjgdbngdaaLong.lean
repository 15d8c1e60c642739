/- Looks by one edge more, edge by edge, plainly; and the document's: least, has, walked. -/
import Derived.Test.YtadekfjgdbngdaaWhyP
namespace Go.Proofs.Ytadekfjgdbngdaa
open Go Go.RowKit

theorem Longer.none (rest : List Int) (n : Nat) (h : rest.length = n) : Longer [] rest (List.replicate n (-2)) := by
  refine ⟨by simp [h], fun i v hv hne => ?_, fun e he => by simp at he⟩
  rw [List.getElem?_replicate] at hv
  split at hv
  · cases hv; exact absurd rfl hne
  · cases hv
theorem Longer.congr {E F : List EdgeD} {rest out : List Int} (h : Longer E rest out) (hm : ∀ e, e ∈ E ↔ e ∈ F) : Longer F rest out := by
  refine ⟨h.len, fun i v hv hne => ?_, fun e he => h.least e ((hm e).2 he)⟩
  obtain ⟨e, he, r⟩ := h.ways i v hv hne
  exact ⟨e, (hm e).1 he, r⟩
theorem Longer.skip {E : List EdgeD} {rest out : List Int} {e : EdgeD} (h : Longer E rest out) (hd : rest[e.dst.toNat]? = some (-2)) : Longer (E ++ [e]) rest out := by
  refine ⟨h.len, fun i v hv hne => ?_, fun f hf d hd2 hne => ?_⟩
  · obtain ⟨f, hf, r⟩ := h.ways i v hv hne
    exact ⟨f, by simp [hf], r⟩
  · simp only [List.mem_append, List.mem_singleton] at hf
    rcases hf with hf | rfl
    · exact h.least f hf d hd2 hne
    · rw [hd] at hd2; cases hd2; exact absurd rfl hne
theorem Longer.keep {E : List EdgeD} {rest out : List Int} {e : EdgeD} {d s : Int} (h : Longer E rest out) (hd : rest[e.dst.toNat]? = some d) (hs : out[e.src.toNat]? = some s) (hs2 : s ≠ -2) (hle : s ≤ max d 0 + e.deref) : Longer (E ++ [e]) rest out := by
  refine ⟨h.len, fun i v hv hne => ?_, fun f hf d' hd2 hne => ?_⟩
  · obtain ⟨f, hf, r⟩ := h.ways i v hv hne
    exact ⟨f, by simp [hf], r⟩
  · simp only [List.mem_append, List.mem_singleton] at hf
    rcases hf with hf | rfl
    · exact h.least f hf d' hd2 hne
    · rw [hd] at hd2; cases hd2; exact ⟨s, hs, hs2, hle⟩
theorem Longer.put {E : List EdgeD} {rest out : List Int} {e : EdgeD} {d s : Int} (h : Longer E rest out) (hd : rest[e.dst.toNat]? = some d) (hd2 : d ≠ -2) (hs : out[e.src.toNat]? = some s) (hlt : s = -2 ∨ max d 0 + e.deref < s) (hlow : -1 ≤ e.deref) (h0 : 0 ≤ e.src) :
    Longer (E ++ [e]) rest (out.set e.src.toNat (max d 0 + e.deref)) := by
  have hne : max d 0 + e.deref ≠ -2 := by omega
  refine ⟨by rw [List.length_set]; exact h.len, fun i v hv hv2 => ?_, fun f hf d' hd3 hne' => ?_⟩
  · by_cases q : e.src.toNat = i
    · rw [q, List.getElem?_set_self (by rw [← q]; exact get_lt hs)] at hv
      cases hv
      exact ⟨e, by simp, by omega, d, hd, hd2, rfl⟩
    · rw [List.getElem?_set_ne q] at hv
      obtain ⟨f, hf, r⟩ := h.ways i v hv hv2
      exact ⟨f, by simp [hf], r⟩
  · simp only [List.mem_append, List.mem_singleton] at hf
    rcases hf with hf | rfl
    · obtain ⟨u, hu, hu1, hu2⟩ := h.least f hf d' hd3 hne'
      by_cases q : e.src.toNat = f.src.toNat
      · rw [← q, hs] at hu; cases hu
        refine ⟨max d 0 + e.deref, by rw [← q, List.getElem?_set_self (get_lt hs)], hne, ?_⟩
        rcases hlt with q2 | q2
        · exact absurd q2 hu1
        · omega
      · exact ⟨u, by rw [List.getElem?_set_ne q]; exact hu, hu1, hu2⟩
    · rw [hd] at hd3; cases hd3
      exact ⟨_, List.getElem?_set_self (get_lt hs), hne, Int.le_refl _⟩

theorem take_snoc {α : Type} {l : List α} {k : Nat} {x : α} (h : l[k]? = some x) : l.take (k + 1) = l.take k ++ [x] := by
  obtain ⟨h1, h2⟩ := List.getElem?_eq_some_iff.1 h
  rw [List.take_succ_eq_append_getElem h1, h2]

set_option maxHeartbeats 400000 in
theorem has_any (a : Option Addr) (c : Nat) (l : List Int) (x : Int) (w : World) (hr : Row w 1 a l.length (l.map (Value.int .i64))) (hl : l.length ≤ 1099511627776) :
    Calls Try.prog 25 #[.slice a l.length c, .int .i64 x] w fun e w' => e = .returned (.bool (decide (x ∈ l))) ∧ w = w' := by
  have HR := Lib.hid hr
  clear hr
  go_enter Try.func25, Try.ntmps25
  go_wp2
  go_loop [5] (fun i => ∃ k : Nat, k ≤ l.length ∧ i = .int .i64 k ∧ Hid (∀ j y, j < k → l[j]? = some y → y ≠ x)) (fun i => l.length - (intOf i).toNat)
  case atStart => exact ⟨0, Nat.zero_le _, rfl, fun j y h => by omega⟩
  case round =>
    obtain ⟨k, hk, rfl, hall⟩ := hrel
    by_cases hlt : k < l.length
    · obtain ⟨y, hy⟩ := get_some hlt
      obtain ⟨b, off, rfl, h1⟩ := Row.elem1 (f := Value.int .i64) HR.out hy
      have Hy := Lib.hid hy
      clear hy
      by_cases he : y = x
      · have fe : (y == x) = true := by simpa using he
        go_wp2
        go_ret
        refine ⟨?_, rfl⟩
        have : x ∈ l := he ▸ List.mem_of_getElem? Hy.out
        simp [this]
      · have fe : (y == x) = false := by simpa using he
        have He := Lib.hid he
        clear he
        go_wp2
        go_round
        case rel =>
          refine ⟨k + 1, by omega, by go_num, fun j z hj hz => ?_⟩
          rcases Nat.lt_or_ge j k with h | h
          · exact hall.out j z h hz
          · obtain rfl : j = k := by omega
            have := Hy.out; rw [hz] at this; cases this; exact He.out
        case measure => simp [intOf]; omega
    · obtain rfl : k = l.length := by omega
      go_wp2
      go_ret
      refine ⟨?_, rfl⟩
      have : ¬ x ∈ l := fun hm => by
        obtain ⟨j, hj, rfl⟩ := List.getElem_of_mem hm
        exact hall.out j _ hj (List.getElem?_eq_getElem hj) rfl
      simp [this]
end Go.Proofs.Ytadekfjgdbngdaa
