/- The program's search by a list of what is still to do, plainly. -/
import Derived.Test.YtadekfjgdbngdaaBack
import Derived.Test.YtadekfjgdbngdaaRefCome
namespace Go.Proofs.Ytadekfjgdbngdaa
open Go

/-- every edge is fine, but those that lead to what is still to do, and those of L from j on -/
def WInv (edges : List EdgeD) (out q : List Int) (L : List EdgeD) (j : Nat) : Prop :=
  (∀ x ∈ q, 0 ≤ x ∧ ∃ v, out[x.toNat]? = some v ∧ v ≠ -2) ∧
  ∀ e ∈ edges, (∃ d, out[e.dst.toNat]? = some d ∧ d ≠ -2) → e.dst ∈ q ∨ Fine out e ∨ ∃ i, j ≤ i ∧ L[i]? = some e

theorem WInv.pop {edges : List EdgeD} {out q : List Int} {x : Nat} (h : WInv edges out ((x : Int) :: q) [] 0) : WInv edges out q (bk edges edges.length x) 0 := by
  refine ⟨fun y hy => h.1 y (List.mem_cons_of_mem _ hy), fun e he hd => ?_⟩
  rcases h.2 e he hd with h1 | h1 | ⟨i, _, h1⟩
  · rcases List.mem_cons.1 h1 with h2 | h2
    · refine .inr (.inr ?_)
      have hm : e ∈ bk edges edges.length x := by
        unfold bk; rw [List.take_length, List.mem_filter]; exact ⟨he, by simpa using h2⟩
      obtain ⟨i, hi, rfl⟩ := List.getElem_of_mem hm
      exact ⟨i, Nat.zero_le _, List.getElem?_eq_getElem hi⟩
    · exact .inl h2
  · exact .inr (.inl h1)
  · simp at h1

theorem WInv.done {edges : List EdgeD} {out q : List Int} {L : List EdgeD} (h : WInv edges out q L L.length) : WInv edges out q [] 0 :=
  ⟨h.1, fun e he hd => (h.2 e he hd).imp id (Or.imp id fun ⟨i, hi, hl⟩ => absurd (get_lt hl) (by omega))⟩

theorem WInv.closed {edges : List EdgeD} {out : List Int} (h : WInv edges out [] [] 0) : Closed edges out := fun e he d hd hne => by
  rcases h.2 e he ⟨d, hd, hne⟩ with h1 | h1 | ⟨i, _, h1⟩
  · simp at h1
  · exact h1 d hd hne
  · simp at h1

theorem WInv.skip {edges : List EdgeD} {out q : List Int} {L : List EdgeD} {j : Nat} (h : WInv edges out q L j) {e : EdgeD} (he : L[j]? = some e) (hf : Fine out e) : WInv edges out q L (j + 1) :=
  ⟨h.1, fun e' he' hd => by
    rcases h.2 e' he' hd with h1 | h1 | ⟨i, hi, h1⟩
    · exact .inl h1
    · exact .inr (.inl h1)
    · by_cases hij : i = j
      · subst hij; rw [he] at h1; cases h1; exact .inr (.inl hf)
      · exact .inr (.inr ⟨i, by omega, h1⟩)⟩

theorem WInv.push {edges : List EdgeD} {n : Nat} {out q : List Int} {L : List EdgeD} {j : Nat} (h : WInv edges out q L j) {e : EdgeD} (he : L[j]? = some e) (hok : EdgeOk n e) (hoks : ∀ e ∈ edges, EdgeOk n e) {d s : Int} (hd : out[e.dst.toNat]? = some d)
    (hs : out[e.src.toNat]? = some s) (hlt : s = -2 ∨ max d 0 + e.deref < s) : WInv edges (out.set e.src.toNat (max d 0 + e.deref)) (q ++ [e.src]) L (j + 1) := by
  obtain ⟨o1, o2, o3, o4, o5, o6⟩ := hok
  have hsl := get_lt hs
  have hself : (out.set e.src.toNat (max d 0 + e.deref))[e.src.toNat]? = some (max d 0 + e.deref) := List.getElem?_set_self hsl
  have hother : ∀ i : Nat, i ≠ e.src.toNat → (out.set e.src.toNat (max d 0 + e.deref))[i]? = out[i]? := fun i hi => List.getElem?_set_ne (fun h => hi h.symm)
  refine ⟨fun x hx => ?_, fun e' he' hd' => ?_⟩
  · rcases List.mem_append.1 hx with hx | hx
    · obtain ⟨h1, v, h2, h3⟩ := h.1 x hx
      refine ⟨h1, ?_⟩
      by_cases hxe : x.toNat = e.src.toNat
      · exact ⟨_, by rw [hxe]; exact hself, by omega⟩
      · exact ⟨v, by rw [hother _ hxe]; exact h2, h3⟩
    · simp at hx; subst hx
      exact ⟨o1, _, hself, by omega⟩
  · have hk' := hoks e' he'
    by_cases hdd : e'.dst = e.src
    · exact .inl (by rw [hdd]; simp)
    · have hdn : e'.dst.toNat ≠ e.src.toNat := by have := hk'.2.2.1; omega
      obtain ⟨v, hv1, hv2⟩ := hd'
      rw [hother _ hdn] at hv1
      have fine_keep : ∀ s' : Int, out[e'.src.toNat]? = some s' → s' ≠ -2 → s' ≤ max v 0 + e'.deref → Fine (out.set e.src.toNat (max d 0 + e.deref)) e' := fun s' hs' hn hle u hu _ => by
        rw [hother _ hdn, hv1] at hu; cases hu
        by_cases hss : e'.src.toNat = e.src.toNat
        · rw [hss] at hs' ⊢
          rw [hs] at hs'; cases hs'
          exact ⟨_, hself, by omega, by rcases hlt with h9 | h9; exact absurd h9 hn; omega⟩
        · exact ⟨s', by rw [hother _ hss]; exact hs', hn, hle⟩
      rcases h.2 e' he' ⟨v, hv1, hv2⟩ with h1 | h1 | ⟨i, hi, h1⟩
      · exact .inl (List.mem_append_left _ h1)
      · obtain ⟨s', q1, q2, q3⟩ := h1 v hv1 hv2
        exact .inr (.inl (fine_keep s' q1 q2 q3))
      · by_cases hij : i = j
        · subst hij; rw [he] at h1; cases h1
          refine .inr (.inl fun u hu _ => ?_)
          rw [hother _ hdn, hd] at hu; cases hu
          exact ⟨_, hself, by omega, by omega⟩
        · exact .inr (.inr ⟨i, by omega, h1⟩)

theorem WInv.start {edges : List EdgeD} {n to : Nat} (h : to < n) (hoks : ∀ e ∈ edges, EdgeOk n e) : WInv edges (Start n to) [(to : Int)] [] 0 := by
  refine ⟨fun x hx => by simp at hx; subst hx; exact ⟨by omega, 0, by simpa using start_to h, by omega⟩, fun e he hd => ?_⟩
  obtain ⟨d, hd, hne⟩ := hd
  rcases start_get hd with ⟨h1, _⟩ | ⟨_, h1⟩
  · have := (hoks e he).2.2.1
    exact .inl (by simp; omega)
  · exact absurd h1 hne

end Go.Proofs.Ytadekfjgdbngdaa
