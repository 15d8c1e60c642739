/- The live question's four nodes, plainly. -/
import Derived.Test.YtnepamdmjppglaaOfLeaf
namespace Go.Proofs.Ytnepamdmjppglaa
open Go Go.RowKit

def nA : Nm := [97]
def nB : Nm := [98]
def nC : Nm := [99]
def nD : Nm := [100]
def nX : Nm := [120]
/-- the four nodes, wherever their calls lie -/
def four (a1 a2 a3 a4 : Option Addr) (c1 c2 c3 c4 : Nat) : List NodeD := [⟨nA, [nB, nX], a1, c1⟩, ⟨nB, [nC], a2, c2⟩, ⟨nC, [nB], a3, c3⟩, ⟨nD, [], a4, c4⟩]
section
variable {a1 a2 a3 a4 : Option Addr} {c1 c2 c3 c4 : Nat}
theorem four_names : names (four a1 a2 a3 a4 c1 c2 c3 c4) = [nA, nB, nC, nD] := rfl
theorem four_A : G (four a1 a2 a3 a4 c1 c2 c3 c4) nA = [nB] := by simp [G, callsOf, four, names]; decide
theorem four_B : G (four a1 a2 a3 a4 c1 c2 c3 c4) nB = [nC] := by
  have h1 : ¬ nA = nB := by decide
  simp [G, callsOf, four, names, List.find?, h1]
theorem four_C : G (four a1 a2 a3 a4 c1 c2 c3 c4) nC = [nB] := by
  have h1 : ¬ nA = nC := by decide
  have h2 : ¬ nB = nC := by decide
  simp [G, callsOf, four, names, List.find?, h1, h2]
theorem four_D : G (four a1 a2 a3 a4 c1 c2 c3 c4) nD = [] := by
  have h1 : ¬ nA = nD := by decide
  have h2 : ¬ nB = nD := by decide
  have h3 : ¬ nC = nD := by decide
  simp [G, callsOf, four, names, List.find?, h1, h2, h3]
theorem four_else {x : Nm} (hx : x ∉ [nA, nB, nC, nD]) : G (four a1 a2 a3 a4 c1 c2 c3 c4) x = [] := by
  unfold G; rw [callsOf_none (by rw [four_names]; exact hx)]; rfl
theorem closed_rch {g : Nm → List Nm} {p : Nm → Prop} (hp : ∀ x, p x → ∀ y ∈ g x, p y) {x y : Nm} (h : Rch g x y) (hx : p x) : p y := by
  induction h with
  | refl => exact hx
  | tail _ he ih => exact hp _ ih _ he
theorem four_bc {x y : Nm} (hx : x = nB ∨ x = nC) (h : Rch (G (four a1 a2 a3 a4 c1 c2 c3 c4)) x y) : y = nB ∨ y = nC :=
  closed_rch (p := fun y => y = nB ∨ y = nC) (fun u hu z hz => by
    rcases hu with rfl | rfl
    · rw [four_B] at hz; simp at hz; exact .inr hz
    · rw [four_C] at hz; simp at hz; exact .inl hz) h hx
theorem four_d {y : Nm} (h : Rch (G (four a1 a2 a3 a4 c1 c2 c3 c4)) nD y) : y = nD :=
  closed_rch (p := fun y => y = nD) (fun u hu z hz => by subst hu; rw [four_D] at hz; simp at hz) h rfl
theorem four_a {y : Nm} (h : Rch (G (four a1 a2 a3 a4 c1 c2 c3 c4)) nA y) : y = nA ∨ y = nB ∨ y = nC :=
  closed_rch (p := fun y => y = nA ∨ y = nB ∨ y = nC) (fun u hu z hz => by
    rcases hu with rfl | rfl | rfl
    · rw [four_A] at hz; simp at hz; exact .inr (.inl hz)
    · rw [four_B] at hz; simp at hz; exact .inr (.inr hz)
    · rw [four_C] at hz; simp at hz; exact .inr (.inl hz)) h (.inl rfl)
theorem rBC : Rch (G (four a1 a2 a3 a4 c1 c2 c3 c4)) nB nC := Rch.edge (by rw [four_B]; simp)
theorem rCB : Rch (G (four a1 a2 a3 a4 c1 c2 c3 c4)) nC nB := Rch.edge (by rw [four_C]; simp)
theorem rAB : Rch (G (four a1 a2 a3 a4 c1 c2 c3 c4)) nA nB := Rch.edge (by rw [four_A]; simp)
theorem rAC : Rch (G (four a1 a2 a3 a4 c1 c2 c3 c4)) nA nC := rAB.trans rBC

theorem grp_bc : Grp (G (four a1 a2 a3 a4 c1 c2 c3 c4)) ltN [nB, nC] := by
  refine ⟨by simp, by simp; decide, fun x hx y => ?_⟩
  have hx' : x = nB ∨ x = nC := by simpa using hx
  constructor
  · intro hy
    have hy' : y = nB ∨ y = nC := by simpa using hy
    rcases hx' with rfl | rfl <;> rcases hy' with rfl | rfl
    · exact ⟨.refl _, .refl _⟩
    · exact ⟨rBC, rCB⟩
    · exact ⟨rCB, rBC⟩
    · exact ⟨.refl _, .refl _⟩
  · rintro ⟨h, _⟩
    simpa using four_bc hx' h
theorem grp_a : Grp (G (four a1 a2 a3 a4 c1 c2 c3 c4)) ltN [nA] := by
  refine ⟨by simp, by simp, fun x hx y => ?_⟩
  have hx' : x = nA := by simpa using hx
  subst hx'
  constructor
  · intro hy; simp at hy; subst hy; exact ⟨.refl _, .refl _⟩
  · rintro ⟨h1, h2⟩
    rcases four_a h1 with rfl | h | h
    · simp
    · exact absurd (four_bc (.inl h) h2) (by decide)
    · exact absurd (four_bc (.inr h) h2) (by decide)
theorem grp_d : Grp (G (four a1 a2 a3 a4 c1 c2 c3 c4)) ltN [nD] := by
  refine ⟨by simp, by simp, fun x hx y => ?_⟩
  have hx' : x = nD := by simpa using hx
  subst hx'
  constructor
  · intro hy; simp at hy; subst hy; exact ⟨.refl _, .refl _⟩
  · rintro ⟨h1, h2⟩; simp [four_d h1]

theorem four_seqs : Seqs (G (four a1 a2 a3 a4 c1 c2 c3 c4)) ltN (names (four a1 a2 a3 a4 c1 c2 c3 c4)) [[nB, nC], [nA], [nD]] := by
  have hmemN : ∀ {x : Nm}, x ∈ names (four a1 a2 a3 a4 c1 c2 c3 c4) → x = nA ∨ x = nB ∨ x = nC ∨ x = nD := fun h => by
    rw [four_names] at h; simpa using h
  have s1 : Seqs (G (four a1 a2 a3 a4 c1 c2 c3 c4)) ltN (names (four a1 a2 a3 a4 c1 c2 c3 c4)) ([] ++ [[nB, nC]]) := by
    refine .snoc .nil ⟨⟨grp_bc, by rw [four_names]; decide, by simp, fun x hx c hc => .inl ?_⟩, fun l' x y hm hx hy hlt => ?_⟩
    · have hx' : x = nB ∨ x = nC := by simpa using hx
      rcases hx' with rfl | rfl
      · rw [four_B] at hc; simp at hc; subst hc; decide
      · rw [four_C] at hc; simp at hc; subst hc; decide
    · simp at hy; subst hy
      have hxl : x ∈ l' := List.mem_of_mem_head? hx
      rcases hmemN (hm.sub x hxl) with rfl | rfl | rfl | rfl
      · have e := hm.grp.unique nmOrd grp_a hxl (by simp)
        subst e
        have := hm.rdy nA (by simp) nB (by rw [four_A]; simp)
        revert this; simp; decide
      · revert hlt; decide
      · revert hlt; decide
      · revert hlt; decide
  have s2 : Seqs (G (four a1 a2 a3 a4 c1 c2 c3 c4)) ltN (names (four a1 a2 a3 a4 c1 c2 c3 c4)) ([[nB, nC]] ++ [[nA]]) := by
    refine .snoc s1 ⟨⟨grp_a, by rw [four_names]; decide, by decide, fun x hx c hc => .inr ?_⟩, fun l' x y hm hx hy hlt => ?_⟩
    · have hx' : x = nA := by simpa using hx
      subst hx'
      rw [four_A] at hc; simp at hc; subst hc; decide
    · simp at hy; subst hy
      have hxl : x ∈ l' := List.mem_of_mem_head? hx
      rcases hmemN (hm.sub x hxl) with rfl | rfl | rfl | rfl <;> (revert hlt; decide)
  refine .snoc s2 ⟨⟨grp_d, by rw [four_names]; decide, by decide, fun x hx c hc => ?_⟩, fun l' x y hm hx hy hlt => ?_⟩
  · have hx' : x = nD := by simpa using hx
    subst hx'
    rw [four_D] at hc; simp at hc
  · simp at hy; subst hy
    have hxl : x ∈ l' := List.mem_of_mem_head? hx
    have hnew := hm.new x hxl
    rcases hmemN (hm.sub x hxl) with rfl | rfl | rfl | rfl
    · revert hnew; decide
    · revert hnew; decide
    · revert hnew; decide
    · revert hlt; decide
theorem four_groups {gs : List (List Nm)} (h : Seqs (G (four a1 a2 a3 a4 c1 c2 c3 c4)) ltN (names (four a1 a2 a3 a4 c1 c2 c3 c4)) gs) (ha : ∀ x ∈ names (four a1 a2 a3 a4 c1 c2 c3 c4), x ∈ gs.flatten) : gs = [[nB, nC], [nA], [nD]] :=
  Seqs.whole nmOrd h four_seqs ha (by rw [four_names]; decide)
theorem four_users {us : List Nm} (hr : us.Pairwise ltN) (hm : ∀ x, x ∈ us ↔ x ∈ names (four a1 a2 a3 a4 c1 c2 c3 c4) ∧ ∃ n ∈ [nC], Rch (G (four a1 a2 a3 a4 c1 c2 c3 c4)) x n) : us = [nA, nB, nC] := by
  refine rising_unique nmOrd hr (by simp; decide) fun x => ?_
  rw [hm x, four_names]
  constructor
  · rintro ⟨h1, n, h2, h3⟩
    simp at h2; subst h2
    have h1' : x = nA ∨ x = nB ∨ x = nC ∨ x = nD := by simpa using h1
    rcases h1' with rfl | rfl | rfl | rfl
    · decide
    · decide
    · decide
    · have := four_d h3; revert this; decide
  · intro h1
    have h1' : x = nA ∨ x = nB ∨ x = nC := by simpa using h1
    rcases h1' with rfl | rfl | rfl
    · exact ⟨by decide, nC, by simp, rAC⟩
    · exact ⟨by decide, nC, by simp, rBC⟩
    · exact ⟨by decide, nC, by simp, .refl _⟩
theorem four_roundC : ∃ y ∈ G (four a1 a2 a3 a4 c1 c2 c3 c4) nC, Rch (G (four a1 a2 a3 a4 c1 c2 c3 c4)) y nC := ⟨nB, by rw [four_C]; simp, rBC⟩
theorem four_roundA : ¬ ∃ y ∈ G (four a1 a2 a3 a4 c1 c2 c3 c4) nA, Rch (G (four a1 a2 a3 a4 c1 c2 c3 c4)) y nA := by
  rintro ⟨y, hy, h⟩
  rw [four_A] at hy; simp at hy; subst hy
  have := four_bc (.inl rfl) h; revert this; decide
end
end Go.Proofs.Ytnepamdmjppglaa
