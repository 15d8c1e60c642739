/- The live question's graph, plainly. -/
import Derived.Test.YtadekfjgdbngdaaRefWay
import Derived.Test.YtadekfjgdbngdaaTextW
namespace Go.Proofs.Ytadekfjgdbngdaa
open Go

def bE0 : EdgeD := ⟨2, 3, -1⟩
def bE1 : EdgeD := ⟨2, 4, -1⟩
def bE2 : EdgeD := ⟨4, 0, 0⟩
def bE3 : EdgeD := ⟨3, 0, 0⟩
def bEdges : List EdgeD := [bE0, bE1, bE2, bE3]
def bC : Nat → List Int
  | 0 => [0, -2, -1, 0, 0]
  | 1 => [-2, 0, -2, -2, -2]
  | 2 => [-2, -2, 0, -2, -2]
  | 3 => [-2, -2, -1, 0, -2]
  | _ => [-2, -2, -1, -2, 0]
def bBs : List Bool := [false, false, true, false, false]

theorem bFit : Fit bLocs bEdges 0 := by
  refine ⟨?_, by decide, by decide, by decide, by decide⟩
  intro e he; simp [bEdges] at he; rcases he with rfl | rfl | rfl | rfl <;> decide

theorem bRight : RightG bLocs bEdges 0 where
  two := by decide
  most := by decide
  heap := by intro l hl; simp [bLocs] at hl; subst hl; simp [bL0, ByteArray.toList, heapL, ByteArray.toList.loop, ByteArray.size, ByteArray.get!]
  result := by intro l hl; simp [bLocs] at hl; subst hl; simp [bL1, ByteArray.toList, resultL, ByteArray.toList.loop, ByteArray.size, ByteArray.get!]
  p0 := by decide
  pn := by decide
  loops := by
    intro i l hl
    have : l ∈ bLocs := List.mem_of_getElem? hl
    simp [bLocs] at this; rcases this with rfl | rfl | rfl | rfl | rfl <;> decide
  edges := by
    intro i e he
    have : e ∈ bEdges := List.mem_of_getElem? he
    simp [bEdges] at this; rcases this with rfl | rfl | rfl | rfl <;> (constructor <;> decide)

theorem bOk : ∀ e ∈ bEdges, EdgeOk 5 e := by
  intro e he; simp [bEdges] at he; rcases he with rfl | rfl | rfl | rfl <;> (constructor <;> decide)

theorem bClosed (r : Nat) (hr : r < 5) : Closed bEdges (bC r) := by
  intro e he d hd hd2
  simp [bEdges] at he
  have : r = 0 ∨ r = 1 ∨ r = 2 ∨ r = 3 ∨ r = 4 := by omega
  rcases this with rfl | rfl | rfl | rfl | rfl <;> rcases he with rfl | rfl | rfl | rfl <;> simp [bC, bE0, bE1, bE2, bE3] at hd ⊢ <;> omega

theorem bCome : ComeAll bEdges bLocs.length bC := by
  intro r hr
  have hr : r < 5 := hr
  have hr' : r = 0 ∨ r = 1 ∨ r = 2 ∨ r = 3 ∨ r = 4 := by omega
  refine IsCome.of ?_ ?_ ?_ (bClosed r hr)
  · rcases hr' with rfl | rfl | rfl | rfl | rfl <;> rfl
  · intro i v hv hne
    have hi : i < 5 := by
      have := get_lt hv
      have e : (bC r).length = 5 := by rcases hr' with rfl | rfl | rfl | rfl | rfl <;> rfl
      omega
    have w30 : Way bEdges 0 3 0 := Way.cons (i := 0) (v := 0) bE3 (by simp [bEdges]) rfl (by decide) Way.nil
    have w40 : Way bEdges 0 4 0 := Way.cons (i := 0) (v := 0) bE2 (by simp [bEdges]) rfl (by decide) Way.nil
    have w20 : Way bEdges 0 2 (-1) := Way.cons (i := 3) (v := 0) bE0 (by simp [bEdges]) rfl (by decide) w30
    have w23 : Way bEdges 3 2 (-1) := Way.cons (i := 3) (v := 0) bE0 (by simp [bEdges]) rfl (by decide) Way.nil
    have w24 : Way bEdges 4 2 (-1) := Way.cons (i := 4) (v := 0) bE1 (by simp [bEdges]) rfl (by decide) Way.nil
    have hi' : i = 0 ∨ i = 1 ∨ i = 2 ∨ i = 3 ∨ i = 4 := by omega
    rcases hr' with rfl | rfl | rfl | rfl | rfl <;> rcases hi' with rfl | rfl | rfl | rfl | rfl <;> simp [bC] at hv <;> subst hv <;> first | exact absurd rfl hne | assumption | exact Way.nil
  · rcases hr' with rfl | rfl | rfl | rfl | rfl <;> exact ⟨0, rfl, by decide, by decide⟩

theorem bEsc : IsEsc bLocs bC bBs := by
  refine ⟨rfl, fun i => ⟨fun h => ?_, fun h => ?_⟩⟩
  · have hi : i < 5 := get_lt h
    have hi' : i = 0 ∨ i = 1 ∨ i = 2 ∨ i = 3 ∨ i = 4 := by omega
    rcases hi' with rfl | rfl | rfl | rfl | rfl <;> simp [bBs] at h
    exact .out (r := 0) (by decide) (by decide) (by decide) rfl (.inl (by decide))
  · have key : ∀ r l, r < 5 → l < 5 → (bC r)[l]? = some (-1) → l = 2 := by
      intro r l hr hl hc
      have hr' : r = 0 ∨ r = 1 ∨ r = 2 ∨ r = 3 ∨ r = 4 := by omega
      have hi' : l = 0 ∨ l = 1 ∨ l = 2 ∨ l = 3 ∨ l = 4 := by omega
      rcases hr' with rfl | rfl | rfl | rfl | rfl <;> rcases hi' with rfl | rfl | rfl | rfl | rfl <;> simp [bC] at hc ⊢
    have h2 : i = 2 := by
      cases h with
      | out h2 hl hr hc ho => exact key _ _ hr hl hc
      | via h2 hl hr hc ho => exact key _ _ hr hl hc
    subst h2; rfl

theorem bl0 : look0 (lpOf bLocs) bBs 2 bLocs.length = [0, 0, -2, -2, -2] := by decide

theorem bLong1 : Longer bEdges [0, 0, -2, -2, -2] [-2, -2, -2, 0, 0] := by
  have h0 := Longer.none [0, 0, -2, -2, -2] 5 rfl
  have h1 := h0.skip (e := bE0) rfl
  have h2 := h1.skip (e := bE1) rfl
  have h3 := h2.put (e := bE2) (d := 0) (s := -2) rfl (by decide) rfl (.inl rfl) (by decide) (by decide)
  have h4 := h3.put (e := bE3) (d := 0) (s := -2) rfl (by decide) rfl (.inl rfl) (by decide) (by decide)
  exact h4
theorem bLong2 : Longer bEdges [-2, -2, -2, 0, 0] [-2, -2, -1, -2, -2] := by
  have h0 := Longer.none [-2, -2, -2, 0, 0] 5 rfl
  have h1 := h0.put (e := bE0) (d := 0) (s := -2) rfl (by decide) rfl (.inl rfl) (by decide) (by decide)
  have h2 := h1.keep (e := bE1) (d := 0) (s := -1) rfl rfl (by decide) (by decide)
  have h3 := h2.skip (e := bE2) rfl
  have h4 := h3.skip (e := bE3) rfl
  exact h4

theorem bWay : IsWay bEdges (look0 (lpOf bLocs) bBs 2 bLocs.length) 2 [2, 3, 0] := by
  rw [bl0]
  have k1 : Looks bEdges [0, 0, -2, -2, -2] 1 [-2, -2, -2, 0, 0] := .succ .zero bLong1
  have k2 : Looks bEdges [0, 0, -2, -2, -2] 2 [-2, -2, -1, -2, -2] := .succ k1 bLong2
  refine ⟨2, by decide, ⟨_, k2, rfl⟩, fun j a h1 h2 ha => ?_, 0, 0, ?_⟩
  · obtain rfl : j = 1 := by omega
    obtain rfl := ha.unique k1
    simp
  · have s1 : IsStep bEdges [-2, -2, -2, 0, 0] 2 (-1) 3 0 := by
      refine ⟨bE0, by simp [bEdges], rfl, ⟨0, rfl, by decide, by decide⟩, rfl, rfl, fun f hf hs _ => ?_⟩
      simp [bEdges] at hf
      rcases hf with rfl | rfl | rfl | rfl <;> simp [bE0, bE1, bE2, bE3] at hs ⊢
    have s2 : IsStep bEdges [0, 0, -2, -2, -2] 3 0 0 0 := by
      refine ⟨bE3, by simp [bEdges], rfl, ⟨0, rfl, by decide, by decide⟩, rfl, rfl, fun f hf hs _ => ?_⟩
      simp [bEdges] at hf
      rcases hf with rfl | rfl | rfl | rfl <;> simp [bE0, bE1, bE2, bE3] at hs ⊢
    exact Desc.step (out := [2, 3]) (Desc.step (out := [2]) Desc.start k1 s1) .zero s2
end Go.Proofs.Ytadekfjgdbngdaa
