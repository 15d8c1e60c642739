/- The steps down by the edges in order, plainly; slices.Backward, walked. -/
import Derived.Test.YtadekfjgdbngdaaRefWay
import Derived.Test.YtadekfjgdbngdaaMadeY
import Derived.RangeFuncNested
import Derived.RangeFuncBound
import Derived.RangeFuncCalls
import Derived.RangeFuncLeaves
import Derived.RangeFuncBox
import Derived.Shelf.Abstract
import Derived.Shelf.RegionOpen
import Derived.OwnWalkIn
import Derived.TacticsInMore
import Derived.LoopNIn
import Derived.LoopIn
namespace Go.Proofs.Ytadekfjgdbngdaa
open Go Go.RowKit Go.Shelf
attribute [local go_sem] Oper.semAt_some

def Room (rest : List Int) (m : Int) (e : EdgeD) : Prop := ∃ y, rest[e.dst.toNat]? = some y ∧ y ≠ -2 ∧ max y 0 + e.deref ≤ m

/-- the rounds that have come, the last one first; what is told; what it may be at most -/
inductive RunR (F : Nat → List EdgeD) (LK : Nat → List Int) (t : Int) : List Nat → List Int → Int → Prop
  | nil : RunR F LK t [] [t] (-1)
  | hit {xs : List Nat} {out : List Int} {m c : Int} {q x : Nat} {e : EdgeD} (h : RunR F LK t xs out m) (hc : ∃ pre, out = pre ++ [c]) (he : (F c.toNat)[q]? = some e) (hf : Room (LK x) m e)
      (hn : ∀ (i : Nat) y, i < q → (F c.toNat)[i]? = some y → ¬ Room (LK x) m y) : RunR F LK t (x :: xs) (out ++ [e.dst]) (m - e.deref)
  | miss {xs : List Nat} {out : List Int} {m c : Int} {x : Nat} (h : RunR F LK t xs out m) (hc : ∃ pre, out = pre ++ [c]) (hn : ∀ (i : Nat) y, (F c.toNat)[i]? = some y → ¬ Room (LK x) m y) : RunR F LK t (x :: xs) out m

theorem RunR.facts {w : World} {gx n : Nat} {edges : List EdgeD} {F : Nat → List EdgeD} (hY : MadeY w gx n edges F) (hok : ∀ e ∈ edges, EdgeOk n e) {LK : Nat → List Int} {t : Int} (ht : 0 ≤ t ∧ t < n) {xs : List Nat} {out : List Int} {m : Int} (h : RunR F LK t xs out m) :
    (∀ x ∈ out, 0 ≤ x ∧ x < n) ∧ 1 ≤ out.length ∧ out.length ≤ xs.length + 1 ∧ -1 - 1048576 * (xs.length : Int) ≤ m ∧ m ≤ xs.length := by
  induction h with
  | nil => exact ⟨fun x hx => by simp at hx; subst hx; exact ht, by simp, by simp, by simp, by simp⟩
  | @hit xs out m c q x e h hc he hf hn ih =>
    obtain ⟨h1, h2, h3, h4, h5⟩ := ih
    obtain ⟨pre, rfl⟩ := hc
    have hcn := h1 c (by simp)
    have hm := ((hY.mem c.toNat (by omega) e).1 (List.mem_of_getElem? he)).1
    obtain ⟨o1, o2, o3, o4, o5, o6⟩ := hok e hm
    refine ⟨fun y hy => ?_, by simp, by simp at h3 ⊢; omega, by simp; omega, by simp; omega⟩
    rw [List.mem_append, List.mem_singleton] at hy
    rcases hy with hy | rfl
    · exact h1 y hy
    · exact ⟨o3, o4⟩
  | miss h hc hn ih =>
    obtain ⟨h1, h2, h3, h4, h5⟩ := ih
    exact ⟨h1, h2, by simp; omega, by simp; omega, by simp; omega⟩

/-- the rounds from the last one down -/
def asc (N : Nat) : Nat → List Nat
  | 0 => []
  | i + 1 => (N - 1 - i) :: asc N i

theorem RunR.desc {w : World} {gx n D N : Nat} {edges : List EdgeD} {F : Nat → List EdgeD} (hY : MadeY w gx n edges F) (hok : ∀ e ∈ edges, EdgeOk n e) {LK : Nat → List Int} {l0 : List Int} {t : Nat} (ht : t < n) (hp : WPlan edges n D l0 t LK N) :
    ∀ (i : Nat) {out : List Int} {m : Int}, i ≤ N → RunR F LK t (asc N i) out m → ∃ c, Desc edges l0 N t (N - i) c m out := by
  intro i
  induction i with
  | zero => intro out m _ h; cases h; exact ⟨t, Desc.start⟩
  | succ i ih =>
    intro out m hi h
    have hlast : ∀ a, Looks edges l0 N a → a[((t : Nat) : Int).toNat]? = some (-1) := fun a ha => by obtain rfl := ha.unique (hp.looks N); exact hp.last
    have ej : N - i = (N - 1 - i) + 1 := by omega
    cases h with
    | hit h hc he hf hn =>
      obtain ⟨c0, hd⟩ := ih (by omega) h
      obtain ⟨pre, rfl⟩ := hc
      rename_i m0 c q e
      obtain ⟨pre2, hp2⟩ := hd.last
      obtain rfl : c = c0 := by have := congrArg List.getLast? hp2; simpa using this
      obtain ⟨hc1, hc2, _⟩ := hd.room (n := n) hlast (by omega) (by omega) hok
      have hm := (hY.mem c.toNat (by omega) e).1 (List.mem_of_getElem? he)
      rw [ej] at hd
      have hstep : IsStep edges (LK (N - 1 - i)) c m0 e.dst (m0 - e.deref) := by
        refine ⟨e, hm.1, by omega, hf, rfl, rfl, fun f hf' hfs hfr => ?_⟩
        obtain ⟨k, hk⟩ := List.getElem?_of_mem ((hY.mem c.toNat (by omega) f).2 ⟨hf', by omega⟩)
        rcases Nat.lt_trichotomy k q with h | rfl | h
        · exact absurd hfr (hn k f h hk)
        · rw [hk] at he; cases he; exact .inr ⟨rfl, Int.le_refl _⟩
        · exact hY.sorted c.toNat (by omega) q k e f h he hk
      have hd2 := hd.step (hp.looks _) hstep
      rw [show N - (i + 1) = N - 1 - i from by omega]
      exact ⟨_, hd2⟩
    | miss h hc hn =>
      exfalso
      obtain ⟨c0, hd⟩ := ih (by omega) h
      obtain ⟨pre, rfl⟩ := hc
      rename_i c
      obtain ⟨pre2, hp2⟩ := hd.last
      obtain rfl : c = c0 := by have := congrArg List.getLast? hp2; simpa using this
      obtain ⟨hc1, hc2, _⟩ := hd.room (n := n) hlast (by omega) (by omega) hok
      rw [ej] at hd
      obtain ⟨e, he1, he2, he3⟩ := hd.more (n := n) hlast (by omega) (by omega) hok (hp.looks (N - 1 - i)) (hp.looks (N - 1 - i + 1))
      obtain ⟨k, hk⟩ := List.getElem?_of_mem ((hY.mem c.toNat (by omega) e).2 ⟨he1, by omega⟩)
      exact hn k e hk he3

theorem back_any (a : Option Addr) (n c : Nat) (w : World) : Calls Try.prog 22 #[.slice a n c] w fun e w' => e = .returned (.func (.func 42) #[] #[.pointer (some ⟨w.heap.size, 0, none⟩)]) ∧ w' = w.alloc (.cells #[.slice a n c] 56) := by
  go_enter Try.func22, Try.ntmps22
  go_wp2
  go_ret
  exact ⟨rfl, rfl⟩

/-- what a round keeps: all below s, and the box b -/
def KpS (s b : Nat) (A B : World) : Prop := Below s A B ∧ B.heap[b]? = A.heap[b]?
theorem KpS.trans {s b : Nat} {A B C : World} (h : KpS s b A B) (k : KpS s b B C) : KpS s b A C := ⟨h.1.trans k.1, k.2.trans h.2⟩
theorem KpS.refl (s b : Nat) (A : World) : KpS s b A A := ⟨Below.refl _ _, rfl⟩

set_option maxRecDepth 100000 in
set_option maxHeartbeats 2000000 in
theorem back_stops (F : Fence) (n : Nat) (hF : F.fn 42) (hro : F.round = none) (hn : 1 ≤ n) (Bs s N cA bA oA : Nat) (SL : Nat → Value) (hN0 : 0 < N) (hN : N ≤ 1099511627776) (w : World) (hBs : Bs < w.heap.size) (hbA : bA < s) (hs : s ≤ w.heap.size)
    (hc : w.cell? ⟨Bs, 0, none⟩ = some (.slice (some ⟨bA, oA, none⟩) N cA)) (hI : ∀ j, j < N → w.cell? ⟨bA, oA + j, none⟩ = some (SL j)) :
    SeqStopsK F n Try.prog 42 #[.pointer (some ⟨Bs, 0, none⟩)] (fun x : { j : Nat // j < N } => #[Value.int .i64 (x.1 : Int), SL x.1]) (KpS s Bs) (fun ys => (ys.map (·.1)).reverse = asc N N) (fun _ => True) N w := fun l J Jx W hW _ _ hY h0 => by
  have hcW := (hW.cell (p := ⟨Bs, 0, none⟩) hBs).trans hc
  have hIW : ∀ j, j < N → W.cell? ⟨bA, oA + j, none⟩ = some (SL j) := fun j hj => (hW.cell (p := ⟨bA, oA + j, none⟩) (by show bA < _; omega)).trans (hI j hj)
  clear hc hI
  refine callsIn_of_wp Try.func42 rfl hF ?_ hro
  simp only [Try.ntmps42, List.size_toArray, List.length_cons, List.length_nil, Nat.reduceAdd, Nat.reduceSub, Array.replicate_succ, Array.replicate_zero, List.push_toArray, List.append_toArray, List.nil_append, List.cons_append]
  gi_wp2
  gi_loopw [3] (fun i wr => ∃ (k j : Nat) (pre : List { j : Nat // j < N }), k + j = N ∧ i = .int .i64 ((j : Int) - 1) ∧ (pre.map (·.1)).reverse = asc N k ∧ pre.length = k ∧ J pre wr ∧ KpS s Bs W wr) (fun i _ => (intOf i + 1).toNat)
  case atStart => exact ⟨0, N, [], by omega, by simp, rfl, rfl, h0, KpS.refl _ _ _⟩
  case round =>
    obtain ⟨k, j, pre, hkj, rfl, hpre, hlen, hJs, hk⟩ := hrel
    rcases Nat.eq_zero_or_pos j with hj | hj
    · subst hj
      gi_wp2
      go_end0
      obtain rfl : k = N := by omega
      exact ⟨⟨_, rfl⟩, .inl ⟨pre, hpre, hJs⟩⟩
    · obtain ⟨j, rfl⟩ : ∃ i, j = i + 1 := ⟨j - 1, by omega⟩
      have ej : ((j + 1 : Nat) : Int) - 1 = (j : Int) := by omega
      rw [ej]
      have hjN : j < N := by omega
      have hcr : wr.cell? ⟨Bs, 0, none⟩ = some (.slice (some ⟨bA, oA, none⟩) N cA) := (World.cell?_of_block (w := W) hk.2).trans hcW
      have hir : wr.cell? ⟨bA, oA + j, none⟩ = some (SL j) := (hk.1.cell (p := ⟨bA, oA + j, none⟩) hbA).trans (hIW j hjN)
      obtain ⟨fn, tmps, assign, body, hy, hR⟩ := hY pre ⟨j, hjN⟩ wr hJs (by omega)
      dsimp only at hy
      gi_wp2
      refine hR.mono ?_
      rintro e W3 (⟨rfl, hJ3, hk3⟩ | ⟨rfl, hJx3⟩)
      · gi_wp2
        go_roundw
        case rel => exact ⟨k + 1, j, pre ++ [⟨j, hjN⟩], by omega, rfl, by rw [List.map_append, List.reverse_append, hpre]; simp [asc]; omega, by simp [hlen], hJ3, hk.trans hk3⟩
        case measure => first | (simp [intOf]; done) | (simp [intOf]; omega)
      · gi_wp2
        refine bodyPost_ret (results_none rfl _ _ _) rfl ?_
        exact ⟨⟨_, rfl⟩, .inr ⟨_, trivial, hJx3⟩⟩
end Go.Proofs.Ytadekfjgdbngdaa
