/- What the program's steps down hold between two rounds. -/
import Derived.Test.YtadekfjgdbngdaaRun
namespace Go.Proofs.Ytadekfjgdbngdaa
open Go Go.RowKit

structure RSt (W : World) (s : Nat) (F : Nat → List EdgeD) (LK : Nat → List Int) (t : Int) (xs : List Nat) (out : List Int) (m : Int) (a : Option Addr) (cap : Nat) : Prop where
  run : RunR F LK t xs out m
  b13 : Blk W (s + 1) #[.slice a out.length cap] 28
  b14 : Blk W (s + 1 + 1) #[.int .i64 m] 3
  own : Own W s 3 1 a out.length cap (out.map (Value.int .i64))
  ap : ∀ g, blockOf a = some g → g ≠ s + 1 ∧ g ≠ s + 1 + 1 ∧ g ≠ s + 1 + 1 + 1

theorem blk_abide {W W' : World} {g : Nat} {cur : Array Value} {e : TypeId} {row : Option Nat} (h : Blk W g cur e) (hg : W.grownBy W' row) (hr : ∀ r, row = some r → ∃ o : Obj, W.heap[r]? = some o ∧ o.isCells = false) : Blk W' g cur e :=
  h.grown hg (fun e' => by obtain ⟨o, ho, hc⟩ := hr g e'.symm; rw [show W.heap[g]? = _ from h] at ho; cases ho; cases hc)
theorem own_abide {W W' : World} {base : Nat} {e : TypeId} {sz : Nat} {a : Option Addr} {n cap : Nat} {xs : List Value} {row : Option Nat} (h : Own W base e sz a n cap xs) (hg : W.grownBy W' row) (hr : ∀ r, row = some r → ∃ o : Obj, W.heap[r]? = some o ∧ o.isCells = false) : Own W' base e sz a n cap xs := by
  refine ⟨h.1, ?_⟩
  rcases h.2 with h1 | ⟨g, off, cur, rfl, h2, h3, r⟩
  · exact .inl h1
  · exact .inr ⟨g, off, cur, rfl, h2, blk_abide h3 hg hr, r⟩
theorem RSt.abide {W W' : World} {s : Nat} {F : Nat → List EdgeD} {LK : Nat → List Int} {t : Int} {xs : List Nat} {out : List Int} {m : Int} {a : Option Addr} {cap : Nat} {row : Option Nat} (h : RSt W s F LK t xs out m a cap) (hg : W.grownBy W' row) (hr : ∀ r, row = some r → ∃ o : Obj, W.heap[r]? = some o ∧ o.isCells = false) : RSt W' s F LK t xs out m a cap :=
  ⟨h.run, blk_abide h.b13 hg hr, blk_abide h.b14 hg hr, own_abide h.own hg hr, h.ap⟩
theorem RSt.ext {W W' : World} {s : Nat} {F : Nat → List EdgeD} {LK : Nat → List Int} {t : Int} {xs : List Nat} {out : List Int} {m : Int} {a : Option Addr} {cap : Nat} (h : RSt W s F LK t xs out m a cap) (hb : Below W.heap.size W W') : RSt W' s F LK t xs out m a cap :=
  ⟨h.run, h.b13.ext hb, h.b14.ext hb, h.own.ext hb, h.ap⟩

theorem kpS_b {s b : Nat} {w : World} (hs : s ≤ w.heap.size) (hb : b < w.heap.size) (W : World) (l : Nat) (o o' : Obj) (hl : w.heap.size ≤ l) (h : W.heap[l]? = some o) (h1 : o.isCells = false) (h2 : o.isWalk = false) : KpS s b W (W.putObj l o') :=
  ⟨belowK_b hs W l o o' hl h h1 h2, (grownBy_putObj' W l o').block b (by have := (Array.getElem?_eq_some_iff.1 h).1; omega) (fun e => by cases e; omega)⟩
theorem kpS_ext {s b : Nat} {W W' : World} (h : Below W.heap.size W W') (hs : s ≤ W.heap.size) (hb : b < W.heap.size) : KpS s b W W' := ⟨h.mono hs, h.block b hb⟩
theorem keeps_ext {B : Nat} {W W' : World} (h : Below W.heap.size W W') : KeepsFrom B W W' := ⟨h.size, fun k o _ hk _ => (h.block k (Array.getElem?_eq_some_iff.1 hk).1).trans hk⟩

section
variable {P : Program} {F : Fence} {n : Nat}
theorem wpListIn_append_Own {w : World} {ops : Array Oper} {rest : List Oper} {o : Oper} {act : Act} {Q : Exit → Act → World → Prop} (hgd : o.guard = none) (s x : Operand) (t : TypeId)
    (ho : o.op = .call { callee := .builtin .append, args := #[s, x], argTypes := #[t, t] })
    (base : Nat) (e : TypeId) (z : Value) (sz bytes : Nat) (ht : P.underlying t = some (.slice e)) (hinfo : (P.info? e).map (fun i => (i.zero, i.size, i.bytes)) = some (some z, sz, bytes)) (hzs : z.cells.size = sz) (hsz : 0 < sz)
    (a : Option Addr) (k cap : Nat) (xs : List Value) (hs : act.eval s = .slice a k cap) (hown : Own w base e sz a k cap xs)
    (ad : Option Addr) (m c : Nat) (news : List Value) (hx : act.eval x = .slice ad m c) (hrow : Row w sz ad m news) (h1 : ∀ u ∈ news, u.oneCell' = true)
    (h63 : k + m ≤ maxLen) (hbytes : (k + m) * bytes ≤ 140737488355328) (hbase : base ≤ w.heap.size)
    (h : ∀ a' cap' w', Own w' base e sz a' (k + m) cap' (xs ++ news) → w.grownBy w' (rowOf a cap) → (rowOf a' cap' = rowOf a cap ∨ rowOf a' cap' = some w.heap.size) → wpListIn F n P ops Q rest (act.put o.dst (.slice a' (k + m) cap')) w') : wpListIn F n P ops Q (o :: rest) act w := by
  obtain ⟨i, hi, hz, hsize, hby⟩ := info_parts hinfo
  obtain ⟨a', cap', w', hr, h2, h3, h4⟩ := run_append_Own (P := P) w base t o.type e i z sz bytes ht hi hz hsize hby hzs hsz a k cap xs hown ad m c news hrow h1 h63 hbytes hbase
  refine wpListIn_plain hgd fun K hK' => ?_
  unfold Oper.wpIn
  refine ⟨?_, ?_⟩
  · simp [Oper.about, ho, resolve, Target.leads, Sem.run_pure]
  · rw [Oper.semAt_plain F _ _ (by rw [ho]; intro c hc'; cases hc')]
    simp [execOp, ho, resolve, invoke, builtin, hs, hx, hr, Result.andThen]
    exact hK' _ _ (h a' cap' w' h2 h3 h4)
end

/-- behind an append to what is told, and the two stores -/
theorem RSt.hit {W wr w6 : World} {s : Nat} {F : Nat → List EdgeD} {LK : Nat → List Int} {t : Int} {xs : List Nat} {out : List Int} {m : Int} {a : Option Addr} {cap : Nat} (h : RSt W s F LK t xs out m a cap) (hsz : s + 1 + 1 + 1 < W.heap.size) (hb : Below W.heap.size W wr) {o : Obj}
    {c : Int} {q x : Nat} {e : EdgeD} (hc : ∃ pre, out = pre ++ [c]) (he : (F c.toNat)[q]? = some e) (hf : Room (LK x) m e) (hn : ∀ (i : Nat) y, i < q → (F c.toNat)[i]? = some y → ¬ Room (LK x) m y)
    {a' : Option Addr} {cap' : Nat} (hown : Own w6 s 3 1 a' (out.length + 1) cap' (out.map (Value.int .i64) ++ [.int .i64 e.dst])) (hg : (wr.alloc o).grownBy w6 (rowOf a cap)) (hbk : rowOf a' cap' = rowOf a cap ∨ rowOf a' cap' = some (wr.alloc o).heap.size) :
    RSt ((w6.setCell ⟨s + 1, 0, none⟩ (.slice a' (out.length + 1) cap')).setCell ⟨s + 1 + 1, 0, none⟩ (.int .i64 (m - e.deref))) s F LK t (x :: xs) (out ++ [e.dst]) (m - e.deref) a' cap' ∧
      KpS s (s + 1 + 1 + 1) W ((w6.setCell ⟨s + 1, 0, none⟩ (.slice a' (out.length + 1) cap')).setCell ⟨s + 1 + 1, 0, none⟩ (.int .i64 (m - e.deref))) ∧
      ∀ B, KeepsFrom B W ((w6.setCell ⟨s + 1, 0, none⟩ (.slice a' (out.length + 1) cap')).setCell ⟨s + 1 + 1, 0, none⟩ (.int .i64 (m - e.deref))) := by
  have hle := hown.le
  have hwsz := hb.size
  have ho := h.own.ext hb
  have hoa := ho.alloc o
  have hrow : ∀ g, rowOf a cap = some g → g ≠ s + 1 ∧ g ≠ s + 1 + 1 ∧ g ≠ s + 1 + 1 + 1 ∧ s ≤ g := fun g hg' => by
    unfold rowOf at hg'
    split at hg'
    · cases hg'
    · obtain ⟨h1, h2, h3⟩ := h.ap g hg'
      exact ⟨h1, h2, h3, h.own.base hg'⟩
  have hap : ∀ g, blockOf a' = some g → g ≠ s + 1 ∧ g ≠ s + 1 + 1 ∧ g ≠ s + 1 + 1 + 1 := fun g hg' => by
    have hr' : rowOf a' cap' = some g := by unfold rowOf; rw [if_neg (by omega)]; exact hg'
    rcases hbk with q1 | q1
    · rw [hr'] at q1
      obtain ⟨h1, h2, h3, _⟩ := hrow g q1.symm
      exact ⟨h1, h2, h3⟩
    · rw [hr'] at q1; simp at q1; omega
  have b13 := ((h.b13.ext hb).alloc o).grown hg (fun e' => (hrow _ e'.symm).1 rfl)
  have b14 := ((h.b14.ext hb).alloc o).grown hg (fun e' => (hrow _ e'.symm).2.1 rfl)
  have hbelow : Below s W w6 := ((hb.mono (by omega)).alloc (by omega) o).grown hg (by simp; omega) (fun k hk => (hrow k hk).2.2.2)
  have hcells : ∀ (j : Nat) (o' : Obj), rowOf a cap = some j → (wr.alloc o).heap[j]? = some o' → o'.isCells = true := fun j o' hj ho' => by
    rcases hoa.2 with ⟨_, h2, _⟩ | ⟨g, off, cur, rfl, h2, h3, _⟩
    · unfold rowOf at hj; rw [if_pos h2] at hj; cases hj
    · unfold rowOf at hj
      split at hj
      · cases hj
      · simp [blockOf] at hj; subst hj; rw [h3] at ho'; cases ho'; rfl
  refine ⟨⟨.hit h.run hc he hf hn, ?_, ?_, ?_, hap⟩, ⟨?_, ?_⟩, fun B => ?_⟩
  · rw [List.length_append, List.length_singleton]
    have := (b13.set 0 (.slice a' (out.length + 1) cap')).other (p := ⟨s + 1 + 1, 0, none⟩) (by show s + 1 ≠ s + 1 + 1; omega) (.int .i64 (m - e.deref))
    simpa using this
  · have := ((b14.other (p := ⟨s + 1, 0, none⟩) (by show s + 1 + 1 ≠ s + 1; omega) (.slice a' (out.length + 1) cap'))).set 0 (.int .i64 (m - e.deref))
    simpa using this
  · rw [List.length_append, List.length_singleton, List.map_append]
    exact (hown.setCell_other (p := ⟨s + 1, 0, none⟩) (fun e' => (hap _ e').1 rfl) _).setCell_other (p := ⟨s + 1 + 1, 0, none⟩) (fun e' => (hap _ e').2.1 rfl) _
  · exact (hbelow.setCell (p := ⟨s + 1, 0, none⟩) (by show s ≤ s + 1; omega) _).setCell (p := ⟨s + 1 + 1, 0, none⟩) (by show s ≤ s + 1 + 1; omega) _
  · have e1 : w6.heap[s + 1 + 1 + 1]? = W.heap[s + 1 + 1 + 1]? := by
      rw [hg.block (s + 1 + 1 + 1) (by simp; omega) (fun e' => (hrow _ e'.symm).2.2.1 rfl), Below.heap_alloc wr o _ (by omega), hb.block _ (by omega)]
    rw [Below.heap_setCell _ _ _ _ (by show s + 1 + 1 + 1 ≠ s + 1 + 1; omega), Below.heap_setCell _ _ _ _ (by show s + 1 + 1 + 1 ≠ s + 1; omega)]
    exact e1
  · exact (keeps_ext hb).trans (((((KeepsOthers.alloc wr o).trans (KeepsOthers.of_grownBy hg hcells)).trans (KeepsOthers.setCell _ _ _)).trans (KeepsOthers.setCell _ _ _)).from B)
end Go.Proofs.Ytadekfjgdbngdaa
