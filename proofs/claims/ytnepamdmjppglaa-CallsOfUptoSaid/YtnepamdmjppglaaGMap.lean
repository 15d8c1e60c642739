/- A map of rows of names that a call has made: what it holds behind an append and a store. -/
import Derived.Test.YtnepamdmjppglaaMapW
namespace Go.Proofs.Ytnepamdmjppglaa
open Go Go.RowKit

/-- what the map holds: at x the row of those behind x; no two rows lie in one block -/
structure GRows (w : World) (B gb : Nat) (ks : List Nm) (E : List (Nm × Nm)) (sl : Nm → Option Addr × Nat) : Prop where
  map : SM w gb ks (fun x => .slice (sl x).1 (outs E x).length (sl x).2) (.slice none 0 0)
  own : ∀ x, Own w B 9 1 (sl x).1 (outs E x).length (sl x).2 ((outs E x).map strV)
  apart : ∀ x y, x ≠ y → 0 < (sl x).2 → 0 < (sl y).2 → blockOf (sl x).1 ≠ blockOf (sl y).1
  lt : gb < B
  size : B ≤ w.heap.size
  keys : ∀ p ∈ E, p.1 ∈ ks ∧ p.2 ∈ ks

theorem GRows.ext {w w' : World} {B gb : Nat} {ks : List Nm} {E : List (Nm × Nm)} {sl : Nm → Option Addr × Nat} (h : GRows w B gb ks E sl) (hb : Below w.heap.size w w') : GRows w' B gb ks E sl :=
  ⟨h.map.ext hb, fun x => (h.own x).ext hb, h.apart, h.lt, Nat.le_trans h.size hb.size, h.keys⟩
theorem GRows.start {w : World} {B gb : Nat} {ks : List Nm} (h : SM w gb ks (fun _ => .slice none 0 0) (.slice none 0 0)) (hlt : gb < B) (hs : B ≤ w.heap.size) : GRows w B gb ks [] (fun _ => (none, 0)) :=
  ⟨h, fun _ => Own.nil _ _ _ _, fun _ _ _ h => absurd h (Nat.lt_irrefl _), hlt, hs, fun _ h => by simp at h⟩
/-- another block is written -/
theorem GRows.other {w w' : World} {B gb : Nat} {ks : List Nm} {E : List (Nm × Nm)} {sl : Nm → Option Addr × Nat} (h : GRows w B gb ks E sl) {g : Nat} (hg : w.grownBy w' (some g)) (h1 : g < B) (h2 : gb ≠ g) : GRows w' B gb ks E sl :=
  ⟨SMap.grown h.map hg (by simpa using h2), fun x => (h.own x).kept hg (by
    cases hb : blockOf (sl x).1 with
    | none => exact .inl rfl
    | some k => right; have := (h.own x).base hb; simp; omega), h.apart, h.lt, Nat.le_trans h.size hg.size, h.keys⟩
theorem GRows.below {w w' : World} {B gb : Nat} {ks : List Nm} {E : List (Nm × Nm)} {sl : Nm → Option Addr × Nat} (h : GRows w B gb ks E sl) {B2 : Nat} (hb : Below B2 w w') (hB : w.heap.size ≤ B2) : GRows w' B gb ks E sl := h.ext (hb.mono hB)

/-- a block behind the rows' first is written, that is no row -/
theorem GRows.grownX {w w' : World} {B gb : Nat} {ks : List Nm} {E : List (Nm × Nm)} {sl : Nm → Option Addr × Nat} (h : GRows w B gb ks E sl) {g : Nat} (hg : w.grownBy w' (some g)) (h2 : gb ≠ g) (h3 : ∀ x, 0 < (sl x).2 → blockOf (sl x).1 ≠ some g) : GRows w' B gb ks E sl :=
  ⟨SMap.grown h.map hg (by simpa using h2), fun x => by
    rcases Nat.eq_zero_or_pos (sl x).2 with h0 | h0
    · have ho := h.own x
      refine ⟨ho.1, ?_⟩
      rcases ho.2 with e | ⟨g', off, cur, e1, e2, e3, e4, e5, e6, e7⟩
      · exact .inl e
      · exact .inl ⟨by omega, h0, fun k hk => by rw [e1] at hk; simp [blockOf] at hk; omega⟩
    · exact (h.own x).kept hg (.inr (h3 x h0)), h.apart, h.lt, Nat.le_trans h.size hg.size, h.keys⟩
/-- .. because it holds no cells -/
theorem GRows.notMap {w : World} {B gb : Nat} {ks : List Nm} {E : List (Nm × Nm)} {sl : Nm → Option Addr × Nat} (h : GRows w B gb ks E sl) {g : Nat} {es : Array MapEntry} {clock : Nat} (hm : w.heap[g]? = some (.map es clock)) (x : Nm) (h0 : 0 < (sl x).2) : blockOf (sl x).1 ≠ some g := fun e => by
  rcases (h.own x).2 with ⟨_, e2, _⟩ | ⟨g', off, cur, e1, e2, e3, _⟩
  · omega
  · rw [e1] at e; simp [blockOf] at e; subst e
    rw [hm] at e3; cases e3
theorem GRows.grownM {w w' : World} {B gb : Nat} {ks : List Nm} {E : List (Nm × Nm)} {sl : Nm → Option Addr × Nat} (h : GRows w B gb ks E sl) {g : Nat} {ks2 : List Nm} {m : Nm → Nat} (hm : IM w g ks2 m) (hg : w.grownBy w' (some g)) (h2 : gb ≠ g) : GRows w' B gb ks E sl := by
  obtain ⟨es, clock, hb, _⟩ := hm
  exact h.grownX hg h2 (h.notMap hb)

theorem GRows.push {w w1 w2 : World} {B gb : Nat} {ks : List Nm} {E : List (Nm × Nm)} {sl : Nm → Option Addr × Nat} (h : GRows w B gb ks E sl) {p q : Nm} (hp : p ∈ ks) (hq : q ∈ ks) {a' : Option Addr} {c' : Nat}
    (hown : Own w1 B 9 1 a' ((outs E p).length + 1) c' ((outs E p).map strV ++ [strV q])) (hg : w.grownBy w1 (rowOf (sl p).1 (sl p).2)) (hbk : rowOf a' c' = rowOf (sl p).1 (sl p).2 ∨ rowOf a' c' = some w.heap.size)
    (hs : SM w2 gb (addK ks p) (upd (fun x => .slice (sl x).1 (outs E x).length (sl x).2) p (.slice a' ((outs E p).length + 1) c')) (.slice none 0 0)) (hg2 : w1.grownBy w2 (some gb)) :
    GRows w2 B gb ks (E ++ [(p, q)]) (upd sl p (a', c')) := by
  have hk : addK ks p = ks := by simp [addK, hp]
  rw [hk] at hs
  have hcp : 0 < c' := by have := hown.le; omega
  have hne : ∀ x, x ≠ p → 0 < (sl x).2 → blockOf (sl x).1 ≠ rowOf a' c' := fun x hx hc => by
    obtain ⟨g, off, hgo⟩ := (h.own x).addr hc
    have hlt := (h.own x).size hc (by rw [hgo]; rfl)
    have hgw : g < w.heap.size := hlt.2
    rcases hbk with e | e
    · rw [e]; unfold rowOf; split
      · rw [hgo]; simp [blockOf]
      · exact h.apart x p hx hc (by omega)
    · rw [e, hgo]; intro e2; have e3 : g = w.heap.size := by simpa [blockOf] using e2
      omega
  refine ⟨?_, fun x => ?_, fun x y hxy hx hy => ?_, h.lt, Nat.le_trans (Nat.le_trans h.size hg.size) hg2.size, fun r hr => ?_⟩
  · have e : (fun x => Value.slice (upd sl p (a', c') x).1 (outs (E ++ [(p, q)]) x).length (upd sl p (a', c') x).2) = upd (fun x => .slice (sl x).1 (outs E x).length (sl x).2) p (.slice a' ((outs E p).length + 1) c') := by
      funext x
      rw [outs_snoc]
      by_cases hx : x = p
      · subst hx; simp [upd]
      · simp [upd, hx]
    rw [e]; exact hs
  · have hb : blockOf ((upd sl p (a', c')) x).1 = none ∨ blockOf ((upd sl p (a', c')) x).1 ≠ some gb := by
      by_cases hx : x = p
      · subst hx; rw [upd_same]
        cases hb : blockOf a' with
        | none => exact .inl rfl
        | some k => right; have := hown.base hb; have := h.lt; intro e; simp at e; omega
      · rw [upd_other _ _ hx]
        cases hb : blockOf (sl x).1 with
        | none => exact .inl rfl
        | some k => right; have := (h.own x).base hb; have := h.lt; simp; omega
    refine Own.kept ?_ hg2 hb
    rw [outs_snoc]
    by_cases hx : x = p
    · subst hx; rw [upd_same, if_pos rfl, List.length_append, List.map_append]; exact hown
    · rw [upd_other _ _ hx, if_neg hx]
      exact (h.own x).keptApart (fun h1 h2 => h.apart x p hx h1 h2) hg
  · by_cases h1 : x = p
    · subst h1
      have h2 : y ≠ x := fun e => hxy e.symm
      rw [upd_same, upd_other _ _ h2] at *
      have := hne y h2 hy
      intro e
      apply this
      unfold rowOf; rw [if_neg (by omega)]; exact e.symm
    · by_cases h2 : y = p
      · subst h2
        rw [upd_same, upd_other _ _ h1] at *
        have := hne x h1 hx
        intro e
        apply this
        unfold rowOf; rw [if_neg (by omega)]; exact e
      · rw [upd_other _ _ h1, upd_other _ _ h2] at *
        exact h.apart x y hxy hx hy
  · rw [List.mem_append, List.mem_singleton] at hr
    rcases hr with hr | rfl
    · exact h.keys r hr
    · exact ⟨hp, hq⟩
end Go.Proofs.Ytnepamdmjppglaa
