/- What the finder of groups holds in memory, and how its steps turn it. -/
import Derived.Test.YtnepamdmjppglaaUsers
namespace Go.Proofs.Ytnepamdmjppglaa
open Go Go.RowKit

structure RowD where
  l : List Nm
  a : Option Addr
  c : Nat
def RowD.val (r : RowD) : Value := .slice r.a r.l.length r.c

/-- what stays -/
structure FC where
  W : World
  B : Nat
  gb : Nat
  ks : List Nm
  E : List (Nm × Nm)
  sl : Nm → Option Addr × Nat
  fb : Nat
  lm : Nat
  dm : Nat
  gm : Nat
structure FC.Ok (F : FC) : Prop where
  rows : GRows F.W F.B F.gb F.ks F.E F.sl
  fb : ∃ cur, Blk F.W F.fb cur 62
  lm : ∃ es clock, F.W.heap[F.lm]? = some (.map es clock)
  dm : ∃ es clock, F.W.heap[F.dm]? = some (.map es clock)
  gm : ∃ es clock, F.W.heap[F.gm]? = some (.map es clock)
  gl : F.gb ≠ F.lm
  gd : F.gb ≠ F.dm
  gg : F.gb ≠ F.gm
  ld : F.lm ≠ F.dm
  lg : F.lm ≠ F.gm
  dg : F.dm ≠ F.gm
  kl : F.ks.length ≤ 1048576
  el : F.E.length ≤ 1048576
/-- what turns -/
structure FV where
  sa : Option Addr
  sc : Nat
  aa : Option Addr
  ac : Nat
  all : List RowD
  dks : List Nm
  lks : List Nm
  gks : List Nm
def FC.cells (F : FC) (v : FV) (sn : Nat) : Array Value := #[.map (some F.gb), .slice v.sa sn v.sc, .map (some F.lm), .map (some F.dm), .map (some F.gm), .slice v.aa v.all.length v.ac]

/-- whatever lay in F.W lies, but the finder and its maps -/
structure Kept (F : FC) (w : World) : Prop where
  os : w.os = F.W.os
  tape : w.tape = F.W.tape
  output : w.output = F.W.output
  size : F.W.heap.size ≤ w.heap.size
  block : ∀ k, k < F.W.heap.size → k ≠ F.fb → k ≠ F.lm → k ≠ F.dm → k ≠ F.gm → w.heap[k]? = F.W.heap[k]?
theorem Kept.refl (F : FC) : Kept F F.W := ⟨rfl, rfl, rfl, Nat.le_refl _, fun _ _ _ _ _ _ => rfl⟩
theorem Kept.below {F : FC} {w w' : World} {B : Nat} (h : Kept F w) (k : Below B w w') (hB : F.W.heap.size ≤ B) : Kept F w' :=
  ⟨k.os.trans h.os, k.tape.trans h.tape, k.output.trans h.output, Nat.le_trans h.size k.size, fun i hi h1 h2 h3 h4 => (k.block i (by omega)).trans (h.block i hi h1 h2 h3 h4)⟩
theorem Kept.grown {F : FC} {w w' : World} {row : Option Nat} (h : Kept F w) (hg : w.grownBy w' row) (hr : ∀ j, row = some j → F.W.heap.size ≤ j) : Kept F w' :=
  ⟨hg.os.trans h.os, hg.tape.trans h.tape, hg.output.trans h.output, Nat.le_trans h.size hg.size, fun i hi h1 h2 h3 h4 => (hg.block i (Nat.lt_of_lt_of_le hi h.size) (fun e => by have := hr i e.symm; omega)).trans (h.block i hi h1 h2 h3 h4)⟩
theorem Kept.at {F : FC} {w w' : World} {m : Nat} (h : Kept F w) (hg : w.grownBy w' (some m)) (hm : m = F.lm ∨ m = F.dm ∨ m = F.gm) : Kept F w' :=
  ⟨hg.os.trans h.os, hg.tape.trans h.tape, hg.output.trans h.output, Nat.le_trans h.size hg.size, fun i hi h1 h2 h3 h4 => (hg.block i (Nat.lt_of_lt_of_le hi h.size) (fun e => by simp at e; omega)).trans (h.block i hi h1 h2 h3 h4)⟩
theorem Kept.set {F : FC} {w : World} (h : Kept F w) (j : Nat) (u : Value) : Kept F (w.setCell ⟨F.fb, j, none⟩ u) := by
  have k := (Below.refl 0 w).setCell (p := ⟨F.fb, j, none⟩) (Nat.zero_le _) u
  exact ⟨k.os.trans h.os, k.tape.trans h.tape, k.output.trans h.output, Nat.le_trans h.size k.size, fun i hi h1 h2 h3 h4 => (Below.heap_setCell w ⟨F.fb, j, none⟩ u i h1).trans (h.block i hi h1 h2 h3 h4)⟩

/-- all but the maps -/
structure FCore (F : FC) (v : FV) (w : World) (st : List Nm) : Prop where
  below : Kept F w
  blk : Blk w F.fb (F.cells v st.length) 62
  stk : Own w F.W.heap.size 9 1 v.sa st.length v.sc (st.map strV)
  al : Own w F.W.heap.size 28 1 v.aa v.all.length v.ac (v.all.map RowD.val)
  rows : ∀ r ∈ v.all, Own w F.W.heap.size 9 1 r.a r.l.length r.c (r.l.map strV)
  apart : ∀ r ∈ v.all, 0 < r.c → 0 < v.sc → blockOf r.a ≠ blockOf v.sa

structure FSt (F : FC) (v : FV) (w : World) (s : TSt Nm) : Prop where
  core : FCore F v w s.stack
  low : IM w F.lm v.lks s.low
  dep : IM w F.dm v.dks s.depth
  grp : IM w F.gm v.gks s.grp
  sall : s.all = v.all.map RowD.l
  dk : ∀ x, x ∈ v.dks ↔ s.depth x ≠ 0
  dl : v.dks.length = s.cnt
  dsub : ∀ x ∈ v.dks, x ∈ F.ks
  lsub : ∀ x ∈ v.lks, x ∈ v.dks
  gsub : ∀ x ∈ v.gks, x ∈ v.dks
  ris : ∀ r ∈ v.all, r.l.Pairwise fun x y => x < y

theorem FCore.ext {F : FC} {v : FV} {w w' : World} {st : List Nm} (h : FCore F v w st) (hb : Below w.heap.size w w') : FCore F v w' st :=
  ⟨h.below.below hb h.below.size, h.blk.ext hb, h.stk.ext hb, h.al.ext hb, fun r hr => (h.rows r hr).ext hb, h.apart⟩
theorem FSt.ext {F : FC} {v : FV} {w w' : World} {s : TSt Nm} (h : FSt F v w s) (hb : Below w.heap.size w w') : FSt F v w' s :=
  ⟨h.core.ext hb, h.low.ext hb, h.dep.ext hb, h.grp.ext hb, h.sall, h.dk, h.dl, h.dsub, h.lsub, h.gsub, h.ris⟩

theorem im_obj {w : World} {b : Nat} {ks : List Nm} {m : Nm → Nat} (h : IM w b ks m) : ∃ es clock, w.heap[b]? = some (.map es clock) := by
  obtain ⟨es, clock, hb, _⟩ := h
  exact ⟨es, clock, hb⟩
theorem own_notMap {w : World} {B : Nat} {e : TypeId} {sz : Nat} {a : Option Addr} {n c : Nat} {xs : List Value} (h : Own w B e sz a n c xs) {g : Nat} {es : Array MapEntry} {clock : Nat} (hm : w.heap[g]? = some (.map es clock)) : some g ≠ rowOf a c := by
  unfold rowOf; split
  · simp
  · rcases h.2 with ⟨_, e2, _⟩ | ⟨g', off, cur, e1, e2, e3, _⟩
    · omega
    · rw [e1]; intro e; simp [blockOf] at e; subst e
      rw [hm] at e3; cases e3
theorem own_keptMap {w w' : World} {B : Nat} {e : TypeId} {sz : Nat} {a : Option Addr} {n c : Nat} {xs : List Value} (h : Own w B e sz a n c xs) {g : Nat} {es : Array MapEntry} {clock : Nat} (hm : w.heap[g]? = some (.map es clock)) (hg : w.grownBy w' (some g)) : Own w' B e sz a n c xs := by
  refine ⟨h.1, ?_⟩
  rcases h.2 with h1 | ⟨g', off, cur, e1, e2, e3, r⟩
  · exact .inl h1
  · refine .inr ⟨g', off, cur, e1, e2, ?_, r⟩
    refine (hg.block g' (Array.getElem?_eq_some_iff.1 e3).1 fun e => ?_).trans e3
    simp at e; subst e; rw [hm] at e3; cases e3
/-- a map of the finder's is written -/
theorem FCore.map {F : FC} {v : FV} {w w' : World} {st : List Nm} (h : FCore F v w st) {m : Nat} {ks : List Nm} {f : Nm → Nat} (hm : IM w m ks f) (hge : m = F.lm ∨ m = F.dm ∨ m = F.gm) (hg : w.grownBy w' (some m)) : FCore F v w' st := by
  obtain ⟨es, clock, ho⟩ := im_obj hm
  refine ⟨h.below.at hg hge, h.blk.grown hg fun e => ?_, own_keptMap h.stk ho hg, own_keptMap h.al ho hg, fun r hr => own_keptMap (h.rows r hr) ho hg, h.apart⟩
  simp at e; subst e
  have := h.blk; unfold Blk at this; rw [ho] at this; cases this

/-- the graph lies as it lay -/
theorem FCore.graph {F : FC} {v : FV} {w : World} {st : List Nm} (h : FCore F v w st) (ho : F.Ok) : GRows w F.B F.gb F.ks F.E F.sl := by
  have hr := ho.rows
  obtain ⟨fc, hfb⟩ := ho.fb
  obtain ⟨e1, c1, hlm⟩ := ho.lm
  obtain ⟨e2, c2, hdm⟩ := ho.dm
  obtain ⟨e3, c3, hgm⟩ := ho.gm
  have hgf : F.gb ≠ F.fb := fun e => by
    obtain ⟨es, clock, hb, _⟩ := hr.map
    rw [e] at hb; unfold Blk at hfb; rw [hfb] at hb; cases hb
  refine ⟨SMap.congr hr.map (h.below.block F.gb (SMap.lt hr.map) hgf ho.gl ho.gd ho.gg), fun x => ?_, hr.apart, hr.lt, Nat.le_trans hr.size h.below.size, hr.keys⟩
  have hx := hr.own x
  refine ⟨hx.1, ?_⟩
  rcases hx.2 with h1 | ⟨g, off, cur, h1, h2, h3, r⟩
  · exact .inl h1
  · refine .inr ⟨g, off, cur, h1, h2, ?_, r⟩
    refine (h.below.block g (Array.getElem?_eq_some_iff.1 h3).1 (fun e => ?_) (fun e => ?_) (fun e => ?_) (fun e => ?_)).trans h3
    · subst e; unfold Blk at hfb; rw [hfb] at h3; cases h3
    · subst e; rw [hlm] at h3; cases h3
    · subst e; rw [hdm] at h3; cases h3
    · subst e; rw [hgm] at h3; cases h3

/-- n is come to: its depth is stored -/
theorem FSt.depth1 {F : FC} {v : FV} {w w' : World} {s : TSt Nm} (h : FSt F v w s) (ho : F.Ok) {n : Nm} (hn : n ∈ F.ks) (h0 : s.depth n = 0) (hs : IM w' F.dm (addK v.dks n) (upd s.depth n (s.cnt + 1))) (hg : w.grownBy w' (some F.dm)) :
    FSt F { v with dks := addK v.dks n } w' { s with depth := upd s.depth n (s.cnt + 1), cnt := s.cnt + 1 } := by
  have hnd : n ∉ v.dks := fun e => (h.dk n).1 e h0
  refine ⟨?_, h.low.grown hg (by simp; exact ho.ld), hs, h.grp.grown hg (by simp; exact fun e => ho.dg e.symm), h.sall, fun x => ?_, ?_, fun x hx => ?_, fun x hx => mem_addK.2 (.inl (h.lsub x hx)), fun x hx => mem_addK.2 (.inl (h.gsub x hx)), h.ris⟩
  · have := h.core.map h.dep (.inr (.inl rfl)) hg
    exact ⟨this.below, this.blk, this.stk, this.al, this.rows, this.apart⟩
  · rw [mem_addK, h.dk x]
    by_cases q : x = n
    · subst q; simp [upd]
    · simp [upd, q]
  · rw [addK_len, if_neg hnd, h.dl]
  · rcases mem_addK.1 hx with q | rfl
    · exact h.dsub x q
    · exact hn
/-- a low is stored -/
theorem FSt.lowS {F : FC} {v : FV} {w w' : World} {s : TSt Nm} (h : FSt F v w s) (ho : F.Ok) {n : Nm} {k : Nat} (hn : n ∈ v.dks) (hs : IM w' F.lm (addK v.lks n) (upd s.low n k)) (hg : w.grownBy w' (some F.lm)) :
    FSt F { v with lks := addK v.lks n } w' { s with low := upd s.low n k } := by
  refine ⟨?_, hs, h.dep.grown hg (by simp; exact fun e => ho.ld e.symm), h.grp.grown hg (by simp; exact fun e => ho.lg e.symm), h.sall, h.dk, h.dl, h.dsub, fun x hx => ?_, h.gsub, h.ris⟩
  · have := h.core.map h.low (.inl rfl) hg
    exact ⟨this.below, this.blk, this.stk, this.al, this.rows, this.apart⟩
  · rcases mem_addK.1 hx with q | rfl
    · exact h.lsub x q
    · exact hn
/-- a group's number is stored -/
theorem FSt.grpS {F : FC} {v : FV} {w w' : World} {s : TSt Nm} (h : FSt F v w s) (ho : F.Ok) {n : Nm} {k : Nat} (hn : n ∈ v.dks) (hs : IM w' F.gm (addK v.gks n) (upd s.grp n k)) (hg : w.grownBy w' (some F.gm)) :
    FSt F { v with gks := addK v.gks n } w' { s with grp := upd s.grp n k } := by
  refine ⟨?_, h.low.grown hg (by simp; exact ho.lg), h.dep.grown hg (by simp; exact ho.dg), hs, h.sall, h.dk, h.dl, h.dsub, h.lsub, fun x hx => ?_, h.ris⟩
  · have := h.core.map h.grp (.inr (.inr rfl)) hg
    exact ⟨this.below, this.blk, this.stk, this.al, this.rows, this.apart⟩
  · rcases mem_addK.1 hx with q | rfl
    · exact h.gsub x q
    · exact hn

theorem fin_type : 9 ≠ 28 := by decide
theorem FCore.fbRow {F : FC} {v : FV} {w : World} {st : List Nm} (h : FCore F v w st) {B : Nat} {e : TypeId} {sz : Nat} {a : Option Addr} {n c : Nat} {xs : List Value} (k : Own w B e sz a n c xs) (hne : e ≠ 62) : rowOf a c ≠ some F.fb := by
  unfold rowOf; split
  · simp
  · rcases k.2 with ⟨_, e2, _⟩ | ⟨g', off, cur, e1, e2, e3, _⟩
    · omega
    · rw [e1]; intro e4; simp [blockOf] at e4; subst e4
      have := h.blk; unfold Blk at this; rw [this] at e3; cases e3; exact hne rfl

theorem im_keptRow {w w' : World} {b : Nat} {ks : List Nm} {m : Nm → Nat} (h : IM w b ks m) {B : Nat} {e : TypeId} {sz : Nat} {a : Option Addr} {n c : Nat} {xs : List Value} (k : Own w B e sz a n c xs) (hg : w.grownBy w' (rowOf a c)) : IM w' b ks m := by
  obtain ⟨es, clock, ho⟩ := im_obj h
  exact h.grown hg (own_notMap k ho)
theorem im_setBlk {w : World} {b : Nat} {ks : List Nm} {m : Nm → Nat} (h : IM w b ks m) {g : Nat} {cur : Array Value} {t : TypeId} (k : Blk w g cur t) (j : Nat) (u : Value) : IM (w.setCell ⟨g, j, none⟩ u) b ks m := by
  obtain ⟨es, clock, ho⟩ := im_obj h
  refine h.set (fun e => ?_) u
  simp at e; subst e
  unfold Blk at k; rw [ho] at k; cases k

/-- the stack's field is stored anew -/
theorem FSt.stackF {F : FC} {v : FV} {w : World} {s : TSt Nm} (h : FSt F v w s) (_ : F.Ok) {st : List Nm} {a' : Option Addr} {c' : Nat} (hown : Own w F.W.heap.size 9 1 a' st.length c' (st.map strV)) (hap : ∀ r ∈ v.all, 0 < r.c → 0 < c' → blockOf r.a ≠ blockOf a') :
    FSt F { v with sa := a', sc := c' } (w.setCell ⟨F.fb, 1, none⟩ (.slice a' st.length c')) { s with stack := st } := by
  have hs := h.core.fbRow hown (by decide)
  refine ⟨⟨h.core.below.set 1 _, h.core.blk.set 1 _, hown.setCell_row hs _, h.core.al.setCell_row (h.core.fbRow h.core.al (by decide)) _, fun r hr => (h.core.rows r hr).setCell_row (h.core.fbRow (h.core.rows r hr) (by decide)) _, hap⟩, im_setBlk h.low h.core.blk _ _, im_setBlk h.dep h.core.blk _ _, im_setBlk h.grp h.core.blk _ _, h.sall, h.dk, h.dl, h.dsub, h.lsub, h.gsub, h.ris⟩
/-- the stack grows -/
theorem FSt.stackG {F : FC} {v : FV} {w w' : World} {s : TSt Nm} (h : FSt F v w s) (_ : F.Ok) {st : List Nm} {a' : Option Addr} {c' : Nat} (hown : Own w' F.W.heap.size 9 1 a' st.length c' (st.map strV)) (hg : w.grownBy w' (rowOf v.sa v.sc)) (hbk : rowOf a' c' = rowOf v.sa v.sc ∨ rowOf a' c' = some w.heap.size) :
    FSt F { v with sa := a', sc := c' } (w'.setCell ⟨F.fb, 1, none⟩ (.slice a' st.length c')) { s with stack := st } := by
  have hrb := h.core.stk.rowBase (Nat.le_refl _)
  have hap : ∀ r ∈ v.all, 0 < r.c → 0 < c' → blockOf r.a ≠ blockOf a' := fun r hr hc hc' => by
    obtain ⟨g, off, hgo⟩ := (h.core.rows r hr).addr hc
    have hlt := (h.core.rows r hr).size hc (by rw [hgo]; rfl)
    have hne : rowOf v.sa v.sc ≠ some g := by
      unfold rowOf; split
      · simp
      · have := h.core.apart r hr hc (by omega)
        rw [hgo] at this; exact fun e => this (by rw [e]; rfl)
    have h2 := rowOf_apart hne hlt.2 hbk
    rw [hgo]
    unfold rowOf at h2; rw [if_neg (by omega)] at h2
    exact fun e => h2 (by rw [← e]; rfl)
  have h1 : FSt F v w' { s with stack := st } → True := fun _ => trivial
  have hs : rowOf a' c' ≠ some F.fb := by
    unfold rowOf; split
    · simp
    · rcases hown.2 with ⟨_, e2, _⟩ | ⟨g', off, cur, e1, e2, e3, _⟩
      · omega
      · rw [e1]; intro e4; simp [blockOf] at e4; subst e4
        have := h.core.blk.grown hg (fun e => h.core.fbRow h.core.stk (by decide) e.symm); unfold Blk at this; rw [this] at e3; cases e3
  have hblk := h.core.blk.grown hg (fun e => h.core.fbRow h.core.stk (by decide) e.symm)
  refine ⟨⟨(h.core.below.grown hg hrb).set 1 _, hblk.set 1 _, hown.setCell_row hs _, ?_, fun r hr => ?_, hap⟩, im_setBlk (im_keptRow h.low h.core.stk hg) hblk _ _, im_setBlk (im_keptRow h.dep h.core.stk hg) hblk _ _, im_setBlk (im_keptRow h.grp h.core.stk hg) hblk _ _, h.sall, h.dk, h.dl, h.dsub, h.lsub, h.gsub, h.ris⟩
  · exact (h.core.al.keptType h.core.stk fin_type.symm hg).setCell_row (h.core.fbRow h.core.al (by decide)) _
  · exact ((h.core.rows r hr).keptApart (fun h1 h2 => h.core.apart r hr h1 h2) hg).setCell_row (h.core.fbRow (h.core.rows r hr) (by decide)) _
/-- a group is told -/
theorem FSt.allG {F : FC} {v : FV} {w w' : World} {s : TSt Nm} (h : FSt F v w s) (_ : F.Ok) {r : RowD} {a' : Option Addr} {c' : Nat} (hr0 : Own w F.W.heap.size 9 1 r.a r.l.length r.c (r.l.map strV)) (hra : 0 < r.c → 0 < v.sc → blockOf r.a ≠ blockOf v.sa) (hri : r.l.Pairwise fun x y => x < y)
    (hown : Own w' F.W.heap.size 28 1 a' (v.all.length + 1) c' (v.all.map RowD.val ++ [r.val])) (hg : w.grownBy w' (rowOf v.aa v.ac)) :
    FSt F { v with aa := a', ac := c', all := v.all ++ [r] } (w'.setCell ⟨F.fb, 5, none⟩ (.slice a' (v.all.length + 1) c')) { s with all := s.all ++ [r.l] } := by
  have hrb := h.core.al.rowBase (Nat.le_refl _)
  have hblk := h.core.blk.grown hg (fun e => h.core.fbRow h.core.al (by decide) e.symm)
  have hs : rowOf a' c' ≠ some F.fb := by
    unfold rowOf; split
    · simp
    · rcases hown.2 with ⟨_, e2, _⟩ | ⟨g', off, cur, e1, e2, e3, _⟩
      · omega
      · rw [e1]; intro e4; simp [blockOf] at e4; subst e4
        have := hblk; unfold Blk at this; rw [this] at e3; cases e3
  have hset : Blk (w'.setCell ⟨F.fb, 5, none⟩ (.slice a' (v.all.length + 1) c')) F.fb (F.cells { v with aa := a', ac := c', all := v.all ++ [r] } s.stack.length) 62 := by
    have := hblk.set 5 (.slice a' (v.all.length + 1) c')
    have e : (F.cells v s.stack.length).setIfInBounds 5 (.slice a' (v.all.length + 1) c') = F.cells { v with aa := a', ac := c', all := v.all ++ [r] } s.stack.length := by
      simp [FC.cells]
    rw [e] at this; exact this
  refine ⟨⟨(h.core.below.grown hg hrb).set 5 _, hset, (h.core.stk.keptType h.core.al fin_type hg).setCell_row (h.core.fbRow h.core.stk (by decide)) _, ?_, fun r' hr' => ?_, fun r' hr' => ?_⟩,
    im_setBlk (im_keptRow h.low h.core.al hg) hblk _ _, im_setBlk (im_keptRow h.dep h.core.al hg) hblk _ _, im_setBlk (im_keptRow h.grp h.core.al hg) hblk _ _, ?_, h.dk, h.dl, h.dsub, h.lsub, h.gsub, fun r' hr' => ?_⟩
  · show Own _ _ _ _ a' (v.all ++ [r]).length c' ((v.all ++ [r]).map RowD.val)
    rw [List.length_append, List.map_append]; exact hown.setCell_row hs _
  · rcases List.mem_append.1 hr' with q | q
    · exact ((h.core.rows r' q).keptType h.core.al fin_type hg).setCell_row (h.core.fbRow (h.core.rows r' q) (by decide)) _
    · simp at q; subst q
      exact (hr0.keptType h.core.al fin_type hg).setCell_row (h.core.fbRow hr0 (by decide)) _
  · rcases List.mem_append.1 hr' with q | q
    · exact h.core.apart r' q
    · simp at q; subst q; exact hra
  · show s.all ++ [r.l] = (v.all ++ [r]).map RowD.l
    rw [List.map_append, h.sall]; rfl
  · rcases List.mem_append.1 hr' with q | q
    · exact h.ris r' q
    · simp at q; subst q; exact hri

/-- how much there is at most -/
theorem FSt.cntLt {F : FC} {v : FV} {w : World} {s : TSt Nm} (h : FSt F v w s) {n : Nm} (hn : n ∈ F.ks) (h0 : s.depth n = 0) : s.cnt + 1 ≤ F.ks.length := by
  have hnd : n ∉ v.dks := fun e => (h.dk n).1 e h0
  have hd : (n :: v.dks).Nodup := List.nodup_cons.2 ⟨hnd, SMap.nodup h.dep⟩
  have := List.Nodup.length_le_of_subset hd (l₂ := F.ks) (fun x hx => by
    rcases List.mem_cons.1 hx with rfl | q
    · exact hn
    · exact h.dsub x q)
  rw [List.length_cons, h.dl] at this; exact this
theorem FSt.cntLe {F : FC} {v : FV} {w : World} {s : TSt Nm} (h : FSt F v w s) : s.cnt ≤ F.ks.length := by
  rw [← h.dl]
  exact List.Nodup.length_le_of_subset (SMap.nodup h.dep) fun x hx => h.dsub x hx
theorem FSt.lksLe {F : FC} {v : FV} {w : World} {s : TSt Nm} (h : FSt F v w s) : v.lks.length ≤ F.ks.length :=
  List.Nodup.length_le_of_subset (SMap.nodup h.low) fun x hx => h.dsub x (h.lsub x hx)
theorem FSt.gksLe {F : FC} {v : FV} {w : World} {s : TSt Nm} (h : FSt F v w s) : v.gks.length ≤ F.ks.length :=
  List.Nodup.length_le_of_subset (SMap.nodup h.grp) fun x hx => h.dsub x (h.gsub x hx)
theorem FSt.stkLe {F : FC} {v : FV} {w : World} {s : TSt Nm} (h : FSt F v w s) (hd : s.stack.Nodup) (ho : ∀ x ∈ s.stack, s.depth x ≠ 0) : s.stack.length ≤ F.ks.length :=
  List.Nodup.length_le_of_subset hd fun x hx => h.dsub x ((h.dk x).2 (ho x hx))
theorem FSt.allLe {F : FC} {v : FV} {w : World} {s : TSt Nm} (h : FSt F v w s) {g : Nm → List Nm} {G : List Nm} (hi : TInv g s G) : v.all.length ≤ F.ks.length := by
  have e : v.all.length = s.all.length := by rw [h.sall, List.length_map]
  rw [e]
  have key : ∀ k, k ≤ s.all.length → ∃ hs : List Nm, hs.length = k ∧ hs.Nodup ∧ ∀ x ∈ hs, x ∈ F.ks ∧ s.grp x ≤ k := by
    intro k
    induction k with
    | zero => exact fun _ => ⟨[], rfl, by simp, by simp⟩
    | succ k ih =>
      intro hk
      obtain ⟨hs, h1, h2, h3⟩ := ih (by omega)
      obtain ⟨l, hl⟩ := get_some (l := s.all) (i := k) (by omega)
      obtain ⟨x, hx⟩ := List.exists_mem_of_ne_nil _ (hi.some_ k l hl)
      have hgx := (hi.mem k l hl x).1 hx
      refine ⟨hs ++ [x], by simp [h1], ?_, fun y hy => ?_⟩
      · rw [List.nodup_append]
        refine ⟨h2, by simp, fun a ha b hb => ?_⟩
        simp at hb; subst hb
        intro e; subst e
        have := (h3 a ha).2; omega
      · rcases List.mem_append.1 hy with q | q
        · exact ⟨(h3 y q).1, by have := (h3 y q).2; omega⟩
        · simp at q; subst q
          exact ⟨h.dsub y ((h.dk y).2 (hi.seen y (by omega))), by omega⟩
  obtain ⟨hs, h1, h2, h3⟩ := key _ (Nat.le_refl _)
  rw [← h1]
  exact List.Nodup.length_le_of_subset h2 fun x hx => (h3 x hx).1
end Go.Proofs.Ytnepamdmjppglaa
