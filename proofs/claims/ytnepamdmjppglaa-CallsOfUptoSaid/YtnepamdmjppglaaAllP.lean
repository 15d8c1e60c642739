/- parse.All at any part, walked. -/
import Derived.Test.YtnepamdmjppglaaPartV
import Derived.Test.YtnepamdmjppglaaTodo
import Derived.RangeFuncNested
import Derived.RangeFuncBound
import Derived.RangeFuncCalls
import Derived.RangeFuncLeaves
import Derived.RangeFuncBox
import Derived.Shelf.Abstract
import Derived.Shelf.RegionOpen
import Derived.OwnWalkIn
import Derived.TacticsInMore
import Derived.LoopNIn
import Derived.LoopIn
import Derived.Deep.RegionHeld3
import Derived.Test.YtnepamdmjppglaaRegR
import Derived.Test.YtnepamdmjppglaaPush
namespace Go.Proofs.Ytnepamdmjppglaa
open Go Go.RowKit Go.Shelf Go.Sort
attribute [local go_sem] Oper.semAt_some

theorem backP_any (a : Option Addr) (n c : Nat) (w : World) : Calls Try.prog 48 #[.slice a n c] w fun e w' => e = .returned (.func (.func 62) #[] #[.pointer (some ⟨w.heap.size, 0, none⟩)]) ∧ w' = w.alloc (.cells #[.slice a n c] 22) := by
  go_enter Try.func48, Try.ntmps48
  go_wp2
  go_ret
  exact ⟨rfl, rfl⟩

/-- what a round keeps: all below s, and the box b -/
def KpS (s b : Nat) (A B : World) : Prop := Below s A B ∧ B.heap[b]? = A.heap[b]?
theorem KpS.trans {s b : Nat} {A B C : World} (h : KpS s b A B) (k : KpS s b B C) : KpS s b A C := ⟨h.1.trans k.1, k.2.trans h.2⟩
theorem KpS.refl (s b : Nat) (A : World) : KpS s b A A := ⟨Below.refl _ _, rfl⟩
theorem kpS_b {s b : Nat} {w : World} (hs : s ≤ w.heap.size) (hb : b < w.heap.size) (W : World) (l : Nat) (_o o' : Obj) (hl : w.heap.size ≤ l) (h : W.heap[l]? = some _o) (h1 : _o.isCells = false) (h2 : _o.isWalk = false) : KpS s b W (W.putObj l o') :=
  ⟨belowK_b hs W l _o o' hl h h1 h2, (grownBy_putObj' W l o').block b (by have := (Array.getElem?_eq_some_iff.1 h).1; omega) (fun e => by cases e; omega)⟩

/-- the kid that comes -/
def kidOf (ks : List PartD) (x : { j : Nat // j < ks.length }) : PartD := ks[x.1]'x.2
theorem kidOf_eq {ks : List PartD} {j : Nat} {x : PartD} (hx : ks[j]? = some x) (h : j < ks.length) : kidOf ks ⟨j, h⟩ = x := (List.getElem?_eq_some_iff.1 hx).2

set_option maxRecDepth 100000 in
set_option maxHeartbeats 2000000 in
theorem backP_stops (F : Fence) (n : Nat) (hF : F.fn 62) (hro : F.round = none) (hn : 1 ≤ n) (Bs : Nat) (a : Option Addr) (c : Nat) (ks : List PartD) (w0 w : World) (hBs : Bs < w.heap.size) (hl : ks.length ≤ 1099511627776)
    (hc : w.cell? ⟨Bs, 0, none⟩ = some (.slice a ks.length c)) (hR : Row w0 5 a ks.length (ks.flatMap PartD.cells)) (h0w : Below w0.heap.size w0 w) :
    SeqStopsK F n Try.prog 62 #[.pointer (some ⟨Bs, 0, none⟩)] (fun x : { j : Nat // j < ks.length } => #[Value.int .i64 (x.1 : Int), (kidOf ks x).val]) (KpS w0.heap.size Bs) (fun ys => ys.map (kidOf ks) = ks.reverse) (fun _ => True) ks.length w := fun l J Jx W hW _ _ hY h0 => by
  have hcW := (hW.cell (p := ⟨Bs, 0, none⟩) hBs).trans hc
  have hb0 := Lib.hid (h0w.trans (hW.mono h0w.size))
  have HR := Lib.hid hR
  clear hc hR h0w
  refine callsIn_of_wp Try.func62 rfl hF ?_ hro
  simp only [Try.ntmps62, List.size_toArray, List.length_cons, List.length_nil, Nat.reduceAdd, Nat.reduceSub, Array.replicate_succ, Array.replicate_zero, List.push_toArray, List.append_toArray, List.nil_append, List.cons_append]
  gi_wp2
  gi_loopw [3] (fun i wr => ∃ (k j : Nat) (pre : List { j : Nat // j < ks.length }), k + j = ks.length ∧ i = .int .i64 ((j : Int) - 1) ∧ Hid (pre.map (kidOf ks) = (ks.drop j).reverse) ∧ pre.length = k ∧ J pre wr ∧ Hid (KpS w0.heap.size Bs W wr)) (fun i _ => (intOf i + 1).toNat)
  case atStart => exact ⟨0, ks.length, [], by omega, by first | rfl | simp, Lib.hid (by simp), rfl, h0, Lib.hid (KpS.refl _ _ _)⟩
  case round =>
    obtain ⟨k, j, pre, hkj, rfl, hpre, hlen, hJs, hk⟩ := hrel
    rcases Nat.eq_zero_or_pos j with hj | hj
    · subst hj
      have hpre' := hpre.out
      rw [List.drop_zero] at hpre'
      gi_wp2
      go_end0
      exact ⟨⟨_, rfl⟩, .inl ⟨pre, hpre', hJs⟩⟩
    · obtain ⟨j, rfl⟩ : ∃ i, j = i + 1 := ⟨j - 1, by omega⟩
      have ej : ((j + 1 : Nat) : Int) - 1 = (j : Int) := by omega
      rw [ej]
      have hjN : j < ks.length := by omega
      obtain ⟨x, hx⟩ := get_some hjN
      have hcr : wr.cell? ⟨Bs, 0, none⟩ = some (.slice a ks.length c) := (World.cell?_of_block (w := W) hk.out.2).trans hcW
      obtain ⟨b, off, rfl, c0, c1, c2, c3, c4⟩ := part_at (HR.out.ext (hb0.out.trans hk.out.1)) hx
      obtain ⟨fn, tmps, assign, body, hy, hR⟩ := hY pre ⟨j, hjN⟩ wr hJs (by omega)
      dsimp only at hy
      rw [kidOf_eq hx hjN, PartD.val_eq] at hy
      have hpre2 : Hid ((pre ++ [(⟨j, hjN⟩ : { j : Nat // j < ks.length })]).map (kidOf ks) = (ks.drop j).reverse) := Lib.hid (by
        rw [List.map_append, List.map_singleton, hpre.out, kidOf_eq hx hjN, List.drop_eq_getElem_cons hjN, (List.getElem?_eq_some_iff.1 hx).2, List.reverse_cons])
      clear hx hcW
      gi_wp2
      refine hR.mono ?_
      rintro e W3 (⟨rfl, hJ3, hk3⟩ | ⟨rfl, hJx3⟩)
      · gi_wp2
        go_roundw
        case rel => exact ⟨k + 1, j, pre ++ [⟨j, hjN⟩], by omega, rfl, hpre2, by simp [hlen], hJ3, Lib.hid (hk.out.trans hk3)⟩
        case measure => first | (simp [intOf]; done) | (simp [intOf]; omega)
      · gi_wp2
        refine bodyPost_ret (results_none rfl _ _ _) rfl ?_
        exact ⟨⟨_, rfl⟩, .inr ⟨_, trivial, hJx3⟩⟩

theorem pre_at {w : World} {p : PartD} (h : PartAt w p) : ∀ x ∈ pre p, PartAt w x := by
  induction h with
  | @mk k t lo hi a c ks h hk ih =>
    have hks : ∀ l : List PartD, (∀ x ∈ l, x ∈ ks) → ∀ y ∈ pres l, PartAt w y := by
      intro l
      induction l with
      | nil => intro _ y hy; simp [pres] at hy
      | cons d l ihl =>
        intro hl y hy
        simp only [pres, List.mem_append] at hy
        rcases hy with hy | hy
        · exact ih d (hl d (List.mem_cons_self ..)) y hy
        · exact ihl (fun x hx => hl x (List.mem_cons_of_mem _ hx)) y hy
    intro x hx
    rw [pre_eq, List.mem_cons] at hx
    rcases hx with rfl | hx
    · exact .mk h hk
    · exact hks ks (fun _ h => h) x hx
theorem pres_len (l : List PartD) : l.length ≤ (pres l).length := by
  induction l with
  | nil => simp
  | cons d l ih => simp only [pres, List.length_append, pre_eq, List.length_cons]; omega
theorem infoPart2 : (Try.prog.info? 24).map (fun i => (i.zero, i.size, i.bytes)) = some (some (.agg #[.string ByteArray.empty, .string ByteArray.empty, .int .i64 0, .int .i64 0, .slice none 0 0]), 5, 72) := by kernel_rfl
theorem PartD.cells_eq (x : PartD) : x.cells = [.string ⟨x.kind.toArray⟩, .string ⟨x.text.toArray⟩, .int .i64 x.lo, .int .i64 x.hi, .slice x.a x.kids.length x.c] := by cases x; rfl
theorem part_one (x : PartD) : ∀ u ∈ x.cells, u.oneCell' = true := by
  rw [PartD.cells_eq]; intro u hu; simp at hu; rcases hu with rfl | rfl | rfl | rfl | rfl <;> rfl

theorem mem_pres {l : List PartD} {z : PartD} (h : z ∈ l) : z ∈ pres l := by
  induction l with
  | nil => cases h
  | cons d l ih =>
    simp only [pres, List.mem_append]
    rcases List.mem_cons.1 h with rfl | h
    · exact .inl (by rw [pre_eq]; exact List.mem_cons_self ..)
    · exact .inr (ih h)

/-- where no panic is let out -/
def NoPan (Q : Exit → Act → World → Prop) : Exit → Act → World → Prop
  | .panic _, _, _ => False
  | .normal, a, w => Q .normal a w
  | .ret, a, w => Q .ret a w
  | .exit n, a, w => Q (.exit n) a w
  | .goto t, a, w => Q (.goto t) a w
  | .outgrown, a, w => Q .outgrown a w
theorem wp_noPan {P : Program} {c : Code} {Q : Exit → Act → World → Prop} {a : Act} {w : World} (h : c.wp P (NoPan Q) a w) : c.wp P Q a w :=
  Code.wp_mono (fun e a w h => by cases e <;> first | exact h | exact h.elim) h

/-- a frame of 41 slots, written out -/
theorem lay41 (A : Array Value) (h : A.size = 41) : ∃ y : Nat → Value, (∀ i, y i = A.getD i undef) ∧ A = #[y 0, y 1, y 2, y 3, y 4, y 5, y 6, y 7, y 8, y 9, y 10, y 11, y 12, y 13, y 14, y 15, y 16, y 17, y 18, y 19, y 20, y 21, y 22, y 23, y 24, y 25, y 26, y 27, y 28, y 29, y 30, y 31, y 32, y 33, y 34, y 35, y 36, y 37, y 38, y 39, y 40] := by
  obtain ⟨l⟩ := A
  match l, h with
  | a0 :: a1 :: a2 :: a3 :: a4 :: a5 :: a6 :: a7 :: a8 :: a9 :: a10 :: a11 :: a12 :: a13 :: a14 :: a15 :: a16 :: a17 :: a18 :: a19 :: a20 :: a21 :: a22 :: a23 :: a24 :: a25 :: a26 :: a27 :: a28 :: a29 :: a30 :: a31 :: a32 :: a33 :: a34 :: a35 :: a36 :: a37 :: a38 :: a39 :: a40 :: [], _ => exact ⟨fun i => Array.getD #[a0, a1, a2, a3, a4, a5, a6, a7, a8, a9, a10, a11, a12, a13, a14, a15, a16, a17, a18, a19, a20, a21, a22, a23, a24, a25, a26, a27, a28, a29, a30, a31, a32, a33, a34, a35, a36, a37, a38, a39, a40] i undef, fun _ => rfl, rfl⟩
theorem handed41 {J : Nat → Act → World → Prop} {n : Nat} {A : Array Value} {ds : List Deferred} {W : World} (hA : A.size = 41) (k : Nat) (hk : k < n) (h : ∀ y : Nat → Value, (∀ i, y i = A.getD i undef) → J k { tmps := #[y 0, y 1, y 2, y 3, y 4, y 5, y 6, y 7, y 8, y 9, y 10, y 11, y 12, y 13, y 14, y 15, y 16, y 17, y 18, y 19, y 20, y 21, y 22, y 23, y 24, y 25, y 26, y 27, y 28, y 29, y 30, y 31, y 32, y 33, y 34, y 35, y 36, y 37, y 38, y 39, y 40], defers := ds } W) : Handed J n { tmps := A, defers := ds } W := by
  obtain ⟨y, hy, he⟩ := lay41 A hA
  refine ⟨k, hk, ?_⟩
  have h1 := h y hy
  rw [← he] at h1
  exact h1
/-- the next block is in no row -/
theorem own_new {w : World} {base : Nat} {e : TypeId} {sz : Nat} {a : Option Addr} {n cap : Nat} {xs : List Value} (h : Own w base e sz a n cap xs) {g : Nat} (hg : w.heap.size ≤ g) : some g ≠ rowOf a cap := by
  intro he
  unfold rowOf at he
  split at he
  · cases he
  · rename_i hc
    have := (h.size (Nat.pos_of_ne_zero hc) he.symm).2
    omega

def AllR (l : List PartD) (v : Value) (w' : World) : Prop := ∃ a c, v = .slice a l.length c ∧ Row w' 5 a l.length (l.flatMap PartD.cells)

set_option maxHeartbeats 4000000 in
set_option maxRecDepth 20000 in
theorem all_any (p : PartD) (w : World) (h : PartAt w p) (hw : weight (pre p) ≤ 1048576) : Calls Try.prog 24 #[p.val] w (Ret w (AllR (pre p))) := by
  have hpl := weight_len (pre p)
  have HP := Lib.hid (pre_at h)
  have Hmem : Hid (p ∈ pre p) := Lib.hid (by rw [pre_eq]; exact List.mem_cons_self ..)
  clear h
  rw [PartD.val_eq]
  refine (callsIn_wide (n := 9)).1 (callsIn_of_wp_marks Try.func24 rfl trivial ?_ rfl)
  simp only [Try.ntmps24, List.size_toArray, List.length_cons, List.length_nil, Nat.reduceAdd, Nat.reduceSub, Array.replicate_succ, Array.replicate_zero, List.push_toArray, List.append_toArray, List.nil_append, List.cons_append]
  refine wpIn_wide.2 (wp_noPan ?_)
  go_wp2_with fail
  refine wp_loop_ghost_k (fun k a' W => ∃ (u : Nat → Value) (out td : List PartD) (ao ax : Option Addr) (co cx tb : Nat) (rs : List Nat), a' = { tmps := #[.agg #[.string ⟨p.kind.toArray⟩, .string ⟨p.text.toArray⟩, .int .i64 p.lo, .int .i64 p.hi, .slice p.a p.kids.length p.c], .pointer (some ⟨w.heap.size, 0, none⟩), .slice none 0 0, .slice ao out.length co, .pointer (some ⟨tb, 0, none⟩), u 5, u 6, u 7, u 8, u 9, u 10, u 11, u 12, u 13, u 14, u 15, u 16, u 17, u 18, u 19, u 20, u 21, u 22, u 23, u 24, u 25, u 26, u 27, u 28, u 29, u 30, u 31, u 32, u 33, u 34, u 35, u 36, u 37, u 38, u 39, u 40], defers := rs.map mark } ∧ k = (pres td.reverse).length ∧ Hid (PSt W w.heap.size tb rs out td ao ax co cx) ∧ Hid (out ++ pres td.reverse = pre p) ∧ Hid (∀ x ∈ td, x ∈ pre p) ∧ Hid (Below w.heap.size w W)) (pre p).length ?_ ?_
  · refine ⟨fun i => if i = 9 then .agg #[.string ⟨p.kind.toArray⟩, .string ⟨p.text.toArray⟩, .int .i64 p.lo, .int .i64 p.hi, .slice p.a p.kids.length p.c] else if i = 10 then .slice (some ⟨w.heap.size + 1, 0, none⟩) 1 1 else undef, [], [p], none, some ⟨w.heap.size + 1, 0, none⟩, 0, 1, w.heap.size + 1 + 1, [], by first | rfl | trace_state, ?_, ?_, ?_, ?_, ?_⟩
    · simp [pres]
    · refine Lib.hid ⟨?_, by omega, Own.nil _ _ _ _, ?_, fun h => by omega, Marks.nil _ _⟩
      · exact Blk.new (by simp)
      · refine ⟨by simp [PartD.len], .inr ⟨_, 0, _, rfl, by omega, ((Blk.new (g := w.heap.size + 1) (by simp)).alloc _), by simp, by unfold maxLen; omega, by simp, ?_⟩⟩
        simp [PartD.cells_eq]
    · exact Lib.hid (by simp [pres])
    · exact Lib.hid (fun x hx => by simp at hx; subst hx; exact Hmem.out)
    · exact Lib.hid (((below_a1 w _).alloc (by simp) _).alloc (by simp; omega) _)
  · rintro gk a' W ⟨u, out, td, ao, ax, co, cx, tb, rs, rfl, rfl, hst, heq, hall, hb⟩ J K hJ hK
    have hbt := hst.out.bt.cell 0
    simp only [List.getElem?_toArray, List.getElem?_cons_zero] at hbt
    have hle : td.length ≤ 1048576 := by
      have h1 := pres_len td.reverse
      have h2 := congrArg List.length heq.out
      rw [List.length_append] at h2; rw [List.length_reverse] at h1; omega
    have hlo : out.length ≤ 1048576 := by
      have h2 := congrArg List.length heq.out
      rw [List.length_append] at h2; omega
    rcases List.eq_nil_or_concat td with rfl | ⟨td, x, rfl⟩
    · have he : out = pre p := by have := heq.out; simpa [pres] using this
      subst he
      simp only [List.length_nil] at hbt
      have HST := Lib.hid hst.out
      clear heq hst
      go_wp2_with fail
      simp only [NoPan]
      unfold bodyPostM
      refine leavesM (B := w.heap.size) (fun W' => Below w.heap.size w W' ∧ Own W' w.heap.size 24 5 ao (pre p).length co ((pre p).flatMap PartD.cells)) (fun W' r hC hr hW => ⟨hC.1.trans (belowK_b (w := w) (Nat.le_refl _) W' r _ _ hr hW rfl rfl), own_abide hC.2 (grownBy_putObj' W' r _) (fun q e => by cases e; exact ⟨_, hW, rfl⟩)⟩) (fun W' hC => ?_) rs W HST.out.mks ⟨hb.out, HST.out.o⟩
      exact ⟨_, results_tmp rfl _ _ _, _, rfl, hC.1, ao, co, rfl, hC.2.row⟩
    · rw [List.concat_eq_append] at *
      have hx : (td ++ [x])[td.length]? = some x := by simp
      have hle' := hst.out.t.le
      obtain ⟨b, off, rfl, c0, c1, c2, c3, c4⟩ := part_at (i := td.length) hst.out.t.row hx
      have htf : W.frozen? ⟨tb, 0, none⟩ = false := hst.out.bt.free 0
      simp only [List.length_append, List.length_singleton] at hbt hle hle'
      clear hx
      go_wp2_with fail
      obtain ⟨w4, hw4⟩ : ∃ w4, w4 = W.alloc (.cells #[.string ⟨x.kind.toArray⟩, .string ⟨x.text.toArray⟩, .int .i64 x.lo, .int .i64 x.hi, .slice x.a x.kids.length x.c] 24) := ⟨_, rfl⟩
      have hx4 : Blk w4 W.heap.size #[.string ⟨x.kind.toArray⟩, .string ⟨x.text.toArray⟩, .int .i64 x.lo, .int .i64 x.hi, .slice x.a x.kids.length x.c] 24 := by rw [hw4]; exact Blk.new rfl
      have hb4 : Below W.heap.size W w4 := by rw [hw4]; exact below_a1 W _
      have hs4 : w4.heap.size = W.heap.size + 1 := by rw [hw4]; simp
      rw [← hw4]
      clear hw4
      obtain ⟨xb, hxb⟩ : ∃ xb, xb = W.heap.size := ⟨_, rfl⟩
      rw [← hxb] at hx4 ⊢
      have hp4 := hst.out.ext hb4
      have htb := hst.out.bt.lt
      have hwW : w.heap.size ≤ W.heap.size := hb.out.size
      have hxo : some xb ≠ rowOf ao co := own_new hst.out.o (by omega)
      have hne : xb ≠ tb := by omega
      have hB4 := hb.out.trans (hb4.mono hb.out.size)
      have HX4 := Lib.hid hx4
      have HP4 := Lib.hid hp4
      have Hne := Lib.hid (And.intro hne (And.intro hxo hxb))
      have HB4 := Lib.hid hB4
      have Hb4 := Lib.hid hb4
      have x0 : w4.cell? ⟨xb, 0, none⟩ = some (.string ⟨x.kind.toArray⟩) := hx4.cell 0
      have x1 : w4.cell? ⟨xb, 1, none⟩ = some (.string ⟨x.text.toArray⟩) := hx4.cell 1
      have x2 : w4.cell? ⟨xb, 2, none⟩ = some (.int .i64 x.lo) := hx4.cell 2
      have x3 : w4.cell? ⟨xb, 3, none⟩ = some (.int .i64 x.hi) := hx4.cell 3
      have x4 : w4.cell? ⟨xb, 4, none⟩ = some (.slice x.a x.kids.length x.c) := hx4.cell 4
      have t0 : w4.cell? ⟨tb, 0, none⟩ = some (.slice (some ⟨b, off, none⟩) (td.length + 1) cx) := below_ext hb4 hbt
      have HBd : Hid (Below w4.heap.size w4 (w4.drew.alloc (.cells #[.string ⟨x.kind.toArray⟩, .string ⟨x.text.toArray⟩, .int .i64 x.lo, .int .i64 x.hi, .slice x.a x.kids.length x.c] 24))) := Lib.hid (below_a1 w4 _).drew
      have HOd : Hid (Own (w4.drew.alloc (.cells #[.string ⟨x.kind.toArray⟩, .string ⟨x.text.toArray⟩, .int .i64 x.lo, .int .i64 x.hi, .slice x.a x.kids.length x.c] 24)) w.heap.size 24 5 ao out.length co (out.flatMap PartD.cells)) := Lib.hid (hp4.o.ext HBd.out)
      have u0 := below_ext HBd.out x0
      have u1 := below_ext HBd.out x1
      have u2 := below_ext HBd.out x2
      have u3 := below_ext HBd.out x3
      have u4 := below_ext HBd.out x4
      have ut := below_ext HBd.out t0
      have ut2 : (w4.alloc (.cells #[.string ⟨x.kind.toArray⟩, .string ⟨x.text.toArray⟩, .int .i64 x.lo, .int .i64 x.hi, .slice x.a x.kids.length x.c] 24)).cell? ⟨tb, 0, none⟩ = some (.slice (some ⟨b, off, none⟩) (td.length + 1) cx) := ut
      have hw4s : w.heap.size ≤ w4.heap.size := hB4.size
      have hcx : td.length ≤ cx := by omega
      have htx := hst.out.t.row.1
      clear hs4 hxb hx4 hp4 hne hxo hB4 hb4 c0 c1 c2 c3 c4 hbt htf hst
      refine Code.wp_mono (Q := Exit.then (fun a' w' => a'.defers = rs.map mark ∧ a'.tmps.size = 41 ∧ a'.tmps.getD 0 undef = .agg #[.string ⟨p.kind.toArray⟩, .string ⟨p.text.toArray⟩, .int .i64 p.lo, .int .i64 p.hi, .slice p.a p.kids.length p.c] ∧ a'.tmps.getD 1 undef = .pointer (some ⟨w.heap.size, 0, none⟩) ∧ a'.tmps.getD 2 undef = .slice none 0 0 ∧ a'.tmps.getD 4 undef = .pointer (some ⟨tb, 0, none⟩) ∧ a'.tmps.getD 6 undef = .pointer (some ⟨xb, 0, none⟩) ∧ ∃ a5 c5, a'.tmps.getD 3 undef = .slice a5 (out.length + 1) c5 ∧ Blk w' xb #[.string ⟨x.kind.toArray⟩, .string ⟨x.text.toArray⟩, .int .i64 x.lo, .int .i64 x.hi, .slice x.a x.kids.length x.c] 24 ∧ PSt w' w.heap.size tb rs (out ++ [x]) td a5 (some ⟨b, off, none⟩) c5 cx ∧ Below w.heap.size w w' ∧ w4.heap.size ≤ w'.heap.size) (fun _ _ _ => False)) ?_ ?_
      · rintro e ⟨tm, df⟩ w6 hpost
        cases e <;> first | exact hpost.elim | skip
        obtain ⟨rfl, hsz, h0, h1, h2, h4, h6, a5, c5, h3, hX6, hP6, hB6, hs6⟩ := hpost
        obtain ⟨y, hy, rfl⟩ := lay41 tm hsz
        simp only [← hy] at h0 h1 h2 h3 h4 h6
        simp only [h0, h1, h2, h3, h4, h6]
        clear hsz h0 h1 h2 h3 h4 h6 hy u0 u1 u2 u3 u4 ut ut2 x0 x1 x2 x3 x4 t0
        have z4 : w6.cell? ⟨xb, 4, none⟩ = some (.slice x.a x.kids.length x.c) := hX6.cell 4
        have HP6 := Lib.hid hP6
        have HB6 := Lib.hid hB6
        clear hX6 hP6 hB6 HX4 HP4 HB4 HBd HOd
        go_wp2_with fail
        refine (backP_any x.a x.kids.length x.c w6).mono ?_
        rintro e w7 ⟨rfl, rfl⟩
        go_wp2_with fail
        have hPx := HP.out x (hall.out x (by simp))
        have hks : x.kids.length ≤ 1048576 := by
          have h1 := weight_pre x
          have h2 := kids_le x.kids
          have h3 := congrArg weight heq.out
          rw [List.reverse_append, pres_app, weight_app, weight_app] at h3
          simp only [List.reverse_cons, List.reverse_nil, List.nil_append, pres, List.append_nil] at h3
          omega
        generalize hW9 : World.alloc w6 _ = W9
        have hb9 : Below w6.heap.size w6 W9 := by subst hW9; exact below_a1 _ _
        have hs9 : W9.heap.size = w6.heap.size + 1 := by subst hW9; simp
        have hbs9 : W9.cell? ⟨w6.heap.size, 0, none⟩ = some (.slice x.a x.kids.length x.c) := by subst hW9; exact (cell_new rfl).trans rfl
        have hbk9 : Hid (Blk W9 w6.heap.size #[.slice x.a x.kids.length x.c] 22) := by subst hW9; exact Lib.hid (Blk.new rfl)
        clear hW9
        have hP9 := HP6.out.ext hb9
        have HP9 := Lib.hid hP9
        have HB9 := Lib.hid (HB6.out.trans (hb9.mono HB6.out.size))
        have HPx := Lib.hid hPx
        have Hb9 := Lib.hid hb9
        have Hbs9 := Lib.hid hbs9
        have HBs9 : Hid (Blk W9 w6.heap.size #[.slice x.a x.kids.length x.c] 22) := hbk9
        have hws9 := HB9.out.size
        clear hP9 hPx hb9 hbs9 z4
        have HKb : Hid (∀ (W : World) (l : Nat) (o o' : Obj), W9.heap.size ≤ l → W.heap[l]? = some o → o.isCells = false → o.isWalk = false → KpS w.heap.size w6.heap.size W (W.putObj l o')) := Lib.hid (kpS_b (w := W9) hws9 (by omega))
        refine (wpIn_wide (n := 9)).1 ?_
        refine wpIn_rangeFunc_ownH (a := ?a) rfl (by decide) (gf := 62) (lb := #[.pointer (some ⟨w6.heap.size, 0, none⟩)]) rfl trivial (enters_of Try.func62 (by kernel_rfl) rfl)
          (backP_stops Fence.wide 8 trivial rfl (by decide) w6.heap.size x.a x.c x.kids w W9 (by omega) (by omega) Hbs9.out HPx.out.row HB9.out) (fun h k => h.trans k) HKb.out (Below.refl _ _) (fun _ => rfl)
          (fun pre W' => (∃ ax cx, PSt W' w.heap.size tb rs (out ++ [x]) (td ++ pre.map (kidOf x.kids)) a5 ax c5 cx) ∧ Below w.heap.size w W' ∧ Blk W' w6.heap.size #[.slice x.a x.kids.length x.c] 22) (fun _ _ _ => False)
          (fun pre X Y row hs hg hr => ⟨by obtain ⟨ax, cx, h⟩ := hs.1; exact ⟨ax, cx, h.abide hg (fun r e => ⟨fun hr2 => by have h1 := HP9.out.mks.lt hr2; have h2 := (hr r e).1; omega, (hr r e).2⟩)⟩, hs.2.1.grown hg hs.2.1.size (fun k e => by have := (hr k e).1; omega), blk_abide hs.2.2 hg fun r e => (hr r e).2⟩)
          (fun _ _ _ _ _ hs _ _ => hs) ⟨⟨_, _, by simpa using HP9.out⟩, HB9.out, HBs9.out⟩
          (fun x' a' W' => ∃ (kb : Nat) (av : Option Addr) (n cv : Nat), a' = { tmps := (((#[31, 32] : Array Tmp).zip #[Value.int .i64 (x'.1 : Int), (kidOf x.kids x').val]).foldl (fun t (p, v) => t.setIfInBounds p v) (?a : Act).tmps).setIfInBounds 8 (.pointer (some ⟨kb, 0, none⟩)), defers := [] } ∧ Blk W' kb #[.string ⟨(kidOf x.kids x').kind.toArray⟩, .string ⟨(kidOf x.kids x').text.toArray⟩, .int .i64 (kidOf x.kids x').lo, .int .i64 (kidOf x.kids x').hi, .slice (kidOf x.kids x').a (kidOf x.kids x').kids.length (kidOf x.kids x').c] 24 ∧ Blk W' tb #[.slice av n cv] 22 ∧ some kb ≠ rowOf av cv)
          (fun x' a' s X Y row hs hg hr => by obtain ⟨kb, av, n, cv, h1, h2, h3, h4⟩ := hs; exact ⟨kb, av, n, cv, h1, blk_abide h2 hg fun r e => (hr r e).2, blk_abide h3 hg fun r e => (hr r e).2, h4⟩) ?assign ?body ?done ?stop
        case assign =>
          rintro l pre x' W' K ⟨⟨ax, cx, hst⟩, hB, hbs⟩ hK
          simp only [List.setIfInBounds_toArray, List.set_cons_zero, List.set_cons_succ, List.zip_toArray, List.zip_cons_cons, List.zip_nil_right, List.foldl_toArray, List.foldl_cons, List.foldl_nil] at hK ⊢
          rw [PartD.val_eq] at hK ⊢
          have Hst := Lib.hid hst
          have HB := Lib.hid hB
          have Hbs := Lib.hid hbs
          have HK := Lib.hid hK
          clear hst hB hbs hK
          gi_wp2
          have hbn := below_a1 W' (.cells #[.string ⟨(kidOf x.kids x').kind.toArray⟩, .string ⟨(kidOf x.kids x').text.toArray⟩, .int .i64 (kidOf x.kids x').lo, .int .i64 (kidOf x.kids x').hi, .slice (kidOf x.kids x').a (kidOf x.kids x').kids.length (kidOf x.kids x').c] 24)
          exact HK.out _ _ (keeps_ext hbn) ⟨hbn.mono HB.out.size, (hbn.block _ Hbs.out.lt)⟩ ⟨⟨ax, cx, Hst.out.ext hbn⟩, HB.out.trans (hbn.mono HB.out.size), Hbs.out.ext hbn⟩ ⟨W'.heap.size, ax, _, cx, rfl, Blk.new rfl, Hst.out.bt.ext hbn, own_new Hst.out.t (Nat.le_refl _)⟩
        case stop =>
          rintro D c pre W _ _ h
          exact h.elim
        case body =>
          rintro l pre x' a' V hl hlp ⟨⟨ax, cx, hst⟩, hB, hbs⟩ ⟨kb, av, n, cv, rfl, hk, hbt, hne⟩ hlt
          simp only [List.setIfInBounds_toArray, List.set_cons_zero, List.set_cons_succ, List.zip_toArray, List.zip_cons_cons, List.zip_nil_right, List.foldl_toArray, List.foldl_cons, List.foldl_nil]
          rw [PartD.val_eq]
          have Htd : Hid (∀ z, td ++ (pre ++ [x']).map (kidOf x.kids) = z ↔ (td ++ pre.map (kidOf x.kids)) ++ [kidOf x.kids x'] = z) := Lib.hid (by simp)
          have htl : (td ++ pre.map (kidOf x.kids)).length ≤ 2097152 := by simp; omega
          generalize kidOf x.kids x' = k at *
          generalize hT : td ++ pre.map (kidOf x.kids) = T at *
          clear hT
          obtain ⟨rfl, rfl, rfl⟩ : ax = av ∧ T.length = n ∧ cx = cv := by
            have h1 := hst.bt
            unfold Blk at h1 hbt
            rw [h1] at hbt
            simpa using hbt
          have hG : PG w V V W9.heap.size tb kb w6.heap.size (.slice ax T.length cx) #[.string ⟨k.kind.toArray⟩, .string ⟨k.text.toArray⟩, .int .i64 k.lo, .int .i64 k.hi, .slice k.a k.kids.length k.c] #[.slice x.a x.kids.length x.c] rs (out ++ [x]) a5 c5 ax T.length cx (T.flatMap PartD.cells) :=
            ⟨hst.bt, hst.htb, hst.o, hst.t, hst.ap, hst.mks, hk, hne, hbs, by have := HP6.out.bt.lt; omega, hB, KeepsFrom.refl _ _, Below.refl _ _⟩
          have HG := Lib.hid hG
          have t0 : V.cell? ⟨tb, 0, none⟩ = some (.slice ax T.length cx) := hG.bt.cell 0
          have k0 : V.cell? ⟨kb, 0, none⟩ = some (.string ⟨k.kind.toArray⟩) := hG.k.cell 0
          have k1 : V.cell? ⟨kb, 1, none⟩ = some (.string ⟨k.text.toArray⟩) := hG.k.cell 1
          have k2 : V.cell? ⟨kb, 2, none⟩ = some (.int .i64 k.lo) := hG.k.cell 2
          have k3 : V.cell? ⟨kb, 3, none⟩ = some (.int .i64 k.hi) := hG.k.cell 3
          have k4 : V.cell? ⟨kb, 4, none⟩ = some (.slice k.a k.kids.length k.c) := hG.k.cell 4
          have HBd : Hid (Below V.heap.size V (V.drew.alloc (.cells #[.string ⟨#[]⟩, .string ⟨#[]⟩, .int .i64 0, .int .i64 0, .slice none 0 0] 24))) := Lib.hid (below_a1 V _).drew
          have u0 := below_ext HBd.out k0
          have u1 := below_ext HBd.out k1
          have u2 := below_ext HBd.out k2
          have u3 := below_ext HBd.out k3
          have u4 := below_ext HBd.out k4
          have ut := below_ext HBd.out t0
          have ut2 : (V.alloc (.cells #[.string ⟨#[]⟩, .string ⟨#[]⟩, .int .i64 0, .int .i64 0, .slice none 0 0] 24)).cell? ⟨tb, 0, none⟩ = some (.slice ax T.length cx) := ut
          have hTT : (T.length : Int) < (T.length : Int) + 1 := by omega
          have HGd := Lib.hid (hG.ext HBd.out)
          have hwV : w.heap.size ≤ V.heap.size := hB.size
          clear hst hB hbs hk hbt hne hG
          gi_wp2_with fail
          refine round_region_held (S := fun w' => w'.cell? ⟨kb, 0, none⟩ = some (.string ⟨k.kind.toArray⟩) ∧ w'.cell? ⟨kb, 1, none⟩ = some (.string ⟨k.text.toArray⟩) ∧ w'.cell? ⟨kb, 2, none⟩ = some (.int .i64 k.lo) ∧ w'.cell? ⟨kb, 3, none⟩ = some (.int .i64 k.hi) ∧ w'.cell? ⟨kb, 4, none⟩ = some (.slice k.a k.kids.length k.c)) (by kernel_rfl) (fun ⟨_, _, h⟩ => h) (by kernel_rfl) ?_ (fun hHeld => ?_)
          · first | exact ⟨k0, k1, k2, k3, k4⟩ | exact hHeld
          refine wpAnyH_take (i := 1) (oi := ⟨some 34, _, _, _, _, _⟩) (v := ?_) rfl (by kernel_rfl) (by kernel_rfl) (by kernel_rfl) (fun _ _ _ h => h) (Or.inl ⟨by rfl, ?_⟩) (by assumption) ?_; rotate_left; focus (intro w hSw; (try dsimp only at hSw); first | (go_simp; done) | (go_simp; with_reducible rfl))
          try simp only [Act.put]
          try simp only [List.setIfInBounds_toArray]
          try simp only [List.set_cons_succ, List.set_cons_zero]
          refine wpAnyH_ready (rs := [0, 3]) (by kernel_rfl) (by simp) ?_
          refine AllReadyH.cons (i := 0) (o := ⟨some 33, _, _, _, _, _⟩) rfl (fun K hK => ?_) ?_
          · go_simp
            refine hK.out _ _ ?_ (fun hHeld => ?_)
            · first | exact ⟨k0, k1, k2, k3, k4⟩ | exact hHeld
            try simp only [Act.put]
            try simp only [List.setIfInBounds_toArray]
            try simp only [List.set_cons_succ, List.set_cons_zero]
            refine wpAnyH_take (i := 2) (oi := ⟨some 35, _, _, _, _, _⟩) (v := ?_) rfl (by kernel_rfl) (by kernel_rfl) (by kernel_rfl) (fun _ _ _ h => h) (Or.inl ⟨by rfl, ?_⟩) (by assumption) ?_; rotate_left; focus (intro w hSw; (try dsimp only at hSw); first | (go_simp; done) | (go_simp; with_reducible rfl))
            try simp only [Act.put]
            try simp only [List.setIfInBounds_toArray]
            try simp only [List.set_cons_succ, List.set_cons_zero]
            refine wpAnyH_ready (rs := [3]) (by kernel_rfl) (by simp) ?_
            refine AllReadyH.cons (i := 3) (o := ⟨some 36, _, _, _, _, _⟩) rfl (fun K hK => ?_) ?_
            · go_simp
              refine hK.out _ _ ?_ (fun hHeld => ?_)
              · exact ⟨u0, u1, u2, u3, u4⟩
              try simp only [Act.put]
              try simp only [List.setIfInBounds_toArray]
              try simp only [List.set_cons_succ, List.set_cons_zero]
              refine wpAnyH_ready (rs := [4]) (by kernel_rfl) (by simp) ?_
              refine AllReadyH.cons (i := 4) (o := ⟨some 37, _, _, _, _, _⟩) rfl (fun K hK => ?_) ?_
              · refine step_append_Own rfl (.tmp 33) (.tmp 36) 22 rfl w.heap.size 24 _ 5 72 Try.underlying22 infoPart2 rfl (by decide) ax T.length cx _ (by simp [go_sem]) HGd.out.t _ 1 1 [.string ⟨#[]⟩, .string ⟨#[]⟩, .int .i64 0, .int .i64 0, .slice none 0 0] (by simp [go_sem]; rfl) (by exact Row.new1 (by first | rfl | simp) rfl rfl) (by intro u hu; simp at hu; rcases hu with rfl | rfl | rfl <;> rfl) (by unfold maxLen; omega) (by omega) (by simp; omega) ?_
                intro a7 c7 w5 hown5 hg5 hbk5
                have hG5 := HGd.out.grow hown5 hg5 hbk5
                obtain ⟨g, go, rfl⟩ := hown5.addr (by have := hown5.le; omega)
                have H5 := Lib.hid hG5
                have y0 : w5.cell? ⟨kb, 0, none⟩ = some (.string ⟨k.kind.toArray⟩) := hG5.k.cell 0
                have y1 : w5.cell? ⟨kb, 1, none⟩ = some (.string ⟨k.text.toArray⟩) := hG5.k.cell 1
                have y2 : w5.cell? ⟨kb, 2, none⟩ = some (.int .i64 k.lo) := hG5.k.cell 2
                have y3 : w5.cell? ⟨kb, 3, none⟩ = some (.int .i64 k.hi) := hG5.k.cell 3
                have y4 : w5.cell? ⟨kb, 4, none⟩ = some (.slice k.a k.kids.length k.c) := hG5.k.cell 4
                have yf : w5.frozen? ⟨tb, 0, none⟩ = false := hG5.bt.free 0
                have yt : w5.cell? ⟨tb, 0, none⟩ = some (.slice ax T.length cx) := hG5.bt.cell 0
                obtain ⟨⟨cz0, cz1, cz2, cz3, cz4⟩, ⟨fz0, fz1, fz2, fz3, fz4⟩, hgt⟩ := hG5.slots
                clear hg5 hbk5 hown5 hG5
                refine hK.out _ _ ?_ (fun hHeld => ?_)
                · exact ⟨y0, y1, y2, y3, y4⟩
                try simp only [Act.put]
                try simp only [List.setIfInBounds_toArray]
                try simp only [List.set_cons_succ, List.set_cons_zero]
                refine wpAnyH_take (i := 5) (oi := ⟨some 38, _, _, _, _, _⟩) (v := ?_) rfl (by kernel_rfl) (by kernel_rfl) (by kernel_rfl) (fun _ _ _ h => h) (Or.inl ⟨by rfl, ?_⟩) (by assumption) ?_; rotate_left; focus (intro w hSw; (try dsimp only at hSw); first | (go_simp; done) | (go_simp; with_reducible rfl))
                try simp only [Act.put]
                try simp only [List.setIfInBounds_toArray]
                try simp only [List.set_cons_succ, List.set_cons_zero]
                refine wpAnyH_ready (rs := [6, 7]) (by kernel_rfl) (by simp) ?_
                refine AllReadyH.cons (i := 6) (o := ⟨none, _, _, _, _, _⟩) rfl (fun K hK => ?_) ?_
                · go_simp
                  refine hK.out _ _ ?_ (fun hHeld => ?_)
                  · exact (H5.out.put5 (x := k)).five
                  try simp only [Act.put]
                  try simp only [List.setIfInBounds_toArray]
                  try simp only [List.set_cons_succ, List.set_cons_zero]
                  refine wpAnyH_ready (rs := [7]) (by kernel_rfl) (by simp) ?_
                  refine AllReadyH.cons (i := 7) (o := ⟨none, _, _, _, _, _⟩) rfl (fun K hK => ?_) ?_
                  · go_simp
                    refine hK.out _ _ ?_ (fun hHeld => ?_)
                    · exact ((H5.out.put5 (x := k)).setTb (.slice (some ⟨g, go, none⟩) (T.length + 1) c7)).five
                    try simp only [Act.put]
                    try simp only [List.setIfInBounds_toArray]
                    try simp only [List.set_cons_succ, List.set_cons_zero]
                    refine wpAnyH_done (by kernel_rfl) ?_ _
                    have hfin := ((H5.out.put5 (x := k)).setTb (.slice (some ⟨g, go, none⟩) (T.length + 1) c7)).fin7 rfl HG.out.bs
                    rw [← (Htd.out _).2 rfl] at hfin
                    exact hfin
                  exact AllReadyH.nil
                refine AllReadyH.cons (i := 7) (o := ⟨none, _, _, _, _, _⟩) rfl (fun K hK => ?_) ?_
                · go_simp
                  refine hK.out _ _ ?_ (fun hHeld => ?_)
                  · exact (H5.out.setTb (.slice (some ⟨g, go, none⟩) (T.length + 1) c7)).five
                  try simp only [Act.put]
                  try simp only [List.setIfInBounds_toArray]
                  try simp only [List.set_cons_succ, List.set_cons_zero]
                  refine wpAnyH_ready (rs := [6]) (by kernel_rfl) (by simp) ?_
                  refine AllReadyH.cons (i := 6) (o := ⟨none, _, _, _, _, _⟩) rfl (fun K hK => ?_) ?_
                  · go_simp
                    refine hK.out _ _ ?_ (fun hHeld => ?_)
                    · exact ((H5.out.setTb (.slice (some ⟨g, go, none⟩) (T.length + 1) c7)).put5 (x := k)).five
                    try simp only [Act.put]
                    try simp only [List.setIfInBounds_toArray]
                    try simp only [List.set_cons_succ, List.set_cons_zero]
                    refine wpAnyH_done (by kernel_rfl) ?_ _
                    have hfin := ((H5.out.setTb (.slice (some ⟨g, go, none⟩) (T.length + 1) c7)).put5 (x := k)).fin7 rfl HG.out.bs
                    rw [← (Htd.out _).2 rfl] at hfin
                    exact hfin
                  exact AllReadyH.nil
                exact AllReadyH.nil
              exact AllReadyH.nil
            exact AllReadyH.nil
          refine AllReadyH.cons (i := 3) (o := ⟨some 36, _, _, _, _, _⟩) rfl (fun K hK => ?_) ?_
          · go_simp
            refine hK.out _ _ ?_ (fun hHeld => ?_)
            · exact ⟨u0, u1, u2, u3, u4⟩
            try simp only [Act.put]
            try simp only [List.setIfInBounds_toArray]
            try simp only [List.set_cons_succ, List.set_cons_zero]
            refine wpAnyH_ready (rs := [0]) (by kernel_rfl) (by simp) ?_
            refine AllReadyH.cons (i := 0) (o := ⟨some 33, _, _, _, _, _⟩) rfl (fun K hK => ?_) ?_
            · go_simp
              refine hK.out _ _ ?_ (fun hHeld => ?_)
              · first | exact ⟨k0, k1, k2, k3, k4⟩ | exact hHeld
              try simp only [Act.put]
              try simp only [List.setIfInBounds_toArray]
              try simp only [List.set_cons_succ, List.set_cons_zero]
              refine wpAnyH_take (i := 2) (oi := ⟨some 35, _, _, _, _, _⟩) (v := ?_) rfl (by kernel_rfl) (by kernel_rfl) (by kernel_rfl) (fun _ _ _ h => h) (Or.inl ⟨by rfl, ?_⟩) (by assumption) ?_; rotate_left; focus (intro w hSw; (try dsimp only at hSw); first | (go_simp; done) | (go_simp; with_reducible rfl))
              try simp only [Act.put]
              try simp only [List.setIfInBounds_toArray]
              try simp only [List.set_cons_succ, List.set_cons_zero]
              refine wpAnyH_ready (rs := [4]) (by kernel_rfl) (by simp) ?_
              refine AllReadyH.cons (i := 4) (o := ⟨some 37, _, _, _, _, _⟩) rfl (fun K hK => ?_) ?_
              · refine step_append_Own rfl (.tmp 33) (.tmp 36) 22 rfl w.heap.size 24 _ 5 72 Try.underlying22 infoPart2 rfl (by decide) ax T.length cx _ (by simp [go_sem]) HGd.out.t _ 1 1 [.string ⟨#[]⟩, .string ⟨#[]⟩, .int .i64 0, .int .i64 0, .slice none 0 0] (by simp [go_sem]; rfl) (by exact Row.new1 (by first | rfl | simp) rfl rfl) (by intro u hu; simp at hu; rcases hu with rfl | rfl | rfl <;> rfl) (by unfold maxLen; omega) (by omega) (by simp; omega) ?_
                intro a7 c7 w5 hown5 hg5 hbk5
                have hG5 := HGd.out.grow hown5 hg5 hbk5
                obtain ⟨g, go, rfl⟩ := hown5.addr (by have := hown5.le; omega)
                have H5 := Lib.hid hG5
                have y0 : w5.cell? ⟨kb, 0, none⟩ = some (.string ⟨k.kind.toArray⟩) := hG5.k.cell 0
                have y1 : w5.cell? ⟨kb, 1, none⟩ = some (.string ⟨k.text.toArray⟩) := hG5.k.cell 1
                have y2 : w5.cell? ⟨kb, 2, none⟩ = some (.int .i64 k.lo) := hG5.k.cell 2
                have y3 : w5.cell? ⟨kb, 3, none⟩ = some (.int .i64 k.hi) := hG5.k.cell 3
                have y4 : w5.cell? ⟨kb, 4, none⟩ = some (.slice k.a k.kids.length k.c) := hG5.k.cell 4
                have yf : w5.frozen? ⟨tb, 0, none⟩ = false := hG5.bt.free 0
                have yt : w5.cell? ⟨tb, 0, none⟩ = some (.slice ax T.length cx) := hG5.bt.cell 0
                obtain ⟨⟨cz0, cz1, cz2, cz3, cz4⟩, ⟨fz0, fz1, fz2, fz3, fz4⟩, hgt⟩ := hG5.slots
                clear hg5 hbk5 hown5 hG5
                refine hK.out _ _ ?_ (fun hHeld => ?_)
                · exact ⟨y0, y1, y2, y3, y4⟩
                try simp only [Act.put]
                try simp only [List.setIfInBounds_toArray]
                try simp only [List.set_cons_succ, List.set_cons_zero]
                refine wpAnyH_take (i := 5) (oi := ⟨some 38, _, _, _, _, _⟩) (v := ?_) rfl (by kernel_rfl) (by kernel_rfl) (by kernel_rfl) (fun _ _ _ h => h) (Or.inl ⟨by rfl, ?_⟩) (by assumption) ?_; rotate_left; focus (intro w hSw; (try dsimp only at hSw); first | (go_simp; done) | (go_simp; with_reducible rfl))
                try simp only [Act.put]
                try simp only [List.setIfInBounds_toArray]
                try simp only [List.set_cons_succ, List.set_cons_zero]
                refine wpAnyH_ready (rs := [6, 7]) (by kernel_rfl) (by simp) ?_
                refine AllReadyH.cons (i := 6) (o := ⟨none, _, _, _, _, _⟩) rfl (fun K hK => ?_) ?_
                · go_simp
                  refine hK.out _ _ ?_ (fun hHeld => ?_)
                  · exact (H5.out.put5 (x := k)).five
                  try simp only [Act.put]
                  try simp only [List.setIfInBounds_toArray]
                  try simp only [List.set_cons_succ, List.set_cons_zero]
                  refine wpAnyH_ready (rs := [7]) (by kernel_rfl) (by simp) ?_
                  refine AllReadyH.cons (i := 7) (o := ⟨none, _, _, _, _, _⟩) rfl (fun K hK => ?_) ?_
                  · go_simp
                    refine hK.out _ _ ?_ (fun hHeld => ?_)
                    · exact ((H5.out.put5 (x := k)).setTb (.slice (some ⟨g, go, none⟩) (T.length + 1) c7)).five
                    try simp only [Act.put]
                    try simp only [List.setIfInBounds_toArray]
                    try simp only [List.set_cons_succ, List.set_cons_zero]
                    refine wpAnyH_done (by kernel_rfl) ?_ _
                    have hfin := ((H5.out.put5 (x := k)).setTb (.slice (some ⟨g, go, none⟩) (T.length + 1) c7)).fin7 rfl HG.out.bs
                    rw [← (Htd.out _).2 rfl] at hfin
                    exact hfin
                  exact AllReadyH.nil
                refine AllReadyH.cons (i := 7) (o := ⟨none, _, _, _, _, _⟩) rfl (fun K hK => ?_) ?_
                · go_simp
                  refine hK.out _ _ ?_ (fun hHeld => ?_)
                  · exact (H5.out.setTb (.slice (some ⟨g, go, none⟩) (T.length + 1) c7)).five
                  try simp only [Act.put]
                  try simp only [List.setIfInBounds_toArray]
                  try simp only [List.set_cons_succ, List.set_cons_zero]
                  refine wpAnyH_ready (rs := [6]) (by kernel_rfl) (by simp) ?_
                  refine AllReadyH.cons (i := 6) (o := ⟨none, _, _, _, _, _⟩) rfl (fun K hK => ?_) ?_
                  · go_simp
                    refine hK.out _ _ ?_ (fun hHeld => ?_)
                    · exact ((H5.out.setTb (.slice (some ⟨g, go, none⟩) (T.length + 1) c7)).put5 (x := k)).five
                    try simp only [Act.put]
                    try simp only [List.setIfInBounds_toArray]
                    try simp only [List.set_cons_succ, List.set_cons_zero]
                    refine wpAnyH_done (by kernel_rfl) ?_ _
                    have hfin := ((H5.out.setTb (.slice (some ⟨g, go, none⟩) (T.length + 1) c7)).put5 (x := k)).fin7 rfl HG.out.bs
                    rw [← (Htd.out _).2 rfl] at hfin
                    exact hfin
                  exact AllReadyH.nil
                exact AllReadyH.nil
              exact AllReadyH.nil
            exact AllReadyH.nil
          exact AllReadyH.nil
        case done =>
          rintro D ys W' hD hys ⟨⟨ax, cx, hst⟩, hB, hbs⟩ hKd
          rw [hys] at hst
          have hlen : (pres (td ++ x.kids.reverse).reverse).length + 1 = (pres (td ++ [x]).reverse).length := by
            simp [pres_app, pres, pre_eq]
          have hpre : (out ++ [x]) ++ pres (td ++ x.kids.reverse).reverse = pre p := by
            rw [← heq.out]; simp [pres_app, pres, pre_eq]
          have hmem : ∀ z ∈ td ++ x.kids.reverse, z ∈ pre p := fun z hz => by
            rcases List.mem_append.1 hz with hz | hz
            · exact hall.out z (List.mem_append_left _ hz)
            · rw [← hpre]
              exact List.mem_append_right _ (mem_pres (by simp at hz ⊢; first | exact .inl hz | exact .inr hz))
          generalize td ++ x.kids.reverse = T at *
          have v0 : W'.cell? ⟨tb, 0, none⟩ = some (.slice ax T.length cx) := hst.bt.cell 0
          have Hst := Lib.hid hst
          have HB := Lib.hid hB
          have HKd := Lib.hid hKd
          have Hpre := Lib.hid hpre
          have Hmm := Lib.hid hmem
          have Hlen := Lib.hid hlen
          clear hst hB hbs hKd hpre hmem hlen hys
          go_wp2_with fail
          have hbn := below_a1 W' (.cells #[.slice ax T.length cx] 22)
          have hDl := (Array.getElem?_eq_some_iff.1 HKd.out).1
          refine handed41 rfl (pres T.reverse).length (by have := Hlen.out; omega) (fun y' hy' => ?_)
          rw [show y' 0 = .agg #[.string ⟨p.kind.toArray⟩, .string ⟨p.text.toArray⟩, .int .i64 p.lo, .int .i64 p.hi, .slice p.a p.kids.length p.c] from hy' 0, show y' 1 = .pointer (some ⟨w.heap.size, 0, none⟩) from hy' 1, show y' 2 = .slice none 0 0 from hy' 2, show y' 3 = .slice a5 (out.length + 1) c5 from hy' 3, show y' 4 = .pointer (some ⟨W'.heap.size, 0, none⟩) from hy' 4]
          refine hJ _ _ _ ⟨y', out ++ [x], T, a5, ax, c5, cx, W'.heap.size, D :: rs, by rw [List.length_append]; rfl, rfl, ?_, Hpre, Hmm, Lib.hid (HB.out.trans (hbn.mono HB.out.size))⟩
          exact Lib.hid ⟨Blk.new rfl, HB.out.size, Hst.out.o.ext hbn, Hst.out.t.ext hbn, Hst.out.ap, (Hst.out.mks.ext hbn).add (by omega) ((hbn.block D hDl).trans HKd.out) (fun h => by have := HP9.out.mks.lt h; omega)⟩
      refine wp_region_held_drew (S := fun w' => w'.cell? ⟨xb, 0, none⟩ = some (.string ⟨x.kind.toArray⟩) ∧ w'.cell? ⟨xb, 1, none⟩ = some (.string ⟨x.text.toArray⟩) ∧ w'.cell? ⟨xb, 2, none⟩ = some (.int .i64 x.lo) ∧ w'.cell? ⟨xb, 3, none⟩ = some (.int .i64 x.hi) ∧ w'.cell? ⟨xb, 4, none⟩ = some (.slice x.a x.kids.length x.c)) (by kernel_rfl) ?_ (fun hHeld => ?_)
      · exact ⟨x0, x1, x2, x3, x4⟩
      refine wpAnyH_take (i := 0) (oi := ⟨some 21, _, _, _, _, _⟩) (v := ?_) rfl (by kernel_rfl) (by kernel_rfl) (by kernel_rfl) (fun _ _ _ h => h) (Or.inl ⟨by rfl, ?_⟩) (by assumption) ?_; rotate_left; focus (intro w hSw; (try dsimp only at hSw); first | (go_simp; done) | (go_simp; with_reducible rfl))
      try simp only [Act.put]
      try simp only [List.setIfInBounds_toArray]
      try simp only [List.set_cons_succ, List.set_cons_zero]
      refine wpAnyH_take (i := 1) (oi := ⟨some 22, _, _, _, _, _⟩) (v := ?_) rfl (by kernel_rfl) (by kernel_rfl) (by kernel_rfl) (fun _ _ _ h => h) (Or.inl ⟨by rfl, ?_⟩) (by assumption) ?_; rotate_left; focus (intro w hSw; (try dsimp only at hSw); first | (go_simp; done) | (go_simp; with_reducible rfl))
      try simp only [Act.put]
      try simp only [List.setIfInBounds_toArray]
      try simp only [List.set_cons_succ, List.set_cons_zero]
      refine wpAnyH_take (i := 5) (oi := ⟨some 26, _, _, _, _, _⟩) (v := ?_) rfl (by kernel_rfl) (by kernel_rfl) (by kernel_rfl) (fun _ _ _ h => h) (Or.inl ⟨by rfl, ?_⟩) (by assumption) ?_; rotate_left; focus (intro w hSw; (try dsimp only at hSw); first | (go_simp; done) | (go_simp; with_reducible rfl))
      try simp only [Act.put]
      try simp only [List.setIfInBounds_toArray]
      try simp only [List.set_cons_succ, List.set_cons_zero]
      refine wpAnyH_ready (rs := [2, 4]) (by kernel_rfl) (by simp) ?_
      refine AllReadyH.cons (i := 2) (o := ⟨some 23, _, _, _, _, _⟩) rfl (fun K hK => ?_) ?_
      · go_simp
        refine hK.out _ _ ?_ (fun hHeld => ?_)
        · exact ⟨u0, u1, u2, u3, u4⟩
        try simp only [Act.put]
        try simp only [List.setIfInBounds_toArray]
        try simp only [List.set_cons_succ, List.set_cons_zero]
        refine wpAnyH_ready (rs := [3, 4]) (by kernel_rfl) (by simp) ?_
        refine AllReadyH.cons (i := 3) (o := ⟨some 24, _, _, _, _, _⟩) rfl (fun K hK => ?_) ?_
        · refine step_append_Own rfl (.tmp 21) (.tmp 23) 22 rfl w.heap.size 24 _ 5 72 Try.underlying22 infoPart2 rfl (by decide) ao out.length co _ (by simp [go_sem]) HOd.out _ 1 1 x.cells (by simp [go_sem]; rfl) (by exact Row.new1 (by first | rfl | simp) rfl (by rw [PartD.cells_eq])) (part_one x) (by unfold maxLen; omega) (by omega) (by simp; omega) ?_
          intro a5 c5 w5 hown5 hg5 hbk5
          have hP5 := (HP4.out.ext HBd.out).pop hown5 hg5 hbk5
          have hx5 : Blk w5 xb #[.string ⟨x.kind.toArray⟩, .string ⟨x.text.toArray⟩, .int .i64 x.lo, .int .i64 x.hi, .slice x.a x.kids.length x.c] 24 := (HX4.out.ext HBd.out).grown hg5 Hne.out.2.1
          have ht5 := (HP4.out.ext HBd.out).bt.grown hg5 (fun e => own_ne HOd.out (HP4.out.ext HBd.out).bt ne_types e.symm)
          have y0 : w5.cell? ⟨xb, 0, none⟩ = some (.string ⟨x.kind.toArray⟩) := hx5.cell 0
          have y1 : w5.cell? ⟨xb, 1, none⟩ = some (.string ⟨x.text.toArray⟩) := hx5.cell 1
          have y2 : w5.cell? ⟨xb, 2, none⟩ = some (.int .i64 x.lo) := hx5.cell 2
          have y3 : w5.cell? ⟨xb, 3, none⟩ = some (.int .i64 x.hi) := hx5.cell 3
          have y4 : w5.cell? ⟨xb, 4, none⟩ = some (.slice x.a x.kids.length x.c) := hx5.cell 4
          have yt : w5.cell? ⟨tb, 0, none⟩ = some (.slice (some ⟨b, off, none⟩) (td.length + 1) cx) := (ht5.cell 0).trans (by simp)
          have yf : w5.frozen? ⟨tb, 0, none⟩ = false := ht5.free 0
          have H6 := Lib.hid (And.intro (hx5.other (p := ⟨tb, 0, none⟩) Hne.out.1 (.slice (some ⟨b, off, none⟩) td.length cx)) (And.intro hP5 (And.intro (((HB4.out.trans (HBd.out.mono HB4.out.size)).grown hg5 (HB4.out.trans (HBd.out.mono HB4.out.size)).size (HOd.out.rowBase (Nat.le_refl _))).setCell (p := ⟨tb, 0, none⟩) HP4.out.htb (.slice (some ⟨b, off, none⟩) td.length cx)) (by have h1 := hg5.size; have h2 := HBd.out.size; simp at h1 h2 ⊢; omega : w4.heap.size ≤ (w5.setCell ⟨tb, 0, none⟩ (.slice (some ⟨b, off, none⟩) td.length cx)).heap.size))))
          clear hg5 hbk5 hown5 hx5 ht5 hP5
          refine hK.out _ _ ?_ (fun hHeld => ?_)
          · exact ⟨y0, y1, y2, y3, y4⟩
          try simp only [Act.put]
          try simp only [List.setIfInBounds_toArray]
          try simp only [List.set_cons_succ, List.set_cons_zero]
          refine wpAnyH_take (i := 7) (oi := ⟨some 3, _, _, _, _, _⟩) (v := ?_) rfl (by kernel_rfl) (by kernel_rfl) (by kernel_rfl) (fun _ _ _ h => h) (Or.inl ⟨by rfl, ?_⟩) (by assumption) ?_; rotate_left; focus (intro w hSw; (try dsimp only at hSw); first | (go_simp; done) | (go_simp; with_reducible rfl))
          try simp only [Act.put]
          try simp only [List.setIfInBounds_toArray]
          try simp only [List.set_cons_succ, List.set_cons_zero]
          refine wpAnyH_ready (rs := [4]) (by kernel_rfl) (by simp) ?_
          refine AllReadyH.cons (i := 4) (o := ⟨some 25, _, _, _, _, _⟩) rfl (fun K hK => ?_) ?_
          · go_simp
            refine hK.out _ _ ?_ (fun hHeld => ?_)
            · exact hHeld
            try simp only [Act.put]
            try simp only [List.setIfInBounds_toArray]
            try simp only [List.set_cons_succ, List.set_cons_zero]
            refine wpAnyH_take (i := 6) (oi := ⟨some 27, _, _, _, _, _⟩) (v := ?_) rfl (by kernel_rfl) (by kernel_rfl) (by kernel_rfl) (fun _ _ _ h => h) (Or.inl ⟨by rfl, ?_⟩) (by assumption) ?_; rotate_left; focus (intro w hSw; (try dsimp only at hSw); first | (go_simp; done) | (go_simp; with_reducible rfl))
            try simp only [Act.put]
            try simp only [List.setIfInBounds_toArray]
            try simp only [List.set_cons_succ, List.set_cons_zero]
            refine wpAnyH_ready (rs := [8]) (by kernel_rfl) (by simp) ?_
            refine AllReadyH.cons (i := 8) (o := ⟨none, _, _, _, _, _⟩) rfl (fun K hK => ?_) ?_
            · go_simp
              refine hK.out _ _ ?_ (fun hHeld => ?_)
              · exact ⟨H6.out.1.cell 0, H6.out.1.cell 1, H6.out.1.cell 2, H6.out.1.cell 3, H6.out.1.cell 4⟩
              try simp only [Act.put]
              try simp only [List.setIfInBounds_toArray]
              try simp only [List.set_cons_succ, List.set_cons_zero]
              refine wpAnyH_done (by kernel_rfl) ?_ _
              exact ⟨rfl, rfl, rfl, rfl, rfl, rfl, rfl, a5, c5, rfl, H6.out.1, H6.out.2.1, H6.out.2.2.1, H6.out.2.2.2⟩
            exact AllReadyH.nil
          exact AllReadyH.nil
        refine AllReadyH.cons (i := 4) (o := ⟨some 25, _, _, _, _, _⟩) rfl (fun K hK => ?_) ?_
        · go_simp
          refine hK.out _ _ ?_ (fun hHeld => ?_)
          · exact hHeld
          try simp only [Act.put]
          try simp only [List.setIfInBounds_toArray]
          try simp only [List.set_cons_succ, List.set_cons_zero]
          refine wpAnyH_take (i := 6) (oi := ⟨some 27, _, _, _, _, _⟩) (v := ?_) rfl (by kernel_rfl) (by kernel_rfl) (by kernel_rfl) (fun _ _ _ h => h) (Or.inl ⟨by rfl, ?_⟩) (by assumption) ?_; rotate_left; focus (intro w hSw; (try dsimp only at hSw); first | (go_simp; done) | (go_simp; with_reducible rfl))
          try simp only [Act.put]
          try simp only [List.setIfInBounds_toArray]
          try simp only [List.set_cons_succ, List.set_cons_zero]
          refine wpAnyH_ready (rs := [3]) (by kernel_rfl) (by simp) ?_
          refine AllReadyH.cons (i := 3) (o := ⟨some 24, _, _, _, _, _⟩) rfl (fun K hK => ?_) ?_
          · refine step_append_Own rfl (.tmp 21) (.tmp 23) 22 rfl w.heap.size 24 _ 5 72 Try.underlying22 infoPart2 rfl (by decide) ao out.length co _ (by simp [go_sem]) HOd.out _ 1 1 x.cells (by simp [go_sem]; rfl) (by exact Row.new1 (by first | rfl | simp) rfl (by rw [PartD.cells_eq])) (part_one x) (by unfold maxLen; omega) (by omega) (by simp; omega) ?_
            intro a5 c5 w5 hown5 hg5 hbk5
            have hP5 := (HP4.out.ext HBd.out).pop hown5 hg5 hbk5
            have hx5 : Blk w5 xb #[.string ⟨x.kind.toArray⟩, .string ⟨x.text.toArray⟩, .int .i64 x.lo, .int .i64 x.hi, .slice x.a x.kids.length x.c] 24 := (HX4.out.ext HBd.out).grown hg5 Hne.out.2.1
            have ht5 := (HP4.out.ext HBd.out).bt.grown hg5 (fun e => own_ne HOd.out (HP4.out.ext HBd.out).bt ne_types e.symm)
            have y0 : w5.cell? ⟨xb, 0, none⟩ = some (.string ⟨x.kind.toArray⟩) := hx5.cell 0
            have y1 : w5.cell? ⟨xb, 1, none⟩ = some (.string ⟨x.text.toArray⟩) := hx5.cell 1
            have y2 : w5.cell? ⟨xb, 2, none⟩ = some (.int .i64 x.lo) := hx5.cell 2
            have y3 : w5.cell? ⟨xb, 3, none⟩ = some (.int .i64 x.hi) := hx5.cell 3
            have y4 : w5.cell? ⟨xb, 4, none⟩ = some (.slice x.a x.kids.length x.c) := hx5.cell 4
            have yt : w5.cell? ⟨tb, 0, none⟩ = some (.slice (some ⟨b, off, none⟩) (td.length + 1) cx) := (ht5.cell 0).trans (by simp)
            have yf : w5.frozen? ⟨tb, 0, none⟩ = false := ht5.free 0
            have H6 := Lib.hid (And.intro (hx5.other (p := ⟨tb, 0, none⟩) Hne.out.1 (.slice (some ⟨b, off, none⟩) td.length cx)) (And.intro hP5 (And.intro (((HB4.out.trans (HBd.out.mono HB4.out.size)).grown hg5 (HB4.out.trans (HBd.out.mono HB4.out.size)).size (HOd.out.rowBase (Nat.le_refl _))).setCell (p := ⟨tb, 0, none⟩) HP4.out.htb (.slice (some ⟨b, off, none⟩) td.length cx)) (by have h1 := hg5.size; have h2 := HBd.out.size; simp at h1 h2 ⊢; omega : w4.heap.size ≤ (w5.setCell ⟨tb, 0, none⟩ (.slice (some ⟨b, off, none⟩) td.length cx)).heap.size))))
            clear hg5 hbk5 hown5 hx5 ht5 hP5
            refine hK.out _ _ ?_ (fun hHeld => ?_)
            · exact ⟨y0, y1, y2, y3, y4⟩
            try simp only [Act.put]
            try simp only [List.setIfInBounds_toArray]
            try simp only [List.set_cons_succ, List.set_cons_zero]
            refine wpAnyH_take (i := 7) (oi := ⟨some 3, _, _, _, _, _⟩) (v := ?_) rfl (by kernel_rfl) (by kernel_rfl) (by kernel_rfl) (fun _ _ _ h => h) (Or.inl ⟨by rfl, ?_⟩) (by assumption) ?_; rotate_left; focus (intro w hSw; (try dsimp only at hSw); first | (go_simp; done) | (go_simp; with_reducible rfl))
            try simp only [Act.put]
            try simp only [List.setIfInBounds_toArray]
            try simp only [List.set_cons_succ, List.set_cons_zero]
            refine wpAnyH_ready (rs := [8]) (by kernel_rfl) (by simp) ?_
            refine AllReadyH.cons (i := 8) (o := ⟨none, _, _, _, _, _⟩) rfl (fun K hK => ?_) ?_
            · go_simp
              refine hK.out _ _ ?_ (fun hHeld => ?_)
              · exact ⟨H6.out.1.cell 0, H6.out.1.cell 1, H6.out.1.cell 2, H6.out.1.cell 3, H6.out.1.cell 4⟩
              try simp only [Act.put]
              try simp only [List.setIfInBounds_toArray]
              try simp only [List.set_cons_succ, List.set_cons_zero]
              refine wpAnyH_done (by kernel_rfl) ?_ _
              exact ⟨rfl, rfl, rfl, rfl, rfl, rfl, rfl, a5, c5, rfl, H6.out.1, H6.out.2.1, H6.out.2.2.1, H6.out.2.2.2⟩
            exact AllReadyH.nil
          exact AllReadyH.nil
        exact AllReadyH.nil
      refine AllReadyH.cons (i := 4) (o := ⟨some 25, _, _, _, _, _⟩) rfl (fun K hK => ?_) ?_
      · go_simp
        refine hK.out _ _ ?_ (fun hHeld => ?_)
        · exact hHeld
        try simp only [Act.put]
        try simp only [List.setIfInBounds_toArray]
        try simp only [List.set_cons_succ, List.set_cons_zero]
        refine wpAnyH_take (i := 6) (oi := ⟨some 27, _, _, _, _, _⟩) (v := ?_) rfl (by kernel_rfl) (by kernel_rfl) (by kernel_rfl) (fun _ _ _ h => h) (Or.inl ⟨by rfl, ?_⟩) (by assumption) ?_; rotate_left; focus (intro w hSw; (try dsimp only at hSw); first | (go_simp; done) | (go_simp; with_reducible rfl))
        try simp only [Act.put]
        try simp only [List.setIfInBounds_toArray]
        try simp only [List.set_cons_succ, List.set_cons_zero]
        refine wpAnyH_ready (rs := [2]) (by kernel_rfl) (by simp) ?_
        refine AllReadyH.cons (i := 2) (o := ⟨some 23, _, _, _, _, _⟩) rfl (fun K hK => ?_) ?_
        · go_simp
          refine hK.out _ _ ?_ (fun hHeld => ?_)
          · exact ⟨u0, u1, u2, u3, u4⟩
          try simp only [Act.put]
          try simp only [List.setIfInBounds_toArray]
          try simp only [List.set_cons_succ, List.set_cons_zero]
          refine wpAnyH_ready (rs := [3]) (by kernel_rfl) (by simp) ?_
          refine AllReadyH.cons (i := 3) (o := ⟨some 24, _, _, _, _, _⟩) rfl (fun K hK => ?_) ?_
          · refine step_append_Own rfl (.tmp 21) (.tmp 23) 22 rfl w.heap.size 24 _ 5 72 Try.underlying22 infoPart2 rfl (by decide) ao out.length co _ (by simp [go_sem]) HOd.out _ 1 1 x.cells (by simp [go_sem]; rfl) (by exact Row.new1 (by first | rfl | simp) rfl (by rw [PartD.cells_eq])) (part_one x) (by unfold maxLen; omega) (by omega) (by simp; omega) ?_
            intro a5 c5 w5 hown5 hg5 hbk5
            have hP5 := (HP4.out.ext HBd.out).pop hown5 hg5 hbk5
            have hx5 : Blk w5 xb #[.string ⟨x.kind.toArray⟩, .string ⟨x.text.toArray⟩, .int .i64 x.lo, .int .i64 x.hi, .slice x.a x.kids.length x.c] 24 := (HX4.out.ext HBd.out).grown hg5 Hne.out.2.1
            have ht5 := (HP4.out.ext HBd.out).bt.grown hg5 (fun e => own_ne HOd.out (HP4.out.ext HBd.out).bt ne_types e.symm)
            have y0 : w5.cell? ⟨xb, 0, none⟩ = some (.string ⟨x.kind.toArray⟩) := hx5.cell 0
            have y1 : w5.cell? ⟨xb, 1, none⟩ = some (.string ⟨x.text.toArray⟩) := hx5.cell 1
            have y2 : w5.cell? ⟨xb, 2, none⟩ = some (.int .i64 x.lo) := hx5.cell 2
            have y3 : w5.cell? ⟨xb, 3, none⟩ = some (.int .i64 x.hi) := hx5.cell 3
            have y4 : w5.cell? ⟨xb, 4, none⟩ = some (.slice x.a x.kids.length x.c) := hx5.cell 4
            have yt : w5.cell? ⟨tb, 0, none⟩ = some (.slice (some ⟨b, off, none⟩) (td.length + 1) cx) := (ht5.cell 0).trans (by simp)
            have yf : w5.frozen? ⟨tb, 0, none⟩ = false := ht5.free 0
            have H6 := Lib.hid (And.intro (hx5.other (p := ⟨tb, 0, none⟩) Hne.out.1 (.slice (some ⟨b, off, none⟩) td.length cx)) (And.intro hP5 (And.intro (((HB4.out.trans (HBd.out.mono HB4.out.size)).grown hg5 (HB4.out.trans (HBd.out.mono HB4.out.size)).size (HOd.out.rowBase (Nat.le_refl _))).setCell (p := ⟨tb, 0, none⟩) HP4.out.htb (.slice (some ⟨b, off, none⟩) td.length cx)) (by have h1 := hg5.size; have h2 := HBd.out.size; simp at h1 h2 ⊢; omega : w4.heap.size ≤ (w5.setCell ⟨tb, 0, none⟩ (.slice (some ⟨b, off, none⟩) td.length cx)).heap.size))))
            clear hg5 hbk5 hown5 hx5 ht5 hP5
            refine hK.out _ _ ?_ (fun hHeld => ?_)
            · exact ⟨y0, y1, y2, y3, y4⟩
            try simp only [Act.put]
            try simp only [List.setIfInBounds_toArray]
            try simp only [List.set_cons_succ, List.set_cons_zero]
            refine wpAnyH_take (i := 7) (oi := ⟨some 3, _, _, _, _, _⟩) (v := ?_) rfl (by kernel_rfl) (by kernel_rfl) (by kernel_rfl) (fun _ _ _ h => h) (Or.inl ⟨by rfl, ?_⟩) (by assumption) ?_; rotate_left; focus (intro w hSw; (try dsimp only at hSw); first | (go_simp; done) | (go_simp; with_reducible rfl))
            try simp only [Act.put]
            try simp only [List.setIfInBounds_toArray]
            try simp only [List.set_cons_succ, List.set_cons_zero]
            refine wpAnyH_ready (rs := [8]) (by kernel_rfl) (by simp) ?_
            refine AllReadyH.cons (i := 8) (o := ⟨none, _, _, _, _, _⟩) rfl (fun K hK => ?_) ?_
            · go_simp
              refine hK.out _ _ ?_ (fun hHeld => ?_)
              · exact ⟨H6.out.1.cell 0, H6.out.1.cell 1, H6.out.1.cell 2, H6.out.1.cell 3, H6.out.1.cell 4⟩
              try simp only [Act.put]
              try simp only [List.setIfInBounds_toArray]
              try simp only [List.set_cons_succ, List.set_cons_zero]
              refine wpAnyH_done (by kernel_rfl) ?_ _
              exact ⟨rfl, rfl, rfl, rfl, rfl, rfl, rfl, a5, c5, rfl, H6.out.1, H6.out.2.1, H6.out.2.2.1, H6.out.2.2.2⟩
            exact AllReadyH.nil
          exact AllReadyH.nil
        exact AllReadyH.nil
      exact AllReadyH.nil
end Go.Proofs.Ytnepamdmjppglaa
