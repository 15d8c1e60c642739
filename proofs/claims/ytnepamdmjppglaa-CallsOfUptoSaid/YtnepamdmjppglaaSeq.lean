/- Sequences over slices, and what gathers them: slices.Values, AppendSeq, Collect, Sorted, walked at this dump. -/
import Derived.Test.YtnepamdmjppglaaReach
import Derived.RangeFuncNested
import Derived.RangeFuncBound
import Derived.RangeFuncCalls
import Derived.RangeFuncLeaves
import Derived.RangeFuncBox
import Derived.Shelf.Abstract
import Derived.Shelf.RegionOpen
import Derived.OwnWalkIn
import Derived.WalkMore
import Derived.TacticsInMore
import Derived.LoopNIn
import Derived.LoopIn
namespace Go.Proofs.Ytnepamdmjppglaa
open Go Go.RowKit Go.Shelf Go.Sort
attribute [local go_sem] Oper.semAt_some

theorem blk_abide {W W' : World} {g : Nat} {cur : Array Value} {e : TypeId} {row : Option Nat} (h : Blk W g cur e) (hg : W.grownBy W' row) (hr : ∀ r, row = some r → ∃ o : Obj, W.heap[r]? = some o ∧ o.isCells = false) : Blk W' g cur e :=
  h.grown hg (fun e' => by obtain ⟨o, ho, hc⟩ := hr g e'.symm; rw [show W.heap[g]? = _ from h] at ho; cases ho; cases hc)
theorem own_abide {W W' : World} {base : Nat} {e : TypeId} {sz : Nat} {a : Option Addr} {n cap : Nat} {xs : List Value} {row : Option Nat} (h : Own W base e sz a n cap xs) (hg : W.grownBy W' row) (hr : ∀ r, row = some r → ∃ o : Obj, W.heap[r]? = some o ∧ o.isCells = false) : Own W' base e sz a n cap xs := by
  refine ⟨h.1, ?_⟩
  rcases h.2 with h1 | ⟨g, off, cur, rfl, h2, h3, r⟩
  · exact .inl h1
  · exact .inr ⟨g, off, cur, rfl, h2, blk_abide h3 hg hr, r⟩
theorem keeps_ext {B : Nat} {W W' : World} (h : Below W.heap.size W W') : KeepsFrom B W W' := ⟨h.size, fun k _ _ hk _ => (h.block k (Array.getElem?_eq_some_iff.1 hk).1).trans hk⟩

section
variable {P : Program} {F : Fence} {n : Nat}
theorem wpListIn_append_Own {w : World} {ops : Array Oper} {rest : List Oper} {o : Oper} {act : Act} {Q : Exit → Act → World → Prop} (hgd : o.guard = none) (s x : Operand) (t : TypeId)
    (ho : o.op = .call { callee := .builtin .append, args := #[s, x], argTypes := #[t, t] })
    (base : Nat) (e : TypeId) (z : Value) (sz bytes : Nat) (ht : P.underlying t = some (.slice e)) (hinfo : (P.info? e).map (fun i => (i.zero, i.size, i.bytes)) = some (some z, sz, bytes)) (hzs : z.cells.size = sz) (hsz : 0 < sz)
    (a : Option Addr) (k cap : Nat) (xs : List Value) (hs : act.eval s = .slice a k cap) (hown : Own w base e sz a k cap xs)
    (ad : Option Addr) (m c : Nat) (news : List Value) (hx : act.eval x = .slice ad m c) (hrow : Row w sz ad m news) (h1 : ∀ u ∈ news, u.oneCell' = true)
    (h63 : k + m ≤ maxLen) (hbytes : (k + m) * bytes ≤ 140737488355328) (hbase : base ≤ w.heap.size)
    (h : ∀ a' cap' w', Own w' base e sz a' (k + m) cap' (xs ++ news) → w.grownBy w' (rowOf a cap) → (rowOf a' cap' = rowOf a cap ∨ rowOf a' cap' = some w.heap.size) → wpListIn F n P ops Q rest (act.put o.dst (.slice a' (k + m) cap')) w') : wpListIn F n P ops Q (o :: rest) act w := by
  obtain ⟨i, hi, hz, hsize, hby⟩ := info_parts hinfo
  obtain ⟨a', cap', w', hr, h2, h3, h4⟩ := run_append_Own (P := P) w base t o.type e i z sz bytes ht hi hz hsize hby hzs hsz a k cap xs hown ad m c news hrow h1 h63 hbytes hbase
  refine wpListIn_plain hgd fun K hK' => ?_
  unfold Oper.wpIn
  refine ⟨?_, ?_⟩
  · simp [Oper.about, ho, resolve, Target.leads, Sem.run_pure]
  · rw [Oper.semAt_plain F _ _ (by rw [ho]; intro c hc'; cases hc')]
    simp [execOp, ho, resolve, invoke, builtin, hs, hx, hr, Result.andThen]
    exact hK' _ _ (h a' cap' w' h2 h3 h4)
end

def intV (i : Nat) : Value := .int .i64 i
theorem infoInt8 : (Try.prog.info? 3).map (fun i => (i.zero, i.size, i.bytes)) = some (some (.int .i64 0), 1, 8) := by kernel_rfl

theorem seqK_later {α : Type} {F : Fence} {n : Nat} {P : Program} {g : Nat} {lb : Array Value} {encs : α → Array Value} {Kp : World → World → Prop} {S Sp : List α → Prop} {N : Nat} {w w' : World}
    (h : SeqStopsK F n P g lb encs Kp S Sp N w) (hb : Below w.heap.size w w') : SeqStopsK F n P g lb encs Kp S Sp N w' :=
  fun l J Jx W hW hJ hJx hY h0 => h l J Jx W (hb.trans (hW.mono hb.size)) hJ hJx hY h0

set_option maxRecDepth 20000 in
set_option maxHeartbeats 2000000 in
/-- AppendSeq of nothing and whatever sequence is told whole -/
theorem appendSeq_str (g : Nat) (lb : Array Value) (xs : List Nm) (N : Nat) (w : World) (hN : N ≤ 4194304) (hl : xs.length ≤ N) (eg : ∀ args w, (callFunc g args).run Try.prog w = .ok (.enter g args) w)
    (hst : SeqStopsK Fence.wide 8 Try.prog g lb (fun x : Nm => #[strV x]) (Below w.heap.size) (fun ys => ys = xs) (fun _ => True) N (w.alloc (.cells #[.slice none 0 0] 28))) :
    Calls Try.prog 74 #[.slice none 0 0, .func (.func g) #[] lb] w fun e w' => ∃ a c, e = .returned (.slice a xs.length c) ∧ Own w' w.heap.size 9 1 a xs.length c (xs.map strV) ∧ Below w.heap.size w w' := by
  refine (callsIn_wide (n := 9)).1 (callsIn_of_wp_marks Try.func74 rfl trivial ?_ rfl)
  simp only [Try.ntmps74, List.size_toArray, List.length_cons, List.length_nil, Nat.reduceAdd, Nat.reduceSub, Array.replicate_succ, Array.replicate_zero, List.push_toArray, List.append_toArray, List.nil_append, List.cons_append]
  gi_wp2
  have bS : Blk (w.alloc (.cells #[.slice none 0 0] 28)) w.heap.size #[.slice none 0 0] 28 := Blk.new rfl
  refine wpIn_rangeFunc_ownG (a := ?a) rfl (by decide) (gf := g) (lb := lb) rfl trivial eg hst
    belowK_t (belowK_b (by simp)) (Below.refl _ _) (fun _ => rfl)
    (fun pre W => (∃ a c, Blk W w.heap.size #[.slice a pre.length c] 28 ∧ Own W (w.heap.size + 1) 9 1 a pre.length c (pre.map strV)) ∧ Below w.heap.size w W) (fun _ _ _ => False)
    (fun pre X Y row hs hg hr => ⟨by obtain ⟨a, c, h1, h2⟩ := hs.1; exact ⟨a, c, blk_abide h1 hg (fun r e => (hr r e).2), own_abide h2 hg (fun r e => (hr r e).2)⟩, hs.2.grown hg hs.2.size (fun k e => by have h := (hr k e).1; simp at h; omega)⟩)
    (fun _ _ _ _ _ hs _ _ => hs) ⟨⟨none, 0, bS, Own.nil _ _ _ _⟩, below_a1 _ _⟩
    (fun x => { tmps := #[.slice none 0 0, .func (.func g) #[] lb, .pointer (some ⟨w.heap.size, 0, none⟩), undef, .slice none 0 0, strV x, .func (.func g) #[] lb, strV x, undef, undef, undef, undef, undef], defers := [] }) ?assign ?body ?done ?stop
  case assign =>
    intro l x W K hK
    dsimp only [strV] at hK ⊢
    gi_wp2
    exact hK
  case body =>
    rintro l pre x W ⟨⟨a, c, hB, ho⟩, hb⟩ hlt
    have c0 : W.cell? ⟨w.heap.size, 0, none⟩ = some (.slice a pre.length c) := hB.cell 0
    have Hb := Lib.hid hB
    have Ho := Lib.hid ho
    have Hbb := Lib.hid hb
    have hsz := hb.size
    have hBl := hB.lt
    have hrb := ho.rowBase (Nat.le_refl _)
    have hap : some w.heap.size ≠ rowOf a c := ho.apart (Nat.lt_succ_self _)
    clear hB ho hb
    dsimp only [strV]
    gi_wp2_with (gi_at_builtin; refine wpListIn_append_Own rfl _ _ 28 rfl (w.heap.size + 1) 9 _ 1 16 Try.underlying28 infoStr rfl (by decide) a pre.length c _ rfl (by exact Ho.out.alloc _) _ 1 1 [strV x] rfl (Row.new1 (by simp) rfl rfl) (by intro u hu; simp at hu; subst hu; rfl) (by unfold maxLen; omega) (by omega) (by simp; omega) ?_; intro a' c' w5 hown5 hg5 hbk5; have hB5 : Blk w5 w.heap.size #[.slice a pre.length c] 28 := (Hb.out.alloc _).grown hg5 hap; have k0 : w5.cell? ⟨w.heap.size, 0, none⟩ = some (.slice a pre.length c) := hB5.cell 0; have f0 := hB5.free 0)
    have hcells : ∀ (j : Nat) (o : Obj), rowOf a c = some j → (W.alloc (.cells #[strV x] 9)).heap[j]? = some o → o.isCells = true := fun j o hj ho => by
      rcases (Ho.out.alloc (.cells #[strV x] 9)).2 with ⟨_, h2, _⟩ | ⟨g', off, cur, e1, _, e3, _⟩
      · unfold rowOf at hj; rw [if_pos h2] at hj; cases hj
      · unfold rowOf at hj; split at hj
        · cases hj
        · rw [e1] at hj; simp [blockOf] at hj; subst hj; rw [e3] at ho; cases ho; rfl
    have hap5 : rowOf a' c' ≠ some w.heap.size := rowOf_apart (fun e => hap e.symm) (by simp; omega) hbk5
    refine ⟨(((KeepsOthers.alloc W _).trans (KeepsOthers.of_grownBy hg5 hcells)).trans (KeepsOthers.setCell _ _ _)).from _, ?_, ⟨a', c', ?_, ?_⟩, ?_⟩
    · exact (((Below.refl w.heap.size W).alloc hsz _).grown hg5 (by simp; omega) (fun j hj => by have := hrb j hj; omega)).setCell (p := ⟨w.heap.size, 0, none⟩) (Nat.le_refl _) _
    · rw [List.length_append]; exact hB5.set 0 _
    · rw [List.length_append, List.map_append]; exact hown5.setCell_row hap5 _
    · exact ((Hbb.out.alloc hsz _).grown hg5 (by simp; omega) (fun j hj => by have := hrb j hj; omega)).setCell (p := ⟨w.heap.size, 0, none⟩) (Nat.le_refl _) _
  case done =>
    rintro D ys W hD rfl ⟨⟨a, c, hB, ho⟩, hb⟩ hK
    have c0 : W.cell? ⟨w.heap.size, 0, none⟩ = some (.slice a ys.length c) := hB.cell 0
    gi_wp2
    refine ⟨by simp, .inl ⟨_, _, rfl, run_takeDeferred hK, ?_⟩⟩
    refine ⟨_, results_tmp rfl _ _ _, a, c, rfl, ?_, hb.trans (belowK_b (w := w) (Nat.le_refl _) W D _ _ (by simp at hD; omega) hK rfl rfl)⟩
    exact (own_abide ho (grownBy_putObj' W D _) (fun r e => by cases e; exact ⟨_, hK, rfl⟩)).mono (by omega)
  case stop =>
    rintro D c pre W _ _ h _
    exact h.elim

set_option maxRecDepth 20000 in
set_option maxHeartbeats 2000000 in
/-- AppendSeq of nothing and whatever sequence is told whole -/
theorem appendSeq_int (g : Nat) (lb : Array Value) (xs : List Nat) (N : Nat) (w : World) (hN : N ≤ 4194304) (hl : xs.length ≤ N) (eg : ∀ args w, (callFunc g args).run Try.prog w = .ok (.enter g args) w)
    (hst : SeqStopsK Fence.wide 8 Try.prog g lb (fun x : Nat => #[intV x]) (Below w.heap.size) (fun ys => ys = xs) (fun _ => True) N (w.alloc (.cells #[.slice none 0 0] 68))) :
    Calls Try.prog 58 #[.slice none 0 0, .func (.func g) #[] lb] w fun e w' => ∃ a c, e = .returned (.slice a xs.length c) ∧ Own w' w.heap.size 3 1 a xs.length c (xs.map intV) ∧ Below w.heap.size w w' := by
  refine (callsIn_wide (n := 9)).1 (callsIn_of_wp_marks Try.func58 rfl trivial ?_ rfl)
  simp only [Try.ntmps58, List.size_toArray, List.length_cons, List.length_nil, Nat.reduceAdd, Nat.reduceSub, Array.replicate_succ, Array.replicate_zero, List.push_toArray, List.append_toArray, List.nil_append, List.cons_append]
  gi_wp2
  have bS : Blk (w.alloc (.cells #[.slice none 0 0] 68)) w.heap.size #[.slice none 0 0] 68 := Blk.new rfl
  refine wpIn_rangeFunc_ownG (a := ?a) rfl (by decide) (gf := g) (lb := lb) rfl trivial eg hst
    belowK_t (belowK_b (by simp)) (Below.refl _ _) (fun _ => rfl)
    (fun pre W => (∃ a c, Blk W w.heap.size #[.slice a pre.length c] 68 ∧ Own W (w.heap.size + 1) 3 1 a pre.length c (pre.map intV)) ∧ Below w.heap.size w W) (fun _ _ _ => False)
    (fun pre X Y row hs hg hr => ⟨by obtain ⟨a, c, h1, h2⟩ := hs.1; exact ⟨a, c, blk_abide h1 hg (fun r e => (hr r e).2), own_abide h2 hg (fun r e => (hr r e).2)⟩, hs.2.grown hg hs.2.size (fun k e => by have h := (hr k e).1; simp at h; omega)⟩)
    (fun _ _ _ _ _ hs _ _ => hs) ⟨⟨none, 0, bS, Own.nil _ _ _ _⟩, below_a1 _ _⟩
    (fun x => { tmps := #[.slice none 0 0, .func (.func g) #[] lb, .pointer (some ⟨w.heap.size, 0, none⟩), undef, .slice none 0 0, intV x, .func (.func g) #[] lb, intV x, undef, undef, undef, undef, undef], defers := [] }) ?assign ?body ?done ?stop
  case assign =>
    intro l x W K hK
    dsimp only [intV] at hK ⊢
    gi_wp2
    exact hK
  case body =>
    rintro l pre x W ⟨⟨a, c, hB, ho⟩, hb⟩ hlt
    have c0 : W.cell? ⟨w.heap.size, 0, none⟩ = some (.slice a pre.length c) := hB.cell 0
    have Hb := Lib.hid hB
    have Ho := Lib.hid ho
    have Hbb := Lib.hid hb
    have hsz := hb.size
    have hBl := hB.lt
    have hrb := ho.rowBase (Nat.le_refl _)
    have hap : some w.heap.size ≠ rowOf a c := ho.apart (Nat.lt_succ_self _)
    clear hB ho hb
    dsimp only [intV]
    gi_wp2_with (gi_at_builtin; refine wpListIn_append_Own rfl _ _ 68 rfl (w.heap.size + 1) 3 _ 1 8 Try.underlying68 infoInt8 rfl (by decide) a pre.length c _ rfl (by exact Ho.out.alloc _) _ 1 1 [intV x] rfl (Row.new1 (by simp) rfl rfl) (by intro u hu; simp at hu; subst hu; rfl) (by unfold maxLen; omega) (by omega) (by simp; omega) ?_; intro a' c' w5 hown5 hg5 hbk5; have hB5 : Blk w5 w.heap.size #[.slice a pre.length c] 68 := (Hb.out.alloc _).grown hg5 hap; have k0 : w5.cell? ⟨w.heap.size, 0, none⟩ = some (.slice a pre.length c) := hB5.cell 0; have f0 := hB5.free 0)
    have hcells : ∀ (j : Nat) (o : Obj), rowOf a c = some j → (W.alloc (.cells #[intV x] 3)).heap[j]? = some o → o.isCells = true := fun j o hj ho => by
      rcases (Ho.out.alloc (.cells #[intV x] 3)).2 with ⟨_, h2, _⟩ | ⟨g', off, cur, e1, _, e3, _⟩
      · unfold rowOf at hj; rw [if_pos h2] at hj; cases hj
      · unfold rowOf at hj; split at hj
        · cases hj
        · rw [e1] at hj; simp [blockOf] at hj; subst hj; rw [e3] at ho; cases ho; rfl
    have hap5 : rowOf a' c' ≠ some w.heap.size := rowOf_apart (fun e => hap e.symm) (by simp; omega) hbk5
    refine ⟨(((KeepsOthers.alloc W _).trans (KeepsOthers.of_grownBy hg5 hcells)).trans (KeepsOthers.setCell _ _ _)).from _, ?_, ⟨a', c', ?_, ?_⟩, ?_⟩
    · exact (((Below.refl w.heap.size W).alloc hsz _).grown hg5 (by simp; omega) (fun j hj => by have := hrb j hj; omega)).setCell (p := ⟨w.heap.size, 0, none⟩) (Nat.le_refl _) _
    · rw [List.length_append]; exact hB5.set 0 _
    · rw [List.length_append, List.map_append]; exact hown5.setCell_row hap5 _
    · exact ((Hbb.out.alloc hsz _).grown hg5 (by simp; omega) (fun j hj => by have := hrb j hj; omega)).setCell (p := ⟨w.heap.size, 0, none⟩) (Nat.le_refl _) _
  case done =>
    rintro D ys W hD rfl ⟨⟨a, c, hB, ho⟩, hb⟩ hK
    have c0 : W.cell? ⟨w.heap.size, 0, none⟩ = some (.slice a ys.length c) := hB.cell 0
    gi_wp2
    refine ⟨by simp, .inl ⟨_, _, rfl, run_takeDeferred hK, ?_⟩⟩
    refine ⟨_, results_tmp rfl _ _ _, a, c, rfl, ?_, hb.trans (belowK_b (w := w) (Nat.le_refl _) W D _ _ (by simp at hD; omega) hK rfl rfl)⟩
    exact (own_abide ho (grownBy_putObj' W D _) (fun r e => by cases e; exact ⟨_, hK, rfl⟩)).mono (by omega)
  case stop =>
    rintro D c pre W _ _ h _
    exact h.elim

set_option maxRecDepth 20000 in
theorem collect_str (g : Nat) (lb : Array Value) (xs : List Nm) (N : Nat) (w : World) (hN : N ≤ 4194304) (hl : xs.length ≤ N) (eg : ∀ args w, (callFunc g args).run Try.prog w = .ok (.enter g args) w)
    (hst : SeqStopsK Fence.wide 8 Try.prog g lb (fun x : Nm => #[strV x]) (Below w.heap.size) (fun ys => ys = xs) (fun _ => True) N w) :
    Calls Try.prog 53 #[.func (.func g) #[] lb] w fun e w' => ∃ a c, e = .returned (.slice a xs.length c) ∧ Own w' w.heap.size 9 1 a xs.length c (xs.map strV) ∧ Below w.heap.size w w' := by
  have hap := appendSeq_str g lb xs N w hN hl eg (seqK_later hst (below_a1 _ _))
  go_enter Try.func53, Try.ntmps53
  go_wp2_with fail
  refine hap.mono ?_
  rintro e w' ⟨a, c, rfl, ho, hb⟩
  go_wp2
  go_ret
  exact ⟨a, c, rfl, ho, hb⟩

set_option maxRecDepth 20000 in
theorem collect_int (g : Nat) (lb : Array Value) (xs : List Nat) (N : Nat) (w : World) (hN : N ≤ 4194304) (hl : xs.length ≤ N) (eg : ∀ args w, (callFunc g args).run Try.prog w = .ok (.enter g args) w)
    (hst : SeqStopsK Fence.wide 8 Try.prog g lb (fun x : Nat => #[intV x]) (Below w.heap.size) (fun ys => ys = xs) (fun _ => True) N w) :
    Calls Try.prog 38 #[.func (.func g) #[] lb] w fun e w' => ∃ a c, e = .returned (.slice a xs.length c) ∧ Own w' w.heap.size 3 1 a xs.length c (xs.map intV) ∧ Below w.heap.size w w' := by
  have hap := appendSeq_int g lb xs N w hN hl eg (seqK_later hst (below_a1 _ _))
  go_enter Try.func38, Try.ntmps38
  go_wp2_with fail
  refine hap.mono ?_
  rintro e w' ⟨a, c, rfl, ho, hb⟩
  go_wp2
  go_ret
  exact ⟨a, c, rfl, ho, hb⟩

set_option maxRecDepth 20000 in
theorem values_in (a : Option Addr) (len cap : Nat) (w : World) :
    Calls Try.prog 56 #[.slice a len cap] w fun e w' => e = .returned (.func (.func 75) #[] #[.pointer (some ⟨w.heap.size, 0, none⟩)]) ∧ w' = w.alloc (.cells #[.slice a len cap] 28) := by
  go_enter Try.func56, Try.ntmps56
  go_wp2
  go_ret
  exact ⟨rfl, rfl⟩

set_option maxRecDepth 20000 in
set_option maxHeartbeats 2000000 in
/-- .. told whole, where the rounds keep what lay below n₀ -/
theorem values_stops (Bs n₀ : Nat) (a : Option Addr) (cap : Nat) (zs : List Nm) (w : World) (hz : zs.length ≤ 4194304) (_ : Bs < w.heap.size) (_ : n₀ ≤ w.heap.size) (_ : Bs < n₀ ∨ True)
    (hc : w.cell? ⟨Bs, 0, none⟩ = some (.slice a zs.length cap)) (hr : Row w 1 a zs.length (zs.map strV)) (hrn : ∀ g, 0 < zs.length → blockOf a = some g → g < n₀) :
    SeqStopsK Fence.wide 8 Try.prog 75 #[.pointer (some ⟨Bs, 0, none⟩)] (fun x : Nm => #[strV x]) (Below n₀) (fun ys => ys = zs) (fun _ => True) zs.length w := fun l J Jx W hW _ _ hY h0 => by
  have hc' := below_ext hW hc
  have HR := Lib.hid (hr.ext hW)
  clear hr hc
  refine callsIn_of_wp Try.func75 rfl trivial ?_ rfl
  simp only [Try.ntmps75, List.size_toArray, List.length_cons, List.length_nil, Nat.reduceAdd, Nat.reduceSub, Array.replicate_succ, Array.replicate_zero, List.push_toArray, List.append_toArray, List.nil_append, List.cons_append]
  gi_wp2
  gi_loopw [7] (fun i wr => ∃ k : Nat, k ≤ zs.length ∧ i = .int .i64 k ∧ Hid (J (zs.take k) wr) ∧ Hid (Below n₀ W wr)) (fun i _ => zs.length - (intOf i).toNat)
  case atStart => exact ⟨0, Nat.zero_le _, rfl, h0, Below.refl _ _⟩
  case round =>
    obtain ⟨k, hk, rfl, hJs, hnx⟩ := hrel
    by_cases hlt : k < zs.length
    · obtain ⟨x, hx⟩ := get_some hlt
      obtain ⟨b, off, rfl, h1⟩ := str_at HR.out hx
      have h2 : wr.cell? ⟨b, off + k, none⟩ = some (.string ⟨x.toArray⟩) := (hnx.out.cell (p := ⟨b, off + k, none⟩) (hrn b (by omega) rfl)).trans h1
      have htk : zs.take (k + 1) = zs.take k ++ [x] := by rw [List.take_add_one, hx]; rfl
      obtain ⟨fn, tmps, assign, body, hy, hR⟩ := hY _ x wr hJs.out (by rw [List.length_take]; omega)
      dsimp only [strV] at hy hR
      have Htk := Lib.hid htk
      clear htk hx h1 HR
      gi_wp2
      refine hR.mono ?_
      rintro e W3 (⟨rfl, hJ3, hk3⟩ | ⟨rfl, hJx3⟩)
      · gi_wp2
        go_roundw
        case rel => exact ⟨k + 1, by omega, by simp, by rw [Htk.out]; exact hJ3, hnx.out.trans hk3⟩
        case measure => simp [intOf]; omega
      · gi_wp2
        refine bodyPost_ret (results_none rfl _ _ _) rfl ?_
        exact ⟨⟨_, rfl⟩, .inr ⟨_, trivial, hJx3⟩⟩
    · obtain rfl : k = zs.length := by omega
      gi_wp2
      go_end0
      refine ⟨⟨_, rfl⟩, .inl ⟨_, rfl, ?_⟩⟩
      have := hJs.out
      rwa [List.take_length] at this
end Go.Proofs.Ytnepamdmjppglaa
