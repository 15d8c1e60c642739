/- Maps keyed by texts: the laws at the operations, for a walk. -/
import Derived.Test.YtahiopjplfnlmaaGreatDoorMap
namespace Go.Proofs.YtahiopjplfnlmaaGreatDoor
open Go Go.RowKit

abbrev SM (w : World) (b : Nat) (ks : List Nm) (f : Nm → Value) (z : Value) : Prop := SMap Tryz.prog 9 w b ks f z
def IM (w : World) (b : Nat) (ks : List Nm) (m : Nm → Nat) : Prop := SMap Tryz.prog 9 w b ks (fun x => .int .i64 (m x : Nat)) (.int .i64 0)

theorem zeroInt (w : World) : (zeroValue 3).run Tryz.prog w = .ok (.int .i64 0) w := by kernel_rfl
theorem undI : Tryz.prog.underlying 83 = some (.map 9 3) := by kernel_rfl

theorem IM.im_f {m m' : Nm → Nat} (h : ∀ x, m x = m' x) {w : World} {b : Nat} {ks : List Nm} (k : IM w b ks m) : IM w b ks m' := by
  have : m = m' := funext h
  rw [← this]; exact k
theorem IM.zero {w : World} {b : Nat} {ks : List Nm} {m : Nm → Nat} (h : IM w b ks m) {x : Nm} (hx : x ∉ ks) : m x = 0 := by
  obtain ⟨es, clock, _, _, _, _, _, _, hf⟩ := h
  have := hf x hx
  simp at this; exact this
theorem upd_int (m : Nm → Nat) (x : Nm) (k : Nat) : upd (fun y => Value.int .i64 (m y : Nat)) x (.int .i64 (k : Nat)) = fun y => Value.int .i64 ((upd m x k y : Nat) : Int) := by
  funext y; unfold upd; split <;> rfl
theorem IM.congr {w w' : World} {b : Nat} {ks : List Nm} {m : Nm → Nat} (h : IM w b ks m) (hb : w'.heap[b]? = w.heap[b]?) : IM w' b ks m := SMap.congr h hb
theorem IM.lt {w : World} {b : Nat} {ks : List Nm} {m : Nm → Nat} (h : IM w b ks m) : b < w.heap.size := SMap.lt h
theorem IM.ext {w w' : World} {b : Nat} {ks : List Nm} {m : Nm → Nat} (h : IM w b ks m) (hb : Below w.heap.size w w') : IM w' b ks m := SMap.ext h hb
theorem IM.alloc {w : World} {b : Nat} {ks : List Nm} {m : Nm → Nat} (h : IM w b ks m) (o : Obj) : IM (w.alloc o) b ks m := SMap.alloc h o
theorem IM.drewN {w : World} {b : Nat} {ks : List Nm} {m : Nm → Nat} (h : IM w b ks m) (n : Nat) : IM (w.drewN n) b ks m := h
theorem IM.grown {w w' : World} {b : Nat} {ks : List Nm} {m : Nm → Nat} {row : Option Nat} (h : IM w b ks m) (hg : w.grownBy w' row) (hne : some b ≠ row) : IM w' b ks m := SMap.grown h hg hne
theorem IM.set {w : World} {b : Nat} {ks : List Nm} {m : Nm → Nat} (h : IM w b ks m) {p : Addr} (hp : b ≠ p.block) (u : Value) : IM (w.setCell p u) b ks m := SMap.set h hp u
theorem IM.look {w : World} {b : Nat} {ks : List Nm} {m : Nm → Nat} (h : IM w b ks m) {x : Nm} (hx : x.length ≤ maxLen) : (Instr.lookup 83 (.map (some b)) (.string ⟨x.toArray⟩) false).run Tryz.prog w = .ok (.int .i64 (m x : Nat)) w := by
  have := SMap.look Tryz.underlying9 h undI (zeroInt w) false hx
  simpa [strV] using this

section
variable {w : World} {ops : Array Oper} {rest : List Oper} {o : Oper} {act : Act} {Q : Exit → Act → World → Prop} {K : Act → World → Prop} {E : Prop}

theorem wpList_look (hgd : o.guard = none) (m k : Operand) (t e : TypeId) (ho : o.op = .lookup t m k false) (ht : Tryz.prog.underlying t = some (.map 9 e)) {b : Nat} {ks : List Nm} {f : Nm → Value} {z : Value} (hz : (zeroValue e).run Tryz.prog w = .ok z w)
    (h : SM w b ks f z) {x : Nm} (hx : x.length ≤ maxLen) (hm : act.eval m = .map (some b)) (hk : act.eval k = .string ⟨x.toArray⟩) (hK : wpList Tryz.prog ops Q rest (act.put o.dst (f x)) w) : wpList Tryz.prog ops Q (o :: rest) act w := by
  have hr := SMap.look Tryz.underlying9 h ht hz false hx
  simp only [strV] at hr
  refine wpList_plain hgd fun K hK' => ?_
  unfold Oper.wp
  simp [execOp, ho, hm, hk, hr, Result.andThen]
  exact hK' _ _ hK
theorem wpList_lookok (hgd : o.guard = none) (m k : Operand) (t e : TypeId) (ho : o.op = .lookup t m k true) (ht : Tryz.prog.underlying t = some (.map 9 e)) {b : Nat} {ks : List Nm} {f : Nm → Value} {z : Value} (hz : (zeroValue e).run Tryz.prog w = .ok z w)
    (h : SM w b ks f z) {x : Nm} (hx : x.length ≤ maxLen) (hm : act.eval m = .map (some b)) (hk : act.eval k = .string ⟨x.toArray⟩) {q : Bool} (hq : q = decide (x ∈ ks)) (hK : wpList Tryz.prog ops Q rest (act.put o.dst (.tuple #[f x, .bool q])) w) : wpList Tryz.prog ops Q (o :: rest) act w := by
  have hr := SMap.look Tryz.underlying9 h ht hz true hx
  simp only [strV] at hr
  subst hq
  refine wpList_plain hgd fun K hK' => ?_
  unfold Oper.wp
  simp [execOp, ho, hm, hk, hr, Result.andThen]
  exact hK' _ _ hK
theorem wpList_store (hgd : o.guard = none) (m k v : Operand) (t e : TypeId) (ho : o.op = .mapUpdate t m k v) (ht : Tryz.prog.underlying t = some (.map 9 e)) {b : Nat} {ks : List Nm} {f : Nm → Value} {z : Value}
    (h : SM w b ks f z) {x : Nm} (hx : x.length ≤ maxLen) (hn : ks.length < maxLen) (hm : act.eval m = .map (some b)) (hk : act.eval k = .string ⟨x.toArray⟩) {val : Value} (hv : act.eval v = val)
    (hK : ∀ w', SM w' b (addK ks x) (upd f x val) z → w.grownBy w' (some b) → w'.heap.size = w.heap.size → wpList Tryz.prog ops Q rest (act.put o.dst undef) w') : wpList Tryz.prog ops Q (o :: rest) act w := by
  obtain ⟨w', hr, h1, h2, h3⟩ := SMap.store Tryz.underlying9 h ht hx hn val
  simp only [strV] at hr
  refine wpList_plain hgd fun K hK' => ?_
  unfold Oper.wp
  simp [execOp, ho, hm, hk, hv, hr, Result.andThen]
  exact hK' _ _ (hK w' h1 h2 h3)

theorem step_look (hgd : o.guard = none) (m k : Operand) (t e : TypeId) (ho : o.op = .lookup t m k false) (ht : Tryz.prog.underlying t = some (.map 9 e)) {b : Nat} {ks : List Nm} {f : Nm → Value} {z : Value} (hz : (zeroValue e).run Tryz.prog w = .ok z w)
    (h : SM w b ks f z) {x : Nm} (hx : x.length ≤ maxLen) (hm : act.eval m = .map (some b)) (hk : act.eval k = .string ⟨x.toArray⟩) (hK : K (act.put o.dst (f x)) w) :
    if Region.wanted o (yielded ops act.tmps) = true then Oper.wp Tryz.prog o act w K Q else E := by
  have hr := SMap.look Tryz.underlying9 h ht hz false hx
  simp only [strV] at hr
  rw [if_pos (by simp [Region.wanted, hgd])]
  unfold Oper.wp
  simp [execOp, ho, hm, hk, hr, Result.andThen]
  exact hK
theorem step_lookI (hgd : o.guard = none) (m k : Operand) (ho : o.op = .lookup 83 m k false) {b : Nat} {ks : List Nm} {f : Nm → Nat}
    (h : IM w b ks f) {x : Nm} (hx : x.length ≤ maxLen) (hm : act.eval m = .map (some b)) (hk : act.eval k = .string ⟨x.toArray⟩) (hK : K (act.put o.dst (.int .i64 (f x : Nat))) w) :
    if Region.wanted o (yielded ops act.tmps) = true then Oper.wp Tryz.prog o act w K Q else E :=
  step_look hgd m k _ _ ho undI (zeroInt w) h hx hm hk hK
theorem step_store (hgd : o.guard = none) (m k v : Operand) (t e : TypeId) (ho : o.op = .mapUpdate t m k v) (ht : Tryz.prog.underlying t = some (.map 9 e)) {b : Nat} {ks : List Nm} {f : Nm → Value} {z : Value}
    (h : SM w b ks f z) {x : Nm} (hx : x.length ≤ maxLen) (hn : ks.length < maxLen) (hm : act.eval m = .map (some b)) (hk : act.eval k = .string ⟨x.toArray⟩) {val : Value} (hv : act.eval v = val)
    (hK : ∀ w', SM w' b (addK ks x) (upd f x val) z → w.grownBy w' (some b) → w'.heap.size = w.heap.size → K (act.put o.dst undef) w') :
    if Region.wanted o (yielded ops act.tmps) = true then Oper.wp Tryz.prog o act w K Q else E := by
  obtain ⟨w', hr, h1, h2, h3⟩ := SMap.store Tryz.underlying9 h ht hx hn val
  simp only [strV] at hr
  rw [if_pos (by simp [Region.wanted, hgd])]
  unfold Oper.wp
  simp [execOp, ho, hm, hk, hv, hr, Result.andThen]
  exact hK w' h1 h2 h3
theorem step_storeI (hgd : o.guard = none) (m k v : Operand) (ho : o.op = .mapUpdate 83 m k v) {b : Nat} {ks : List Nm} {f : Nm → Nat}
    (h : IM w b ks f) {x : Nm} (hx : x.length ≤ maxLen) (hn : ks.length < maxLen) (hm : act.eval m = .map (some b)) (hk : act.eval k = .string ⟨x.toArray⟩) {val : Nat} (hv : act.eval v = .int .i64 (val : Nat))
    (hK : ∀ w', IM w' b (addK ks x) (upd f x val) → w.grownBy w' (some b) → w'.heap.size = w.heap.size → K (act.put o.dst undef) w') :
    if Region.wanted o (yielded ops act.tmps) = true then Oper.wp Tryz.prog o act w K Q else E :=
  step_store hgd m k v _ _ ho undI h hx hn hm hk hv fun w' h1 h2 h3 => hK w' (by rw [upd_int] at h1; exact h1) h2 h3
theorem step_len (hgd : o.guard = none) (m : Operand) (t e : TypeId) (ho : o.op = .call { callee := .builtin .len, args := #[m], argTypes := #[t] }) (ht : Tryz.prog.underlying t = some (.map 9 e)) {b : Nat} {ks : List Nm} {f : Nm → Value} {z : Value}
    (h : SM w b ks f z) (hm : act.eval m = .map (some b)) (hK : K (act.put o.dst (.int .i64 (ks.length : Nat))) w) :
    if Region.wanted o (yielded ops act.tmps) = true then Oper.wp Tryz.prog o act w K Q else E := by
  obtain ⟨D, hD, _, hs⟩ := SMap.owns h
  have hr := hD.len ht o.type
  rw [hs] at hr
  rw [if_pos (by simp [Region.wanted, hgd])]
  unfold Oper.wp
  simp [execOp, ho, resolve, invoke, builtin, hm, hr, Result.andThen]
  exact hK
theorem wpList_lookI (hgd : o.guard = none) (m k : Operand) (ho : o.op = .lookup 83 m k false) {b : Nat} {ks : List Nm} {f : Nm → Nat}
    (h : IM w b ks f) {x : Nm} (hx : x.length ≤ maxLen) (hm : act.eval m = .map (some b)) (hk : act.eval k = .string ⟨x.toArray⟩) (v : Nat) (hv : f x = v) (hK : wpList Tryz.prog ops Q rest (act.put o.dst (.int .i64 (v : Nat))) w) : wpList Tryz.prog ops Q (o :: rest) act w := by
  subst hv
  exact wpList_look hgd m k _ _ ho undI (zeroInt w) h hx hm hk hK
theorem wpList_storeI (hgd : o.guard = none) (m k v : Operand) (ho : o.op = .mapUpdate 83 m k v) {b : Nat} {ks : List Nm} {f : Nm → Nat}
    (h : IM w b ks f) {x : Nm} (hx : x.length ≤ maxLen) (hn : ks.length < maxLen) (hm : act.eval m = .map (some b)) (hk : act.eval k = .string ⟨x.toArray⟩) (val : Nat) (hv : act.eval v = .int .i64 (val : Nat))
    (hK : ∀ w', IM w' b (addK ks x) (upd f x val) → w.grownBy w' (some b) → w'.heap.size = w.heap.size → wpList Tryz.prog ops Q rest (act.put o.dst undef) w') : wpList Tryz.prog ops Q (o :: rest) act w :=
  wpList_store hgd m k v _ _ ho undI h hx hn hm hk hv fun w' h1 h2 h3 => hK w' (by rw [upd_int] at h1; exact h1) h2 h3
end
end Go.Proofs.YtahiopjplfnlmaaGreatDoor
