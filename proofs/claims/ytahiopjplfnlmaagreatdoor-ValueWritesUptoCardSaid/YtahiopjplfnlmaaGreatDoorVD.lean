/- A value that lies in memory. -/
import Derived.Test.YtahiopjplfnlmaaGreatDoorBase
import Derived.Test.YtahiopjplfnlmaaGreatDoorBlk
namespace Go.Proofs.YtahiopjplfnlmaaGreatDoor
open Go Go.RowKit

/-- a text as a string -/
def strV (x : Nm) : Value := .string ⟨x.toArray⟩
theorem strV_data (s : ByteArray) : strV s.data.toList = .string s := rfl

inductive VD
  | mk (sort : Int) (on : Bool) (n : Int) (text : Nm) (a : Option Addr) (c : Nat) (list : List VD) (ka : Option Addr) (kc : Nat) (keys : List Nm)
def VD.sort : VD → Int | .mk s _ _ _ _ _ _ _ _ _ => s
def VD.on : VD → Bool | .mk _ o _ _ _ _ _ _ _ _ => o
def VD.n : VD → Int | .mk _ _ n _ _ _ _ _ _ _ => n
def VD.text : VD → Nm | .mk _ _ _ t _ _ _ _ _ _ => t
def VD.a : VD → Option Addr | .mk _ _ _ _ a _ _ _ _ _ => a
def VD.c : VD → Nat | .mk _ _ _ _ _ c _ _ _ _ => c
def VD.list : VD → List VD | .mk _ _ _ _ _ _ l _ _ _ => l
def VD.ka : VD → Option Addr | .mk _ _ _ _ _ _ _ ka _ _ => ka
def VD.kc : VD → Nat | .mk _ _ _ _ _ _ _ _ kc _ => kc
def VD.keys : VD → List Nm | .mk _ _ _ _ _ _ _ _ _ ks => ks
instance : Inhabited VD := ⟨.mk 0 false 0 [] none 0 [] none 0 []⟩
def VD.cells : VD → List Value | .mk s o n t a c l ka kc ks => [.int .i64 s, .bool o, .int .i64 n, strV t, .slice a l.length c, .slice ka ks.length kc]
theorem VD.len (d : VD) : d.cells.length = 6 := by cases d; rfl
def VD.val (d : VD) : Value := .agg d.cells.toArray
theorem VD.val_eq (d : VD) : d.val = .agg #[.int .i64 d.sort, .bool d.on, .int .i64 d.n, strV d.text, .slice d.a d.list.length d.c, .slice d.ka d.keys.length d.kc] := by cases d; rfl
mutual
/-- what it is -/
def VD.v : VD → V | .mk s o n t _ _ l _ _ ks => .mk s o n t (vsOf l) ks
def vsOf : List VD → List V
  | [] => []
  | d :: l => d.v :: vsOf l
end
theorem vsOf_map : ∀ l : List VD, vsOf l = l.map VD.v
  | [] => rfl
  | d :: l => by rw [vsOf, vsOf_map l]; rfl
theorem VD.v_eq (d : VD) : d.v = .mk d.sort d.on d.n d.text (d.list.map VD.v) d.keys := by cases d; rw [VD.v, vsOf_map]; rfl
mutual
theorem VD.ind_go {P : VD → Prop} (h : ∀ s o n t a c l ka kc ks, (∀ x ∈ l, P x) → P (.mk s o n t a c l ka kc ks)) : ∀ v, P v
  | .mk s o n t a c l ka kc ks => h s o n t a c l ka kc ks (VD.ind_all h l)
theorem VD.ind_all {P : VD → Prop} (h : ∀ s o n t a c l ka kc ks, (∀ x ∈ l, P x) → P (.mk s o n t a c l ka kc ks)) : ∀ l : List VD, ∀ x ∈ l, P x
  | [] => fun x hx => by cases hx
  | y :: l => List.forall_mem_cons.2 ⟨VD.ind_go h y, VD.ind_all h l⟩
end
theorem VD.ind {P : VD → Prop} (h : ∀ s o n t a c l ka kc ks, (∀ x ∈ l, P x) → P (.mk s o n t a c l ka kc ks)) (v : VD) : P v := VD.ind_go h v

theorem Row.congr {w w' : World} {sz n : Nat} {a : Option Addr} {xs : List Value} (h : Row w sz a n xs) (hb : ∀ g, 0 < n * sz → blockOf a = some g → g < w.heap.size → w'.heap[g]? = w.heap[g]?) : Row w' sz a n xs := by
  refine ⟨h.1, fun h0 => ?_⟩
  obtain ⟨b, off, rfl, hc⟩ := h.2 h0
  refine ⟨b, off, rfl, fun j hj => ?_⟩
  have e := hc j hj
  rw [List.getElem?_eq_getElem (by rw [h.1]; exact hj)] at e
  have hlt : b < w.heap.size := cell_lt (a := ⟨b, off + j, none⟩) e
  rw [World.cell?_of_block (w := w) (a := ⟨b, off + j, none⟩) (hb b h0 rfl hlt)]
  exact hc j hj

/-- a value whose rows lie in memory, in blocks that are p -/
inductive ValAt (w : World) (p : Nat → Prop) : VD → Prop
  | mk {s : Int} {o : Bool} {n : Int} {t : Nm} {a : Option Addr} {c : Nat} {l : List VD} {ka : Option Addr} {kc : Nat} {ks : List Nm}
      (h : Row w 6 a l.length (l.flatMap VD.cells)) (hk : Row w 1 ka ks.length (ks.map strV)) (ha : ∀ g, 0 < l.length → blockOf a = some g → p g) (hka : ∀ g, 0 < ks.length → blockOf ka = some g → p g)
      (hl : ∀ x ∈ l, ValAt w p x) : ValAt w p (.mk s o n t a c l ka kc ks)
theorem ValAt.row {w : World} {p : Nat → Prop} {d : VD} (h : ValAt w p d) : Row w 6 d.a d.list.length (d.list.flatMap VD.cells) := by cases h; assumption
theorem ValAt.krow {w : World} {p : Nat → Prop} {d : VD} (h : ValAt w p d) : Row w 1 d.ka d.keys.length (d.keys.map strV) := by cases h; assumption
theorem ValAt.kid {w : World} {p : Nat → Prop} {d : VD} (h : ValAt w p d) : ∀ x ∈ d.list, ValAt w p x := by cases h; assumption
theorem ValAt.blk {w : World} {p : Nat → Prop} {d : VD} (h : ValAt w p d) : ∀ g, 0 < d.list.length → blockOf d.a = some g → p g := by cases h; assumption
theorem ValAt.kblk {w : World} {p : Nat → Prop} {d : VD} (h : ValAt w p d) : ∀ g, 0 < d.keys.length → blockOf d.ka = some g → p g := by cases h; assumption
theorem ValAt.congr {w w' : World} {p : Nat → Prop} {d : VD} (h : ValAt w p d) (hb : ∀ g, p g → g < w.heap.size → w'.heap[g]? = w.heap[g]?) : ValAt w' p d := by
  induction h with
  | mk h hk ha hka _ ih =>
    exact .mk (h.congr fun g h0 hg hlt => hb g (ha g (Nat.pos_of_mul_pos_right h0) hg) hlt) (hk.congr fun g h0 hg hlt => hb g (hka g (by omega) hg) hlt) ha hka ih
theorem ValAt.ext {w w' : World} {p : Nat → Prop} {d : VD} (h : ValAt w p d) (hb : Below w.heap.size w w') : ValAt w' p d := h.congr fun g _ hg => hb.block g hg
theorem ValAt.mono {w : World} {p q : Nat → Prop} {d : VD} (h : ValAt w p d) (hp : ∀ g, p g → g < w.heap.size → q g) : ValAt w q d := by
  induction h with
  | mk h hk ha hka _ ih =>
    exact .mk h hk (fun g h0 hg => hp g (ha g h0 hg) (h.lt (by omega) hg)) (fun g h0 hg => hp g (hka g h0 hg) (hk.lt (by omega) hg)) ih
/-- no rows, no blocks -/
theorem ValAt.leaf {w : World} {p : Nat → Prop} {s : Int} {o : Bool} {n : Int} {t : Nm} {a ka : Option Addr} {c kc : Nat} : ValAt w p (.mk s o n t a c [] ka kc []) :=
  .mk (Row.nil _ _ _) (Row.nil _ _ _) (fun _ h => by simp at h) (fun _ h => by simp at h) (fun x hx => by cases hx)

/-- a value in a row -/
theorem val_at {w : World} {a : Option Addr} {l : List VD} (h : Row w 6 a l.length (l.flatMap VD.cells)) {i : Nat} {x : VD} (hx : l[i]? = some x) :
    ∃ b off, a = some ⟨b, off, none⟩ ∧ w.cell? ⟨b, off + i * 6, none⟩ = some (.int .i64 x.sort) ∧ w.cell? ⟨b, off + i * 6 + 1, none⟩ = some (.bool x.on) ∧ w.cell? ⟨b, off + i * 6 + 2, none⟩ = some (.int .i64 x.n) ∧
      w.cell? ⟨b, off + i * 6 + 3, none⟩ = some (strV x.text) ∧ w.cell? ⟨b, off + i * 6 + 4, none⟩ = some (.slice x.a x.list.length x.c) ∧ w.cell? ⟨b, off + i * 6 + 5, none⟩ = some (.slice x.ka x.keys.length x.kc) := by
  obtain ⟨b, off, ha, hc⟩ := Row.elem VD.len (by decide) h hx
  obtain ⟨s, o, n, t, va, vc, l2, ka, kc, ks⟩ := x
  exact ⟨b, off, ha, hc 0 (by decide), hc 1 (by decide), hc 2 (by decide), hc 3 (by decide), hc 4 (by decide), hc 5 (by decide)⟩
end Go.Proofs.YtahiopjplfnlmaaGreatDoor
