/- A part as a value; its kids in a row. -/
import Derived.Test.YtnepamdmjppglaaPartP
namespace Go.Proofs.Ytnepamdmjppglaa
open Go Go.RowKit

def PartD.val (d : PartD) : Value := .agg d.cells.toArray
def PartD.lo : PartD → Int | .mk _ _ lo _ _ _ _ => lo
def PartD.hi : PartD → Int | .mk _ _ _ hi _ _ _ => hi
/-- a part in a row -/
theorem part_at {w : World} {a : Option Addr} {l : List PartD} (h : Row w 5 a l.length (l.flatMap PartD.cells)) {i : Nat} {x : PartD} (hx : l[i]? = some x) :
    ∃ b off, a = some ⟨b, off, none⟩ ∧ w.cell? ⟨b, off + i * 5, none⟩ = some (.string ⟨x.kind.toArray⟩) ∧ w.cell? ⟨b, off + i * 5 + 1, none⟩ = some (.string ⟨x.text.toArray⟩) ∧ w.cell? ⟨b, off + i * 5 + 2, none⟩ = some (.int .i64 x.lo) ∧ w.cell? ⟨b, off + i * 5 + 3, none⟩ = some (.int .i64 x.hi) ∧ w.cell? ⟨b, off + i * 5 + 4, none⟩ = some (.slice x.a x.kids.length x.c) := by
  obtain ⟨b, off, ha, hc⟩ := Row.elem PartD.len (by decide) h hx
  obtain ⟨k, t, lo, hi, xa, xc, ks⟩ := x
  exact ⟨b, off, ha, hc 0 (by decide), hc 1 (by decide), hc 2 (by decide), hc 3 (by decide), hc 4 (by decide)⟩
theorem PartD.val_eq (x : PartD) : x.val = .agg #[.string ⟨x.kind.toArray⟩, .string ⟨x.text.toArray⟩, .int .i64 x.lo, .int .i64 x.hi, .slice x.a x.kids.length x.c] := by cases x; rfl
theorem pres_take {l : List PartD} {i : Nat} {x : PartD} (hx : l[i]? = some x) : pres (l.take (i + 1)) = pres (l.take i) ++ pre x := by
  rw [List.take_add_one, hx, Option.toList_some, pres_app]; simp [pres]
theorem weight_take {l : List PartD} {i : Nat} {x : PartD} (hx : l[i]? = some x) : weight (pres (l.take (i + 1))) = weight (pres (l.take i)) + weight (pre x) := by rw [pres_take hx, weight_app]
theorem weight_take_le (l : List PartD) (i : Nat) : weight (pres (l.take i)) ≤ weight (pres l) := by
  have h := congrArg (fun l => weight (pres l)) (List.take_append_drop i l)
  simp only [pres_app, weight_app] at h
  omega
theorem kids_le (l : List PartD) : l.length ≤ weight (pres l) := by
  induction l with
  | nil => simp
  | cons d l ih => simp only [pres, weight_app, weight_pre, List.length_cons]; omega
theorem weight_call {d : PartD} : weight (pre d) = 1 + d.text.length + d.kind.length + weight (pres d.kids) := weight_pre d
end Go.Proofs.Ytnepamdmjppglaa
