/- A part that came in, as a tree; its parts in order; what is called in it: plainly. -/
import Derived.Test.YtnepamdmjppglaaGr
namespace Go.Proofs.Ytnepamdmjppglaa
open Go Go.RowKit

inductive PartD
  | mk (kind text : Nm) (lo hi : Int) (a : Option Addr) (c : Nat) (kids : List PartD)
def PartD.kind : PartD → Nm | .mk k _ _ _ _ _ _ => k
def PartD.text : PartD → Nm | .mk _ t _ _ _ _ _ => t
def PartD.a : PartD → Option Addr | .mk _ _ _ _ a _ _ => a
def PartD.c : PartD → Nat | .mk _ _ _ _ _ c _ => c
def PartD.kids : PartD → List PartD | .mk _ _ _ _ _ _ ks => ks
def PartD.cells : PartD → List Value | .mk k t lo hi a c ks => [strV k, strV t, .int .i64 lo, .int .i64 hi, .slice a ks.length c]
theorem PartD.len (d : PartD) : d.cells.length = 5 := by cases d; rfl

/-- a part that lies in memory -/
inductive PartAt (w : World) : PartD → Prop
  | mk {k t : Nm} {lo hi : Int} {a : Option Addr} {c : Nat} {ks : List PartD} (h : Row w 5 a ks.length (ks.flatMap PartD.cells)) (hk : ∀ x ∈ ks, PartAt w x) : PartAt w (.mk k t lo hi a c ks)
theorem PartAt.row {w : World} {d : PartD} (h : PartAt w d) : Row w 5 d.a d.kids.length (d.kids.flatMap PartD.cells) := by cases h; assumption
theorem PartAt.kid {w : World} {d : PartD} (h : PartAt w d) : ∀ x ∈ d.kids, PartAt w x := by cases h; assumption
theorem PartAt.ext {w w' : World} {d : PartD} (h : PartAt w d) (hb : Below w.heap.size w w') : PartAt w' d := by
  induction h with
  | mk h _ ih => exact .mk (h.ext hb) fun x hx => ih x hx

mutual
/-- a part's parts, it first -/
def pre : PartD → List PartD
  | .mk k t lo hi a c ks => .mk k t lo hi a c ks :: pres ks
def pres : List PartD → List PartD
  | [] => []
  | d :: l => pre d ++ pres l
end
theorem pre_eq (d : PartD) : pre d = d :: pres d.kids := by cases d; rfl
theorem pres_app (l m : List PartD) : pres (l ++ m) = pres l ++ pres m := by
  induction l with
  | nil => simp [pres]
  | cons d l ih => simp only [List.cons_append, pres, ih, List.append_assoc]
/-- what is called in a part -/
def callNm0 : Nm := [99, 97, 108, 108]
def calledIn (l : List PartD) : List Nm := (l.filter fun d => decide (d.kind = callNm0)).map PartD.text
theorem calledIn_app (l m : List PartD) : calledIn (l ++ m) = calledIn l ++ calledIn m := by simp [calledIn]
/-- how large a part is -/
def weight (l : List PartD) : Nat := (l.map fun d => 1 + d.text.length + d.kind.length).sum
theorem weight_app (l m : List PartD) : weight (l ++ m) = weight l + weight m := by simp [weight]
theorem weight_pre (d : PartD) : weight (pre d) = 1 + d.text.length + d.kind.length + weight (pres d.kids) := by
  rw [pre_eq]; simp [weight]
theorem weight_len (l : List PartD) : l.length ≤ weight l := by
  induction l with
  | nil => simp
  | cons d l ih => simp [weight] at ih ⊢; omega
end Go.Proofs.Ytnepamdmjppglaa
