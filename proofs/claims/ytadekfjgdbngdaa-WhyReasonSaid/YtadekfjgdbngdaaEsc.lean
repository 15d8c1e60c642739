/- What escapes, plainly. -/
import Derived.Test.YtadekfjgdbngdaaRefCome
namespace Go.Proofs.Ytadekfjgdbngdaa
open Go

/-- what escapes: the least set -/
inductive Esc (n : Nat) (C : Nat → List Int) (lp : Nat → Int) : Nat → Prop
  | out {r l : Nat} (h2 : 2 ≤ l) (hl : l < n) (hr : r < n) (hc : (C r)[l]? = some (-1)) (ho : r < 2 ∨ lp r < lp l) : Esc n C lp l
  | via {r l : Nat} (h2 : 2 ≤ l) (hl : l < n) (hr : r < n) (hc : (C r)[l]? = some (-1)) (ho : Esc n C lp r) : Esc n C lp l

def OutL (lp : Nat → Int) (out : List Bool) (r l : Nat) : Prop := r < 2 ∨ out[r]? = some true ∨ lp r < lp l

/-- r has told all that comes to it, up to l -/
def Told (n : Nat) (C : Nat → List Int) (lp : Nat → Int) (out : List Bool) (r l : Nat) : Prop :=
  ∀ k, 2 ≤ k → k < l → k < n → (C r)[k]? = some (-1) → OutL lp out r k → out[k]? = some true

structure EscSt (n : Nat) (C : Nat → List Int) (lp : Nat → Int) (out : List Bool) : Prop where
  len : out.length = n
  sound : ∀ i, out[i]? = some true → Esc n C lp i

theorem EscSt.done {n : Nat} {C : Nat → List Int} {lp : Nat → Int} {out : List Bool} (h : EscSt n C lp out) (ht : ∀ r, r < n → Told n C lp out r n) : ∀ i, out[i]? = some true ↔ Esc n C lp i := fun i => by
  refine ⟨h.sound i, fun he => ?_⟩
  induction he with
  | out h2 hl hr hc ho => exact ht _ hr _ h2 hl hl hc (ho.elim .inl (fun q => .inr (.inr q)))
  | via h2 hl hr hc _ ih => exact ht _ hr _ h2 hl hl hc (.inr (.inl ih))

theorem EscSt.put {n : Nat} {C : Nat → List Int} {lp : Nat → Int} {out : List Bool} (h : EscSt n C lp out) {r l : Nat} (h2 : 2 ≤ l) (hl : l < n) (hr : r < n) (hc : (C r)[l]? = some (-1)) (ho : OutL lp out r l) : EscSt n C lp (out.set l true) := by
  refine ⟨by rw [List.length_set]; exact h.len, fun i hi => ?_⟩
  by_cases hil : l = i
  · subst hil
    rcases ho with q | q | q
    · exact .out h2 hl hr hc (.inl q)
    · exact .via h2 hl hr hc (h.sound r q)
    · exact .out h2 hl hr hc (.inr q)
  · rw [List.getElem?_set_ne hil] at hi; exact h.sound i hi

/-- how many are not in -/
def nf : List Bool → Nat
  | [] => 0
  | b :: l => (if b then 0 else 1) + nf l
theorem nf_set {l : List Bool} {i : Nat} (h : l[i]? = some false) : nf (l.set i true) + 1 = nf l := by
  induction l generalizing i with
  | nil => simp at h
  | cons x l ih =>
    cases i with
    | zero => simp at h; subst h; simp [nf]; omega
    | succ i => simp at h; have := ih h; simp only [List.set_cons_succ, nf]; omega
theorem nf_le (l : List Bool) : nf l ≤ l.length := by
  induction l with
  | nil => simp [nf]
  | cons b l ih => simp only [nf, List.length_cons]; split <;> omega

theorem set_true {out : List Bool} {l k : Nat} (h : out[k]? = some true) (hl : l < out.length) : (out.set l true)[k]? = some true := by
  by_cases hlk : l = k
  · subst hlk; exact List.getElem?_set_self hl
  · rw [List.getElem?_set_ne hlk]; exact h

/-- the work list's invariant: all but those to do, and r, that has told up to l, have told -/
def EscWork (n : Nat) (C : Nat → List Int) (lp : Nat → Int) (out : List Bool) (q : List Int) (r l : Nat) : Prop :=
  (∀ x ∈ q, 0 ≤ x ∧ x < n) ∧ ∀ s, s < n → (s : Int) ∈ q ∨ (s = r ∧ Told n C lp out s l) ∨ Told n C lp out s n

theorem Told.set {n : Nat} {C : Nat → List Int} {lp : Nat → Int} {out : List Bool} {s l k : Nat} (h : Told n C lp out s l) (hk : k < out.length) (hsk : s ≠ k) : Told n C lp (out.set k true) s l := fun j h2 hj hjn hc ho => by
  refine set_true (h j h2 hj hjn hc ?_) hk
  rcases ho with q | q | q
  · exact .inl q
  · rw [List.getElem?_set_ne (fun e => hsk e.symm)] at q; exact .inr (.inl q)
  · exact .inr (.inr q)

theorem EscWork.start {n : Nat} {C : Nat → List Int} {lp : Nat → Int} {out : List Bool} {q : List Int} (hq : ∀ x ∈ q, 0 ≤ x ∧ x < n) (h : ∀ s, s < n → (s : Int) ∈ q) (r : Nat) : EscWork n C lp out q r n := ⟨hq, fun s hs => .inl (h s hs)⟩

theorem EscWork.pop {n : Nat} {C : Nat → List Int} {lp : Nat → Int} {out : List Bool} {q : List Int} {r0 r : Nat} (h : EscWork n C lp out ((r : Int) :: q) r0 n) : EscWork n C lp out q r 2 := by
  refine ⟨fun x hx => h.1 x (List.mem_cons_of_mem _ hx), fun s hs => ?_⟩
  rcases h.2 s hs with h1 | ⟨_, h1⟩ | h1
  · rcases List.mem_cons.1 h1 with h2 | h2
    · exact .inr (.inl ⟨by omega, fun k h2 hk => by omega⟩)
    · exact .inl h2
  · exact .inr (.inr h1)
  · exact .inr (.inr h1)

theorem EscWork.skip {n : Nat} {C : Nat → List Int} {lp : Nat → Int} {out : List Bool} {q : List Int} {r l : Nat} (h : EscWork n C lp out q r l) (hno : (C r)[l]? = some (-1) → OutL lp out r l → out[l]? = some true) : EscWork n C lp out q r (l + 1) := by
  refine ⟨h.1, fun s hs => ?_⟩
  rcases h.2 s hs with h1 | ⟨rfl, h1⟩ | h1
  · exact .inl h1
  · refine .inr (.inl ⟨rfl, fun k h2 hk hkn hc ho => ?_⟩)
    rcases Nat.lt_or_ge k l with h3 | h3
    · exact h1 k h2 h3 hkn hc ho
    · obtain rfl : k = l := by omega
      exact hno hc ho
  · exact .inr (.inr h1)

theorem EscWork.push {n : Nat} {C : Nat → List Int} {lp : Nat → Int} {out : List Bool} {q : List Int} {r l : Nat} (h : EscWork n C lp out q r l) (hl : l < n) (hlen : out.length = n) : EscWork n C lp (out.set l true) (q ++ [(l : Int)]) r (l + 1) := by
  refine ⟨fun x hx => ?_, fun s hs => ?_⟩
  · rcases List.mem_append.1 hx with h1 | h1
    · exact h.1 x h1
    · simp at h1; omega
  · by_cases hsl : s = l
    · exact .inl (by rw [hsl]; simp)
    · rcases h.2 s hs with h1 | ⟨rfl, h1⟩ | h1
      · exact .inl (List.mem_append_left _ h1)
      · refine .inr (.inl ⟨rfl, fun k h2 hk hkn hc ho => ?_⟩)
        rcases Nat.lt_or_ge k l with h3 | h3
        · exact (h1.set (by omega) hsl) k h2 h3 hkn hc ho
        · obtain rfl : k = l := by omega
          exact List.getElem?_set_self (by omega)
      · exact .inr (.inr (h1.set (by omega) hsl))

theorem EscWork.told {n : Nat} {C : Nat → List Int} {lp : Nat → Int} {out : List Bool} {r : Nat} (h : EscWork n C lp out [] r n) : ∀ s, s < n → Told n C lp out s n := fun s hs => by
  rcases h.2 s hs with h1 | ⟨_, h1⟩ | h1
  · simp at h1
  · exact h1
  · exact h1

theorem EscWork.anyr {n : Nat} {C : Nat → List Int} {lp : Nat → Int} {out : List Bool} {q : List Int} {r : Nat} (h : EscWork n C lp out q r n) (r' : Nat) : EscWork n C lp out q r' n :=
  ⟨h.1, fun s hs => by
    rcases h.2 s hs with h1 | ⟨_, h1⟩ | h1
    · exact .inl h1
    · exact .inr (.inr h1)
    · exact .inr (.inr h1)⟩

end Go.Proofs.Ytadekfjgdbngdaa
