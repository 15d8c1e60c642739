/- Values and their texts, plainly: what is right, its text, and what a text is read to. -/
import Derived.Lib.ValidLaws
import Derived.Lib.AtoiAll
import Derived.Lib.ItoaNum
namespace Go.Proofs.YtahiopjplfnlmaaGreatDoor
open Go

abbrev Nm := List UInt8

/-- a value -/
inductive V
  | mk (sort : Int) (on : Bool) (n : Int) (text : Nm) (list : List V) (keys : List Nm)
def V.sort : V → Int | .mk s _ _ _ _ _ => s
def V.on : V → Bool | .mk _ o _ _ _ _ => o
def V.n : V → Int | .mk _ _ n _ _ _ => n
def V.text : V → Nm | .mk _ _ _ t _ _ => t
def V.list : V → List V | .mk _ _ _ _ l _ => l
def V.keys : V → List Nm | .mk _ _ _ _ _ ks => ks
instance : Inhabited V := ⟨.mk 0 false 0 [] [] []⟩
def V.null : V := .mk 0 false 0 [] [] []

mutual
theorem V.ind_go {P : V → Prop} (h : ∀ s o n t l ks, (∀ x ∈ l, P x) → P (.mk s o n t l ks)) : ∀ v, P v
  | .mk s o n t l ks => h s o n t l ks (V.ind_all h l)
theorem V.ind_all {P : V → Prop} (h : ∀ s o n t l ks, (∀ x ∈ l, P x) → P (.mk s o n t l ks)) : ∀ l : List V, ∀ x ∈ l, P x
  | [] => fun x hx => by cases hx
  | y :: l => List.forall_mem_cons.2 ⟨V.ind_go h y, V.ind_all h l⟩
end
theorem V.ind {P : V → Prop} (h : ∀ s o n t l ks, (∀ x ∈ l, P x) → P (.mk s o n t l ks)) (v : V) : P v := V.ind_go h v

/-! ### what is right -/
/-- keys that may be -/
def distinct : List Nm → Bool
  | [] => true
  | k :: l => Lib.validD k && !l.contains k && distinct l
/-- what is asked of a value but for its list's values -/
def headOk (s : Int) (o : Bool) (n : Int) (t : Nm) (m : Nat) (ks : List Nm) : Bool :=
  (!o || s == 1) && (n == 0 || s == 2) && (t.isEmpty || s == 3) && decide (0 ≤ s) && decide (s ≤ 5) && decide (-9007199254740992 ≤ n) && decide (n ≤ 9007199254740992) &&
  Lib.validD t && distinct ks && (if s = 5 then ks.length == m else ks.isEmpty && (s == 4 || m == 0))
mutual
def right : Nat → V → Bool
  | most, .mk s o n t l ks => headOk s o n t l.length ks && (decide (s < 4) || (decide (0 < most) && rights (most - 1) l))
def rights : Nat → List V → Bool
  | _, [] => true
  | m, v :: l => right m v && rights m l
end
mutual
def formed : V → Bool
  | .mk s o n t l ks => headOk s o n t l.length ks && formeds l
def formeds : List V → Bool
  | [] => true
  | v :: l => formed v && formeds l
end
mutual
def deep : V → Nat
  | .mk s _ _ _ l _ => if s = 4 ∨ s = 5 then deeps l + 1 else 0
def deeps : List V → Nat
  | [] => 0
  | v :: l => max (deep v) (deeps l)
end
theorem rights_all : ∀ (m : Nat) (l : List V), rights m l = l.all (right m)
  | _, [] => rfl
  | m, v :: l => by rw [rights, rights_all m l]; rfl
theorem formeds_all : ∀ (l : List V), formeds l = l.all formed
  | [] => rfl
  | v :: l => by rw [formeds, formeds_all l]; rfl
theorem deeps_le : ∀ (l : List V) (m : Nat), deeps l ≤ m ↔ ∀ v ∈ l, deep v ≤ m
  | [], m => by simp [deeps]
  | v :: l, m => by rw [deeps, Nat.max_le, deeps_le l m]; simp
theorem headOk_list {s : Int} {o : Bool} {n : Int} {t : Nm} {m : Nat} {ks : List Nm} (h : headOk s o n t m ks = true) (h4 : s < 4) : m = 0 := by
  unfold headOk at h
  simp only [Bool.and_eq_true] at h
  obtain ⟨-, h⟩ := h
  rw [if_neg (by omega)] at h
  simp only [Bool.and_eq_true, Bool.or_eq_true, beq_iff_eq] at h
  omega
theorem headOk_sort {s : Int} {o : Bool} {n : Int} {t : Nm} {m : Nat} {ks : List Nm} (h : headOk s o n t m ks = true) : 0 ≤ s ∧ s ≤ 5 := by
  unfold headOk at h
  simp only [Bool.and_eq_true, decide_eq_true_eq] at h
  exact ⟨h.1.1.1.1.1.1.2, h.1.1.1.1.1.2⟩
/-- the two ways to say what is right -/
theorem right_formed : ∀ (v : V) (m : Nat), right m v = (formed v && decide (deep v ≤ m)) := by
  intro v
  induction v using V.ind with
  | h s o n t l ks ih =>
    intro m
    rw [right, formed, deep]
    cases hh : headOk s o n t l.length ks with
    | false => simp
    | true =>
      have hs := headOk_sort hh
      by_cases h4 : s < 4
      · have hl : l = [] := List.eq_nil_of_length_eq_zero (headOk_list hh h4)
        subst hl
        rw [if_neg (by omega)]
        simp [h4, formeds]
      · rw [if_pos (by omega)]
        simp only [h4, decide_false, Bool.false_or, Bool.true_and]
        cases m with
        | zero => simp
        | succ m =>
          rw [Nat.add_sub_cancel, rights_all, formeds_all, Bool.eq_iff_iff]
          simp only [List.all_eq_true, Bool.and_eq_true, decide_eq_true_eq, Nat.add_le_add_iff_right, deeps_le]
          constructor
          · rintro ⟨-, h⟩
            exact ⟨fun x hx => by have := h x hx; rw [ih x hx m] at this; simp at this; exact this.1, fun x hx => by have := h x hx; rw [ih x hx m] at this; simp at this; exact this.2⟩
          · rintro ⟨h1, h2⟩
            refine ⟨by omega, fun x hx => ?_⟩
            rw [ih x hx m]; simp [h1 x hx, h2 x hx]

/-! ### texts -/
def hexFig (n : Nat) : UInt8 := if n < 10 then UInt8.ofNat (48 + n) else UInt8.ofNat (87 + n)
/-- what a byte is in a text between quotes -/
def quoteB (c : UInt8) : Nm :=
  if c < 32 then [92, 117, 48, 48, hexFig (c.toNat / 16), hexFig (c.toNat % 16)] else if c = 34 ∨ c = 92 then [92, c] else [c]
def quoted (s : Nm) : Nm := 34 :: (s.flatMap quoteB ++ [34])
def trueL : Nm := [116, 114, 117, 101]
def falseL : Nm := [102, 97, 108, 115, 101]
def nullL : Nm := [110, 117, 108, 108]
/-- texts with commas between -/
def commas : List Nm → Nm
  | [] => []
  | [x] => x
  | x :: l => x ++ 44 :: commas l
mutual
def textV : V → Nm
  | .mk s o n t l ks =>
    if s = 1 then (if o then trueL else falseL) else if s = 2 then Lib.itoa n else if s = 3 then quoted t else if s = 0 then nullL
    else if s = 5 then 123 :: (commas (textKs l ks) ++ [125]) else 91 :: (commas (textsV l) ++ [93])
def textsV : List V → List Nm
  | [] => []
  | v :: l => textV v :: textsV l
/-- with keys -/
def textKs : List V → List Nm → List Nm
  | [], _ => []
  | v :: l, ks => (quoted (ks.headD []) ++ 58 :: textV v) :: textKs l ks.tail
end
theorem textsV_map : ∀ l : List V, textsV l = l.map textV
  | [] => rfl
  | v :: l => by rw [textsV, textsV_map l]; rfl

/-! ### what a text is read to -/
def isBlank (c : UInt8) : Bool := c == 32 || c == 9 || c == 10 || c == 13
def skip (s : Nm) : Nm := s.dropWhile isBlank
/-- what is left behind a text that comes -/
def takes (p s : Nm) : Option Nm := if s.take p.length = p then some (s.drop p.length) else none
def hexVal (c : UInt8) : Option Nat :=
  if 48 ≤ c ∧ c ≤ 57 then some (c.toNat - 48) else if 97 ≤ c ∧ c ≤ 102 then some (c.toNat - 87) else if 65 ≤ c ∧ c ≤ 70 then some (c.toNat - 55) else none
def unit4 : Nm → Option (Nat × Nm)
  | a :: b :: c :: d :: r =>
    match hexVal a, hexVal b, hexVal c, hexVal d with
    | some a, some b, some c, some d => some (((a * 16 + b) * 16 + c) * 16 + d, r)
    | _, _, _, _ => none
  | _ => none
/-- the bytes of a scalar -/
def scalarB (n : Nat) : Nm :=
  if n < 128 then [UInt8.ofNat n]
  else if n < 2048 then [UInt8.ofNat (192 + n / 64), UInt8.ofNat (128 + n % 64)]
  else if n < 65536 then [UInt8.ofNat (224 + n / 4096), UInt8.ofNat (128 + n / 64 % 64), UInt8.ofNat (128 + n % 64)]
  else [UInt8.ofNat (240 + n / 262144), UInt8.ofNat (128 + n / 4096 % 64), UInt8.ofNat (128 + n / 64 % 64), UInt8.ofNat (128 + n % 64)]
/-- what one byte behind a backslash stands for -/
def escB (c : UInt8) : Option UInt8 :=
  if c = 34 then some 34 else if c = 92 then some 92 else if c = 47 then some 47 else if c = 98 then some 8 else if c = 102 then some 12 else if c = 110 then some 10 else if c = 114 then some 13 else if c = 116 then some 9 else none
def pairN (a b : Nat) : Nat := (a - 55296) * 1024 + (b - 56320) + 65536
def escaped : Nm → Option (Nm × Nm)
  | [] => none
  | c :: r =>
    match escB c with
    | some x => some ([x], r)
    | none =>
      if c ≠ 117 then none
      else match unit4 r with
        | none => none
        | some (a, r) =>
          if a < 55296 ∨ 57344 ≤ a then some (scalarB a, r)
          else match takes [92, 117] r with
            | none => none
            | some r => match unit4 r with
              | none => none
              | some (b, r) => if a < 56320 ∧ 56320 ≤ b ∧ b < 57344 then some (scalarB (pairN a b), r) else none
/-- the text up to the next quote, behind what was read of it -/
def strL : Nat → Nm → Nm → Option (Nm × Nm)
  | 0, _, _ => none
  | _ + 1, _, [] => none
  | f + 1, acc, c :: r =>
    if c < 32 then none
    else if c = 34 then some (acc, r)
    else if c = 92 then (match escaped r with | none => none | some (x, r) => strL f (acc ++ x) r)
    else strL f (acc ++ [c]) r
def quoteL (s : Nm) : Option (Nm × Nm) := match takes [34] s with | none => none | some r => strL (r.length + 1) [] r
def isFig (c : UInt8) : Bool := decide (48 ≤ c.toNat) && decide (c.toNat ≤ 57)
theorem isFig_iff {c : UInt8} : isFig c = true ↔ 48 ≤ c.toNat ∧ c.toNat ≤ 57 := by simp [isFig]
/-- the figures at a text's head, a minus ahead of them -/
def numRest (s : Nm) : Nm := (match takes [45] s with | some r => r | none => s).dropWhile isFig
def numHead (s : Nm) : Nm := s.take (s.length - (numRest s).length)
def numL (s : Nm) : Option (Int × Nm) :=
  match Lib.atoiAll (numHead s) with
  | .ok n => if Lib.itoa n = numHead s ∧ -9007199254740992 ≤ n ∧ n ≤ 9007199254740992 then some (n, numRest s) else none
  | _ => none

inductive Res
  | out
  | err (e : Int)
  | ok (v : V) (rest : Nm)
/-- is there a first byte, and is it one of these? -/
def comes (p : UInt8 → Bool) : Nm → Bool
  | [] => false
  | c :: _ => p c
def plainL (s : Nm) : Res :=
  if comes (· == 34) s then (match quoteL s with | none => .err 21 | some (t, r) => .ok (.mk 3 false 0 t [] []) r)
  else if comes (fun c => c == 45 || isFig c) s then (match numL s with | none => .err 21 | some (n, r) => .ok (.mk 2 false n [] [] []) r)
  else match takes trueL s with
    | some r => .ok (.mk 1 true 0 [] [] []) r
    | none => match takes falseL s with
      | some r => .ok (.mk 1 false 0 [] [] []) r
      | none => match takes nullL s with
        | some r => .ok .null r
        | none => .err 21
/-- a key, and what stands behind its colon -/
def keyL (s : Nm) (ks : List Nm) : Option (Nm × Nm) :=
  match quoteL (skip s) with
  | none => none
  | some (k, r) => if k ∈ ks then none else match takes [58] (skip r) with | none => none | some r => some (k, r)
mutual
def valL : Nat → Nat → Nm → Res
  | 0, _, _ => .out
  | f + 1, o, s =>
    match (match takes [123] (skip s) with
      | some r => partsL f o 5 125 r
      | none => match takes [91] (skip s) with
        | some r => partsL f o 4 93 r
        | none => plainL (skip s)) with
    | .ok v r => .ok v (skip r)
    | e => e
def partsL : Nat → Nat → Int → UInt8 → Nm → Res
  | 0, _, _, _, _ => .out
  | f + 1, o, sort, e, s =>
    if 20 ≤ o then .err 22
    else match takes [e] (skip s) with
      | some r => .ok (.mk sort false 0 [] [] []) r
      | none => loopL f (o + 1) sort e (skip s) [] []
def loopL : Nat → Nat → Int → UInt8 → Nm → List V → List Nm → Res
  | 0, _, _, _, _, _, _ => .out
  | f + 1, o, sort, e, s, vs, ks =>
    if sort = 5 then
      match keyL s ks with
      | none => .err 21
      | some (k, r) => elemL f o sort e r vs (ks ++ [k])
    else elemL f o sort e s vs ks
def elemL : Nat → Nat → Int → UInt8 → Nm → List V → List Nm → Res
  | 0, _, _, _, _, _, _ => .out
  | f + 1, o, sort, e, s, vs, ks =>
    match valL f o s with
    | .ok x r =>
      match takes [e] r with
      | some r => .ok (.mk sort false 0 [] (vs ++ [x]) ks) r
      | none => match takes [44] r with
        | some r => loopL f o sort e r (vs ++ [x]) ks
        | none => .err 21
    | r => r
end
/-- enough steps for a text -/
def steps (s : Nm) : Nat := 4 * s.length + 8
def readL (s : Nm) : Res :=
  if Lib.validD s then
    match valL (steps s) 0 s with
    | .ok v r => if r = [] then .ok v [] else .err 21
    | e => e
  else .err 11
end Go.Proofs.YtahiopjplfnlmaaGreatDoor
