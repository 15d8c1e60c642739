/- Blanks about a text change nothing; no deeper than may be; plainly. -/
import Derived.Test.YtahiopjplfnlmaaGreatDoorBk2
namespace Go.Proofs.YtahiopjplfnlmaaGreatDoor
open Go

section
variable {b : UInt8}
/-- a blank more at the end, or both at the end -/
def More (b : UInt8) (s s' : Nm) : Prop := s' = s ++ [b] ∨ (s = [] ∧ s' = [])
theorem More.cons {c : UInt8} {s s' : Nm} (h : More b (c :: s) s') : ∃ t, s' = c :: t ∧ More b s t := by
  rcases h with rfl | ⟨h, -⟩
  · exact ⟨s ++ [b], rfl, .inl rfl⟩
  · cases h
theorem More.nil {s' : Nm} (h : More b [] s') : s' = [b] ∨ s' = [] := by
  rcases h with rfl | ⟨-, rfl⟩
  · exact .inl rfl
  · exact .inr rfl
theorem skip_more (hb : isBlank b = true) : ∀ {s s' : Nm}, More b s s' → More b (skip s) (skip s')
  | [], s', h => by
    rcases h.nil with rfl | rfl
    · rw [skip_blank hb]; exact .inr ⟨rfl, rfl⟩
    · exact .inr ⟨rfl, rfl⟩
  | c :: s, s', h => by
    obtain ⟨t, rfl, h1⟩ := h.cons
    by_cases hc : isBlank c = true
    · rw [skip_blank hc, skip_blank hc]; exact skip_more hb h1
    · have hc : isBlank c = false := by simpa using hc
      rw [skip_cons hc, skip_cons hc]
      rcases h1 with rfl | ⟨rfl, rfl⟩
      · exact .inl rfl
      · rcases h with h | h
        · simp at h
        · cases h.1
theorem takes_more : ∀ {p s s' : Nm}, ¬ b ∈ p → More b s s' → (∀ r, takes p s = some r → ∃ r', takes p s' = some r' ∧ More b r r') ∧ (takes p s = none → takes p s' = none)
  | [], s, s', _, h => ⟨fun r hr => by rw [takes_nil] at hr; injection hr with hr; exact ⟨s', takes_nil _, hr ▸ h⟩, fun hr => by rw [takes_nil] at hr; cases hr⟩
  | a :: p, [], s', hp, h => by
    refine ⟨fun r hr => (by rw [takes_empty] at hr; cases hr), fun _ => ?_⟩
    rcases h.nil with rfl | rfl
    · rw [takes_cons, if_neg (fun he => hp (by simp [he]))]
    · exact takes_empty _ _
  | a :: p, c :: s, s', hp, h => by
    obtain ⟨t, rfl, h1⟩ := h.cons
    have ih := takes_more (p := p) (fun hm => hp (by simp [hm])) h1
    rw [takes_cons, takes_cons]
    by_cases hc : c = a
    · rw [if_pos hc, if_pos hc]; exact ih
    · rw [if_neg hc, if_neg hc]
      exact ⟨fun r hr => (by cases hr), fun _ => rfl⟩
theorem blank_cases (hb : isBlank b = true) : b = 32 ∨ b = 9 ∨ b = 10 ∨ b = 13 := by
  unfold isBlank at hb
  simp only [Bool.or_eq_true, beq_iff_eq] at hb
  rcases hb with ((h | h) | h) | h
  · exact .inl h
  · exact .inr (.inl h)
  · exact .inr (.inr (.inl h))
  · exact .inr (.inr (.inr h))
theorem hex_blank (hb : isBlank b = true) : hexVal b = none := by rcases blank_cases hb with rfl | rfl | rfl | rfl <;> decide
theorem esc_blank (hb : isBlank b = true) : escB b = none := by rcases blank_cases hb with rfl | rfl | rfl | rfl <;> decide
theorem ne_blank (hb : isBlank b = true) {c : UInt8} (hc : isBlank c = false) : c ≠ b := fun he => by rw [he, hb] at hc; cases hc
theorem mem_blank (hb : isBlank b = true) {p : Nm} (hp : p.all (fun c => !isBlank c) = true) : ¬ b ∈ p := fun hm => by
  have := List.all_eq_true.1 hp b hm
  rw [hb] at this; cases this
/-- two answers that tell one, and leave what goes on alike -/
def OptMore (b : UInt8) {α : Type} (x y : Option (α × Nm)) : Prop := (x = none ∧ y = none) ∨ ∃ a r r', x = some (a, r) ∧ y = some (a, r') ∧ More b r r'
theorem unit4_more (hb : isBlank b = true) {s s' : Nm} (h : More b s s') : OptMore b (unit4 s) (unit4 s') := by
  rcases h with rfl | ⟨rfl, rfl⟩
  · match s with
    | [] => exact .inl ⟨rfl, rfl⟩
    | [_] => exact .inl ⟨rfl, rfl⟩
    | [_, _] => exact .inl ⟨rfl, rfl⟩
    | [x, y, z] =>
      refine .inl ⟨rfl, ?_⟩
      show (match hexVal x, hexVal y, hexVal z, hexVal b with
        | some a, some b, some c, some d => some (((a * 16 + b) * 16 + c) * 16 + d, [])
        | _, _, _, _ => none) = none
      rw [hex_blank hb]
      split
      · rename_i h; cases h
      · rfl
    | x :: y :: z :: u :: r =>
      simp only [unit4, List.cons_append]
      split
      · exact .inr ⟨_, _, _, rfl, rfl, .inl rfl⟩
      · exact .inl ⟨rfl, rfl⟩
  · exact .inl ⟨rfl, rfl⟩
theorem escaped_more (hb : isBlank b = true) {s s' : Nm} (h : More b s s') : OptMore b (escaped s) (escaped s') := by
  cases s with
  | nil =>
    rcases h.nil with rfl | rfl
    · refine .inl ⟨rfl, ?_⟩
      simp only [escaped, esc_blank hb]
      rw [if_pos (fun he => by rw [he] at hb; exact absurd hb (by decide))]
    · exact .inl ⟨rfl, rfl⟩
  | cons c s =>
    obtain ⟨t, rfl, h1⟩ := h.cons
    simp only [escaped]
    cases he : escB c with
    | some x => exact .inr ⟨_, _, _, rfl, rfl, h1⟩
    | none =>
      simp only
      by_cases hc : c ≠ 117
      · rw [if_pos hc, if_pos hc]; exact .inl ⟨rfl, rfl⟩
      · rw [if_neg hc, if_neg hc]
        rcases unit4_more hb h1 with ⟨e1, e2⟩ | ⟨a, r, r', e1, e2, h2⟩
        · rw [e1, e2]; exact .inl ⟨rfl, rfl⟩
        · rw [e1, e2]
          simp only
          split
          · exact .inr ⟨_, _, _, rfl, rfl, h2⟩
          · obtain ⟨t1, t2⟩ := takes_more (p := [92, 117]) (mem_blank hb (by decide)) h2
            cases hq : takes [92, 117] r with
            | none => rw [t2 hq]; exact .inl ⟨rfl, rfl⟩
            | some q =>
              obtain ⟨q', hq', h3⟩ := t1 q hq
              rw [hq']
              simp only
              rcases unit4_more hb h3 with ⟨e3, e4⟩ | ⟨a2, r2, r2', e3, e4, h4⟩
              · rw [e3, e4]; exact .inl ⟨rfl, rfl⟩
              · rw [e3, e4]
                simp only
                split
                · exact .inr ⟨_, _, _, rfl, rfl, h4⟩
                · exact .inl ⟨rfl, rfl⟩
theorem strL_more (hb : isBlank b = true) : ∀ (f : Nat) (acc : Nm) {s s' : Nm}, More b s s' → s'.length < f → s.length < f → OptMore b (strL f acc s) (strL f acc s')
  | 0, _, _, _, _, h, _ => by omega
  | f + 1, acc, [], s', h, hf, _ => by
    refine .inl ⟨by rw [strL], ?_⟩
    rcases h.nil with rfl | rfl
    · simp only [strL]
      have h0 : strL f (acc ++ [b]) [] = none := by cases f <;> rfl
      split
      · rfl
      · split
        · rename_i he; rw [he] at hb; exact absurd hb (by decide)
        · split
          · rename_i he; rw [he] at hb; exact absurd hb (by decide)
          · exact h0
    · rw [strL]
  | f + 1, acc, c :: s, s', h, hf, hf2 => by
    obtain ⟨t, rfl, h1⟩ := h.cons
    simp only [List.length_cons] at hf hf2
    simp only [strL]
    split
    · exact .inl ⟨rfl, rfl⟩
    · split
      · exact .inr ⟨_, _, _, rfl, rfl, h1⟩
      · split
        · rcases escaped_more hb h1 with ⟨e1, e2⟩ | ⟨a, r, r', e1, e2, h2⟩
          · rw [e1, e2]; exact .inl ⟨rfl, rfl⟩
          · rw [e1, e2]
            have := escaped_len e1
            have := escaped_len e2
            exact strL_more hb f _ h2 (by omega) (by omega)
        · exact strL_more hb f _ h1 (by omega) (by omega)
theorem quoteL_more (hb : isBlank b = true) {s s' : Nm} (h : More b s s') : OptMore b (quoteL s) (quoteL s') := by
  unfold quoteL
  obtain ⟨t1, t2⟩ := takes_more (p := [34]) (mem_blank hb (by decide)) h
  cases hq : takes [34] s with
  | none => rw [t2 hq]; exact .inl ⟨rfl, rfl⟩
  | some q =>
    obtain ⟨q', hq', h3⟩ := t1 q hq
    rw [hq']
    simp only
    rw [strL_fuel (q.length + 1) (q.length + q'.length + 1) [] q (by omega) (by omega), strL_fuel (q'.length + 1) (q.length + q'.length + 1) [] q' (by omega) (by omega)]
    exact strL_more hb _ _ h3 (by omega) (by omega)
theorem keyL_more (hb : isBlank b = true) {s s' : Nm} (h : More b s s') (ks : List Nm) : OptMore b (keyL s ks) (keyL s' ks) := by
  unfold keyL
  rcases quoteL_more hb (skip_more hb h) with ⟨e1, e2⟩ | ⟨a, r, r', e1, e2, h2⟩
  · rw [e1, e2]; exact .inl ⟨rfl, rfl⟩
  · rw [e1, e2]
    simp only
    split
    · exact .inl ⟨rfl, rfl⟩
    · obtain ⟨t1, t2⟩ := takes_more (p := [58]) (mem_blank hb (by decide)) (skip_more hb h2)
      cases hq : takes [58] (skip r) with
      | none => rw [t2 hq]; exact .inl ⟨rfl, rfl⟩
      | some q =>
        obtain ⟨q', hq', h3⟩ := t1 q hq
        rw [hq']
        exact .inr ⟨_, _, _, rfl, rfl, h3⟩
theorem fig_blank (hb : isBlank b = true) : isFig b = false := by rcases blank_cases hb with rfl | rfl | rfl | rfl <;> decide
theorem drop_more (hb : isBlank b = true) : ∀ s : Nm, (s ++ [b]).dropWhile isFig = s.dropWhile isFig ++ [b]
  | [] => by simp [fig_blank hb]
  | c :: s => by
    rw [List.cons_append, List.dropWhile_cons, List.dropWhile_cons]
    split
    · exact drop_more hb s
    · rfl
theorem numRest_more (hb : isBlank b = true) (s : Nm) : numRest (s ++ [b]) = numRest s ++ [b] := by
  unfold numRest
  obtain ⟨t1, t2⟩ := takes_more (b := b) (p := [45]) (s := s) (s' := s ++ [b]) (mem_blank hb (by decide)) (.inl rfl)
  cases hq : takes [45] s with
  | none => rw [t2 hq]; exact drop_more hb s
  | some q =>
    have e := takes_some hq
    have hq' : takes [45] (s ++ [b]) = some (q ++ [b]) := by rw [e, List.append_assoc, takes_app]
    rw [hq']
    exact drop_more hb q
theorem numL_more (hb : isBlank b = true) {s s' : Nm} (h : More b s s') : OptMore b (numL s) (numL s') := by
  rcases h with rfl | ⟨rfl, rfl⟩
  · have e1 := numRest_more hb s
    have e2 : numHead (s ++ [b]) = numHead s := by
      unfold numHead
      rw [e1, List.length_append, List.length_append, Nat.add_sub_add_right, List.take_append_of_le_length (by omega)]
    unfold numL
    rw [e1, e2]
    split
    · split
      · exact .inr ⟨_, _, _, rfl, rfl, .inl rfl⟩
      · exact .inl ⟨rfl, rfl⟩
    · exact .inl ⟨rfl, rfl⟩
  · exact .inl ⟨by decide, by decide⟩
def ResMore (b : UInt8) : Res → Res → Prop
  | .out, .out => True
  | .err e, .err e' => e = e'
  | .ok v r, .ok v' r' => v = v' ∧ More b r r'
  | _, _ => False
theorem comes_more {p : UInt8 → Bool} (hp : p b = false) {s s' : Nm} (h : More b s s') : comes p s' = comes p s := by
  cases s with
  | nil =>
    rcases h.nil with rfl | rfl
    · exact hp
    · rfl
  | cons c s =>
    obtain ⟨t, rfl, -⟩ := h.cons
    rfl
theorem takes_res (hb : isBlank b = true) {p : Nm} (hp : p.all (fun c => !isBlank c) = true) {s s' : Nm} (h : More b s s') {g : Nm → Res} {k k' : Res} (hg : ∀ r r', takes p s = some r → takes p s' = some r' → More b r r' → ResMore b (g r) (g r')) (hk : ResMore b k k') :
    ResMore b (match takes p s with | some r => g r | none => k) (match takes p s' with | some r => g r | none => k') := by
  obtain ⟨t1, t2⟩ := takes_more (mem_blank hb hp) h
  cases hq : takes p s with
  | none => rw [t2 hq]; exact hk
  | some q =>
    obtain ⟨q', hq', h3⟩ := t1 q hq
    rw [hq']
    exact hg q q' hq hq' h3
theorem plainL_more (hb : isBlank b = true) {s s' : Nm} (h : More b s s') : ResMore b (plainL s) (plainL s') := by
  unfold plainL
  have c1 : (b == 34) = false := by rcases blank_cases hb with rfl | rfl | rfl | rfl <;> rfl
  have c2 : (b == 45 || isFig b) = false := by rcases blank_cases hb with rfl | rfl | rfl | rfl <;> rfl
  rw [comes_more (p := (· == 34)) c1 h, comes_more (p := fun c => c == 45 || isFig c) c2 h]
  split
  · rcases quoteL_more hb h with ⟨e1, e2⟩ | ⟨a, r, r', e1, e2, h2⟩
    · rw [e1, e2]; exact rfl
    · rw [e1, e2]; exact ⟨rfl, h2⟩
  · split
    · rcases numL_more hb h with ⟨e1, e2⟩ | ⟨a, r, r', e1, e2, h2⟩
      · rw [e1, e2]; exact rfl
      · rw [e1, e2]; exact ⟨rfl, h2⟩
    · exact takes_res hb (by decide) h (fun _ _ _ _ h3 => ⟨rfl, h3⟩) (takes_res hb (by decide) h (fun _ _ _ _ h3 => ⟨rfl, h3⟩) (takes_res hb (by decide) h (fun _ _ _ _ h3 => ⟨rfl, h3⟩) rfl))
def finL : Res → Res
  | .ok v r => .ok v (skip r)
  | e => e
def headL (f o : Nat) (s : Nm) : Res :=
  match takes [123] s with
  | some r => partsL f o 5 125 r
  | none => match takes [91] s with
    | some r => partsL f o 4 93 r
    | none => plainL s
theorem valL_fin (f o : Nat) (s : Nm) : valL (f + 1) o s = finL (headL f o (skip s)) := by rw [valL]; rfl
theorem finL_more (hb : isBlank b = true) {x y : Res} (key : ResMore b x y) : ResMore b (finL x) (finL y) := by
  cases x <;> cases y <;> simp only [ResMore, finL] at key ⊢
  · exact key
  · exact ⟨key.1, skip_more hb key.2⟩
theorem read_blank (hb : isBlank b = true) : ∀ f : Nat, (∀ o s s', More b s s' → ResMore b (valL f o s) (valL f o s')) ∧ (∀ o sort e s s', isBlank e = false → More b s s' → ResMore b (partsL f o sort e s) (partsL f o sort e s')) ∧
    (∀ o sort e s s' vs ks, isBlank e = false → More b s s' → ResMore b (loopL f o sort e s vs ks) (loopL f o sort e s' vs ks)) ∧ (∀ o sort e s s' vs ks, isBlank e = false → More b s s' → ResMore b (elemL f o sort e s vs ks) (elemL f o sort e s' vs ks))
  | 0 => ⟨fun _ _ _ _ => by simp [valL, ResMore], fun _ _ _ _ _ _ _ => by simp [partsL, ResMore], fun _ _ _ _ _ _ _ _ _ => by simp [loopL, ResMore], fun _ _ _ _ _ _ _ _ _ => by simp [elemL, ResMore]⟩
  | f + 1 => by
    obtain ⟨h1, h2, h3, h4⟩ := read_blank hb f
    refine ⟨fun o s s' h => ?_, fun o sort e s s' he h => ?_, fun o sort e s s' vs ks he h => ?_, fun o sort e s s' vs ks he h => ?_⟩
    · rw [valL_fin, valL_fin]
      have hs := skip_more hb h
      refine finL_more hb ?_
      unfold headL
      exact takes_res hb (p := [123]) (by decide) hs (g := fun r => partsL f o 5 125 r) (fun r r' _ _ h5 => h2 o 5 125 r r' (by decide) h5)
        (takes_res hb (p := [91]) (by decide) hs (g := fun r => partsL f o 4 93 r) (fun r r' _ _ h5 => h2 o 4 93 r r' (by decide) h5) (plainL_more hb hs))
    · rw [partsL_step, partsL_step]
      have hs := skip_more hb h
      split
      · exact rfl
      · exact takes_res hb (p := [e]) (by simp [he]) hs (fun _ _ _ _ h5 => ⟨rfl, h5⟩) (h3 _ _ _ _ _ _ _ he hs)
    · rw [loopL_step, loopL_step]
      split
      · rcases keyL_more hb h ks with ⟨e1, e2⟩ | ⟨a, r, r', e1, e2, h5⟩
        · rw [e1, e2]; exact rfl
        · rw [e1, e2]; exact h4 _ _ _ _ _ _ _ he h5
      · exact h4 _ _ _ _ _ _ _ he h
    · rw [elemL_step, elemL_step]
      have key := h1 o s s' h
      revert key
      generalize valL f o s = x
      generalize valL f o s' = y
      intro key
      cases x <;> cases y <;> simp only [ResMore] at key ⊢
      · exact key
      · obtain ⟨rfl, h5⟩ := key
        exact takes_res hb (p := [e]) (by simp [he]) h5 (fun _ _ _ _ h6 => ⟨rfl, h6⟩) (takes_res hb (p := [44]) (by decide) h5 (fun r r' _ _ h6 => h3 _ _ _ _ _ _ _ he h6) rfl)
theorem valL_blank (hb : isBlank b = true) (f o : Nat) (s : Nm) : valL f o (b :: s) = valL f o s := by
  cases f with
  | zero => rw [valL, valL]
  | succ f => rw [valL_step, valL_step, skip_blank hb]
/-- blanks about a text -/
theorem readL_blank (hb : isBlank b = true) (s : Nm) : readL (b :: (s ++ [b])) = readL s := by
  have hl := blank_low b hb
  have hv : Lib.validD (b :: (s ++ [b])) = Lib.validD s := by
    rw [Lib.validD_cons _ _ hl, Bool.eq_iff_iff]
    constructor
    · intro h; exact (valid_cut hl s [] h).1
    · intro h; exact valid_app h (valid_one hl rfl)
  unfold readL
  rw [hv]
  split
  · have h1 := valL_steps 0 s
    have h2 := valL_steps 0 (b :: (s ++ [b]))
    have h3 : valL (steps s + steps (b :: (s ++ [b]))) 0 s = valL (steps s) 0 s := valL_more h1 _
    have h4 : valL (steps s + steps (b :: (s ++ [b]))) 0 (b :: (s ++ [b])) = valL (steps (b :: (s ++ [b]))) 0 (b :: (s ++ [b])) := by rw [Nat.add_comm]; exact valL_more h2 _
    rw [← h3, ← h4, valL_blank hb]
    have key := (read_blank hb (steps s + steps (b :: (s ++ [b])))).1 0 s (s ++ [b]) (.inl rfl)
    have hend : ∀ v r, valL (steps s + steps (b :: (s ++ [b]))) 0 s = .ok v r → skip r = r := fun v r h => by
      obtain ⟨g, hg⟩ : ∃ g, steps s + steps (b :: (s ++ [b])) = g + 1 := ⟨steps s + steps (b :: (s ++ [b])) - 1, by unfold steps; omega⟩
      rw [hg, valL_step] at h
      split at h
      · injection h with _ e; rw [← e]; exact skip_skip _
      · rename_i hne; exact absurd h (hne _ _)
    have hend2 : ∀ v r, valL (steps s + steps (b :: (s ++ [b]))) 0 (s ++ [b]) = .ok v r → skip r = r := fun v r h => by
      obtain ⟨g, hg⟩ : ∃ g, steps s + steps (b :: (s ++ [b])) = g + 1 := ⟨steps s + steps (b :: (s ++ [b])) - 1, by unfold steps; omega⟩
      rw [hg, valL_step] at h
      split at h
      · injection h with _ e; rw [← e]; exact skip_skip _
      · rename_i hne; exact absurd h (hne _ _)
    revert key hend hend2
    generalize valL (steps s + steps (b :: (s ++ [b]))) 0 s = x
    generalize valL (steps s + steps (b :: (s ++ [b]))) 0 (s ++ [b]) = y
    intro key hend hend2
    cases x <;> cases y <;> simp only [ResMore] at key ⊢
    · rw [key]
    · rename_i v r v' r'
      obtain ⟨rfl, h5⟩ := key
      have h6 := hend2 v r' rfl
      have h7 : r' = [] ↔ r = [] := by
        constructor
        · intro he
          rcases h5 with h8 | ⟨h8, -⟩
          · rw [he] at h8; simp at h8
          · exact h8
        · intro he
          rcases h5 with h8 | ⟨-, h8⟩
          · rw [he] at h8
            rw [h8] at h6 ⊢
            rw [List.nil_append, skip_blank hb] at h6; cases h6
          · exact h8
      by_cases h8 : r = []
      · rw [if_pos h8, if_pos (h7.2 h8)]
      · rw [if_neg h8, if_neg (fun h => h8 (h7.1 h))]
  · rfl
end

/-! ### no deeper than may be -/
/-- so many brackets, of either kind -/
def nestT (how : Nat → Bool) : Nat → Nm
  | 0 => nullL
  | k + 1 => if how k then 123 :: (quoted [107] ++ 58 :: (nestT how k ++ [125])) else 91 :: (nestT how k ++ [93])
def nestV (how : Nat → Bool) : Nat → V
  | 0 => .null
  | k + 1 => if how k then .mk 5 false 0 [] [nestV how k] [[107]] else .mk 4 false 0 [] [nestV how k] []
theorem nest_text (how : Nat → Bool) : ∀ k, textV (nestV how k) = nestT how k
  | 0 => rfl
  | k + 1 => by
    have ih := nest_text how k
    unfold nestV nestT
    by_cases h : how k = true
    · rw [if_pos h, if_pos h, textV]
      simp [textKs, commas, ih]
    · rw [if_neg h, if_neg h, textV]
      simp [textsV, commas, ih]
theorem nest_deep (how : Nat → Bool) : ∀ k, deep (nestV how k) = k
  | 0 => rfl
  | k + 1 => by
    have ih := nest_deep how k
    unfold nestV
    by_cases h : how k = true
    · rw [if_pos h, deep]; simp [deeps, ih]
    · rw [if_neg h, deep]; simp [deeps, ih]
theorem nest_formed (how : Nat → Bool) : ∀ k, formed (nestV how k) = true
  | 0 => rfl
  | k + 1 => by
    have ih := nest_formed how k
    unfold nestV
    by_cases h : how k = true
    · rw [if_pos h, formed]
      have : headOk 5 false 0 [] 1 [[107]] = true := by decide
      simp [formeds, ih, this]
    · rw [if_neg h, formed]
      have : headOk 4 false 0 [] 1 [] = true := by decide
      simp [formeds, ih, this]
theorem nest_right (how : Nat → Bool) (k : Nat) : right 20 (nestV how k) = decide (k ≤ 20) := by rw [right_formed, nest_formed, nest_deep]; simp
theorem nest_head (how : Nat → Bool) (k : Nat) : ∃ c r, nestT how k = c :: r ∧ Begins c := by
  rw [← nest_text]; exact textV_head _ (formed_sort (nest_formed how k))
/-- one bracket too many -/
theorem nest_read (how : Nat → Bool) : ∀ (k o : Nat) (r : Nm), o ≤ 20 → 20 < o + k → ∃ f, valL f o (nestT how k ++ r) = .err 22
  | 0, o, r, h, hk => by omega
  | k + 1, o, r, h, hk => by
    obtain ⟨c, q, hc, hb⟩ := nest_head how k
    by_cases ho : o = 20
    · refine ⟨2, ?_⟩
      unfold nestT
      by_cases hh : how k = true
      · rw [if_pos hh, valL_step, List.cons_append, skip_cons (by decide), takes_cons, if_pos rfl, takes_nil]
        simp only
        rw [partsL_step, if_pos (by omega)]
      · rw [if_neg hh, valL_step, List.cons_append, skip_cons (by decide), takes_cons, if_neg (by decide)]
        simp only
        rw [takes_cons, if_pos rfl, takes_nil]
        simp only
        rw [partsL_step, if_pos (by omega)]
    · by_cases hh : how k = true
      · obtain ⟨f, hf⟩ := nest_read how k (o + 1) (125 :: r) (by omega) (by omega)
        refine ⟨f + 4, ?_⟩
        unfold nestT
        have e : 123 :: (quoted [107] ++ 58 :: (nestT how k ++ [125])) ++ r = 123 :: (quoted [107] ++ 58 :: (nestT how k ++ 125 :: r)) := by simp
        rw [if_pos hh, e, valL_step, skip_cons (by decide), takes_cons, if_pos rfl, takes_nil]
        simp only
        have e2 : skip (quoted [107] ++ 58 :: (nestT how k ++ 125 :: r)) = quoted [107] ++ 58 :: (nestT how k ++ 125 :: r) := by unfold quoted; exact skip_cons (by decide)
        have e3 : takes [125] (quoted [107] ++ 58 :: (nestT how k ++ 125 :: r)) = none := by unfold quoted; rw [List.cons_append, takes_cons, if_neg (by decide)]
        rw [partsL_step, if_neg (by omega), e2, e3]
        simp only
        rw [loopL_step, if_pos rfl, keyL_text _ _ _ (by simp)]
        simp only
        rw [elemL_step, hf]
      · obtain ⟨f, hf⟩ := nest_read how k (o + 1) (93 :: r) (by omega) (by omega)
        refine ⟨f + 4, ?_⟩
        unfold nestT
        have e : 91 :: (nestT how k ++ [93]) ++ r = 91 :: (nestT how k ++ 93 :: r) := by simp
        rw [if_neg hh, e, valL_step, skip_cons (by decide), takes_cons, if_neg (by decide)]
        simp only
        rw [takes_cons, if_pos rfl, takes_nil]
        simp only
        have e2 : skip (nestT how k ++ 93 :: r) = nestT how k ++ 93 :: r := by rw [hc]; exact skip_cons hb.1
        have e3 : takes [93] (nestT how k ++ 93 :: r) = none := by rw [hc, List.cons_append, takes_cons, if_neg hb.2.1]
        rw [partsL_step, if_neg (by omega), e2, e3]
        simp only
        rw [loopL_step, if_neg (by decide), elemL_step, hf]
theorem nest_valid (how : Nat → Bool) (k : Nat) : Lib.validD (nestT how k) = true := by rw [← nest_text]; exact valid_textV _ (nest_formed how k)
theorem nest_readL (how : Nat → Bool) (k : Nat) : readL (nestT how k) = if k ≤ 20 then .ok (nestV how k) [] else .err 22 := by
  by_cases h : k ≤ 20
  · rw [if_pos h, ← nest_text]
    exact readL_text (by rw [nest_right]; simpa using h)
  · rw [if_neg h]
    obtain ⟨f, hf⟩ := nest_read how k 0 [] (by omega) (by omega)
    rw [List.append_nil] at hf
    unfold readL
    rw [if_pos (nest_valid how k), valL_same (valL_steps 0 _) (g := f) (by rw [hf]; simp), hf]
end Go.Proofs.YtahiopjplfnlmaaGreatDoor
