/- Frames, plainly: with what bytes begin, and what they hold. -/
import Derived.Test.YtgfkgcnnjehmlaaDoorNum
namespace Go.Proofs.YtgfkgcnnjehmlaaDoor
open Go

def wordL : List UInt8 := [67, 111, 110, 116, 101, 110, 116, 45, 76, 101, 110, 103, 116, 104, 58, 32]
def endL : List UInt8 := [13, 10, 13, 10]

/-- with what bytes begin: none: with no frame; some none: with what may become one -/
def beg (s : List UInt8) : Option (Option (List UInt8 × List UInt8)) :=
  if s.take 16 = wordL.take s.length then
    if s.length ≤ 16 then some none
    else match numOf ((s.drop 16).takeWhile isFig) with
      | none => none
      | some n =>
        if ((s.drop 16).dropWhile isFig).take 4 = endL.take ((s.drop 16).dropWhile isFig).length then
          if ((s.drop 16).dropWhile isFig).length < 4 + n then some none
          else some (some ((((s.drop 16).dropWhile isFig).drop 4).take n, ((s.drop 16).dropWhile isFig).drop (4 + n)))
        else none
  else none

/-- a head -/
def headL (n : Nat) : List UInt8 := wordL ++ (Lib.decDigits n ++ endL)

theorem takeWhile_app {p : UInt8 → Bool} {a b : List UInt8} (h : ∀ c ∈ a, p c = true) : (a ++ b).takeWhile p = a ++ b.takeWhile p := by
  induction a with
  | nil => rfl
  | cons x a ih => simp only [List.cons_append, List.takeWhile_cons, h x (by simp), if_true]; rw [ih fun c hc => h c (by simp [hc])]
theorem dropWhile_app {p : UInt8 → Bool} {a b : List UInt8} (h : ∀ c ∈ a, p c = true) : (a ++ b).dropWhile p = b.dropWhile p := by
  induction a with
  | nil => rfl
  | cons x a ih => simp only [List.cons_append, List.dropWhile_cons, h x (by simp), if_true]; exact ih fun c hc => h c (by simp [hc])
theorem takeWhile_mem {p : UInt8 → Bool} {a : List UInt8} : ∀ c ∈ a.takeWhile p, p c = true := by
  induction a with
  | nil => simp
  | cons x a ih =>
    intro c hc
    rw [List.takeWhile_cons] at hc
    split at hc
    · rcases List.mem_cons.1 hc with rfl | h
      · assumption
      · exact ih c h
    · simp at hc
theorem dropWhile_stop {p : UInt8 → Bool} {a b : List UInt8} (h : a.dropWhile p ≠ []) : (a ++ b).takeWhile p = a.takeWhile p ∧ (a ++ b).dropWhile p = a.dropWhile p ++ b := by
  induction a with
  | nil => exact absurd rfl h
  | cons x a ih =>
    simp only [List.cons_append, List.takeWhile_cons, List.dropWhile_cons] at h ⊢
    by_cases hx : p x = true
    · simp only [hx, if_true] at h ⊢
      obtain ⟨h1, h2⟩ := ih h
      exact ⟨by rw [h1], h2⟩
    · simp only [hx] at h ⊢
      exact ⟨rfl, rfl⟩
theorem takeWhile_all {p : UInt8 → Bool} {a : List UInt8} (h : a.dropWhile p = []) : ∀ c ∈ a, p c = true := by
  induction a with
  | nil => simp
  | cons x a ih =>
    rw [List.dropWhile_cons] at h
    split at h
    · intro c hc
      rcases List.mem_cons.1 hc with rfl | hc
      · assumption
      · exact ih h c hc
    · cases h

theorem beg_frame {x t : List UInt8} (h : x.length ≤ 65536) : beg (headL x.length ++ (x ++ t)) = some (some (x, t)) := by
  have hs : headL x.length ++ (x ++ t) = wordL ++ (Lib.decDigits x.length ++ (endL ++ (x ++ t))) := by simp [headL]
  have hw : wordL.length = 16 := rfl
  have he : endL.length = 4 := rfl
  have e1 : (headL x.length ++ (x ++ t)).drop 16 = Lib.decDigits x.length ++ (endL ++ (x ++ t)) := by rw [hs, List.drop_left' hw]
  have e2 : ((headL x.length ++ (x ++ t)).drop 16).takeWhile isFig = Lib.decDigits x.length := by
    rw [e1, takeWhile_app (dec_figs _)]
    have : (endL ++ (x ++ t)).takeWhile isFig = [] := rfl
    rw [this, List.append_nil]
  have e3 : ((headL x.length ++ (x ++ t)).drop 16).dropWhile isFig = endL ++ (x ++ t) := by
    rw [e1, dropWhile_app (dec_figs _)]; rfl
  have hl : 16 < (headL x.length ++ (x ++ t)).length := by
    rw [hs]; simp only [List.length_append, hw, he]; omega
  unfold beg
  rw [e2, e3, numOf_dec _ h]
  have c1 : (headL x.length ++ (x ++ t)).take 16 = wordL.take (headL x.length ++ (x ++ t)).length := by
    rw [List.take_of_length_le (l := wordL) (by omega), hs, List.take_left' hw]
  have c2 : (endL ++ (x ++ t)).take 4 = endL.take (endL ++ (x ++ t)).length := by
    rw [List.take_of_length_le (l := endL) (by simp [he]), List.take_left' he]
  rw [if_pos c1, if_neg (by omega)]
  simp only
  rw [if_pos c2, if_neg (by simp [he])]
  have d1 : (endL ++ (x ++ t)).drop 4 = x ++ t := List.drop_left' he
  have d2 : (endL ++ (x ++ t)).drop (4 + x.length) = t := by rw [← List.drop_drop, d1, List.drop_left' rfl]
  rw [d1, d2, List.take_left' rfl]

theorem beg_got {s x t : List UInt8} (h : beg s = some (some (x, t))) : x.length ≤ 65536 ∧ s = headL x.length ++ (x ++ t) := by
  unfold beg at h
  split at h
  · rename_i h1
    split at h
    · cases h
    · rename_i h2
      split at h
      · cases h
      · rename_i n hn
        split at h
        · rename_i h3
          split at h
          · cases h
          · rename_i h4
            obtain ⟨-, hn2, hn3⟩ := numOf_some hn
            generalize hr : (s.drop 16).dropWhile isFig = r at h h3 h4
            injection h with h; injection h with h
            injection h with hx ht
            have hxl : x.length = n := by rw [← hx, List.length_take, List.length_drop, Nat.min_eq_left (by omega)]
            have hw : wordL.length = 16 := rfl
            have he : endL.length = 4 := rfl
            have e1 : s.take 16 = wordL := by rw [h1, List.take_of_length_le (by omega)]
            have e2 : r.take 4 = endL := by rw [h3, List.take_of_length_le (by omega)]
            refine ⟨by omega, ?_⟩
            rw [hxl, headL]
            have r1 : r = endL ++ (x ++ t) := by
              rw [← List.take_append_drop 4 r, e2]
              congr 1
              rw [← hx, ← ht, ← List.drop_drop, List.take_append_drop]
            rw [← List.take_append_drop 16 s, e1, ← List.takeWhile_append_dropWhile (p := isFig) (l := s.drop 16), hr, ← hn3, r1]
            simp
        · cases h
  · cases h

theorem beg_app_got {s x t b : List UInt8} (h : beg s = some (some (x, t))) : beg (s ++ b) = some (some (x, t ++ b)) := by
  obtain ⟨h1, rfl⟩ := beg_got h
  have := beg_frame (x := x) (t := t ++ b) h1
  simpa using this

theorem numOf_ext {d e : List UInt8} {n : Nat} (hne : d ≠ []) (hf : ∀ c ∈ d, isFig c = true) (h : numOf (d ++ e) = some n) : ∃ m, numOf d = some m := by
  obtain ⟨h1, h2, h3⟩ := numOf_some h
  have hv : val 0 d ≤ 65536 := by rw [h1, val_app] at h2; exact Nat.le_trans (val_ge _ _) h2
  have hd : Lib.decDigits (val 0 d) = d := by
    refine dec_of d hne hf ?_
    rcases Nat.lt_or_ge n 10 with h10 | h10
    · left
      rw [dec_small h10] at h3
      have := congrArg List.length h3
      simp at this
      have hp := List.length_pos_iff.2 hne
      omega
    · right
      have := dec_head n h10
      rw [h3, head_app hne] at this
      exact this
  exact ⟨val 0 d, by rw [numOf, if_pos ⟨hv, hd⟩]⟩

theorem take_mis {s w b : List UInt8} {k : Nat} (h : (s ++ b).take k = w.take (s ++ b).length) : s.take k = w.take s.length := by
  have h2 := congrArg (List.take s.length) h
  rw [List.take_take, List.take_take, List.length_append, Nat.min_eq_left (Nat.le_add_right _ _)] at h2
  rw [← h2]
  rcases Nat.lt_or_ge s.length k with hk | hk
  · rw [Nat.min_eq_left (by omega), List.take_of_length_le (by omega), List.take_left' rfl]
  · rw [Nat.min_eq_right hk, List.take_append_of_le_length hk]

theorem beg_app_none {s b : List UInt8} (h : beg s = none) : beg (s ++ b) = none := by
  unfold beg at h ⊢
  split at h
  · rename_i h1
    split at h
    · cases h
    · rename_i h2
      have e1 : (s ++ b).drop 16 = s.drop 16 ++ b := by rw [List.drop_append_of_le_length (by omega)]
      have hl : ¬ (s ++ b).length ≤ 16 := by simp; omega
      split
      · rw [e1]
        by_cases hr : (s.drop 16).dropWhile isFig = []
        · have hall := takeWhile_all hr
          have hne : s.drop 16 ≠ [] := by intro he; have := congrArg List.length he; simp at this; omega
          have hd : (s.drop 16).takeWhile isFig = s.drop 16 := by
            have := takeWhile_app (b := []) hall; simpa using this
          rw [hd] at h
          rw [takeWhile_app hall]
          cases hq : numOf (s.drop 16 ++ b.takeWhile isFig) with
          | none => rfl
          | some n =>
            obtain ⟨m, hm⟩ := numOf_ext hne hall hq
            rw [hm, hr] at h
            simp at h
            rw [if_pos (by omega)] at h
            cases h
        · obtain ⟨e2, e3⟩ := dropWhile_stop (b := b) hr
          rw [e2, e3]
          cases hq : numOf ((s.drop 16).takeWhile isFig) with
          | none => rfl
          | some n =>
            rw [hq] at h
            simp only at h ⊢
            split at h
            · split at h <;> cases h
            · rename_i h3
              rw [if_neg]
              intro he
              exact h3 (take_mis he)
      · rfl
  · rename_i h1
    rw [if_neg]
    intro he
    exact h1 (take_mis he)

theorem beg_nil : beg [] = some none := rfl
theorem beg_short {s t : List UInt8} {x : List UInt8} (h : beg s = some (some (x, t))) : t.length < s.length := by
  obtain ⟨h1, h2⟩ := beg_got h
  rw [h2]; simp [headL, wordL]; omega

/-- what bytes hold: the bodies, how many are passed over, and what is left -/
inductive Fed : List UInt8 → List (List UInt8) → Nat → List UInt8 → Prop
  | nil : Fed [] [] 0 []
  | more {s : List UInt8} (h : beg s = some none) : Fed s [] 0 s
  | lost {c : UInt8} {s r : List UInt8} {b : List (List UInt8)} {l : Nat} (h : beg (c :: s) = none) (k : Fed s b l r) : Fed (c :: s) b (l + 1) r
  | got {s t x r : List UInt8} {b : List (List UInt8)} {l : Nat} (h : beg s = some (some (x, t))) (k : Fed t b l r) : Fed s (x :: b) l r

theorem Fed.unique {s : List UInt8} {b : List (List UInt8)} {l : Nat} {r : List UInt8} (h : Fed s b l r) : ∀ {b' : List (List UInt8)} {l' : Nat} {r' : List UInt8}, Fed s b' l' r' → b' = b ∧ l' = l ∧ r' = r := by
  induction h with
  | nil =>
    intro b' l' r' k
    cases k with
    | nil => exact ⟨rfl, rfl, rfl⟩
    | more _ => exact ⟨rfl, rfl, rfl⟩
    | got h _ => rw [beg_nil] at h; cases h
  | more h =>
    intro b' l' r' k
    cases k with
    | nil => exact ⟨rfl, rfl, rfl⟩
    | more _ => exact ⟨rfl, rfl, rfl⟩
    | lost h' _ => rw [h] at h'; cases h'
    | got h' _ => rw [h] at h'; cases h'
  | lost h _ ih =>
    intro b' l' r' k
    cases k with
    | more h' => rw [h] at h'; cases h'
    | lost h' k' => obtain ⟨rfl, rfl, rfl⟩ := ih k'; exact ⟨rfl, rfl, rfl⟩
    | got h' _ => rw [h] at h'; cases h'
  | got h _ ih =>
    intro b' l' r' k
    cases k with
    | nil => rw [beg_nil] at h; cases h
    | more h' => rw [h] at h'; cases h'
    | lost h' _ => rw [h] at h'; cases h'
    | got h' k' =>
      rw [h] at h'
      injection h' with h'; injection h' with h'; injection h' with e1 e2
      subst e1; subst e2
      obtain ⟨rfl, rfl, rfl⟩ := ih k'; exact ⟨rfl, rfl, rfl⟩

theorem Fed.exists (s : List UInt8) : ∃ b l r, Fed s b l r := by
  induction hn : s.length using Nat.strongRecOn generalizing s with
  | _ n ih =>
    cases hb : beg s with
    | none =>
      cases s with
      | nil => rw [beg_nil] at hb; cases hb
      | cons c s =>
        obtain ⟨b, l, r, h⟩ := ih s.length (by rw [← hn]; simp) s rfl
        exact ⟨b, l + 1, r, .lost hb h⟩
    | some q =>
      cases q with
      | none => exact ⟨[], 0, s, .more hb⟩
      | some p =>
        obtain ⟨x, t⟩ := p
        obtain ⟨b, l, r, h⟩ := ih t.length (by rw [← hn]; exact beg_short hb) t rfl
        exact ⟨x :: b, l, r, .got hb h⟩

theorem Fed.app {s r : List UInt8} {b : List (List UInt8)} {l : Nat} (h : Fed s b l r) {m r' : List UInt8} {b' : List (List UInt8)} {l' : Nat} (k : Fed (r ++ m) b' l' r') : Fed (s ++ m) (b ++ b') (l + l') r' := by
  induction h with
  | nil => simpa using k
  | more _ => simpa using k
  | lost h _ ih =>
    have := Fed.lost (beg_app_none (b := m) h) (ih k)
    rw [Nat.add_right_comm]; exact this
  | got h _ ih => exact Fed.got (beg_app_got h) (ih k)

/-- the frames of bodies -/
def encL : List (List UInt8) → List UInt8
  | [] => []
  | x :: l => headL x.length ++ (x ++ encL l)
theorem encL_app (l : List (List UInt8)) (x : List UInt8) : encL (l ++ [x]) = encL l ++ (headL x.length ++ x) := by
  induction l with
  | nil => simp [encL]
  | cons y l ih => simp only [List.cons_append, encL, ih]; simp

theorem Fed.len {s r : List UInt8} {b : List (List UInt8)} {l : Nat} (h : Fed s b l r) : l + (encL b).length + r.length = s.length ∧ ∀ x ∈ b, x.length ≤ 65536 := by
  induction h with
  | nil => simp [encL]
  | more _ => simp [encL]
  | lost h _ ih => exact ⟨by simp; omega, ih.2⟩
  | got h _ ih =>
    obtain ⟨h1, rfl⟩ := beg_got h
    refine ⟨by simp [encL]; omega, fun x hx => ?_⟩
    rcases List.mem_cons.1 hx with rfl | hx
    · exact h1
    · exact ih.2 x hx

theorem Fed.enc {l : List (List UInt8)} (h : ∀ x ∈ l, x.length ≤ 65536) : Fed (encL l) l 0 [] := by
  induction l with
  | nil => exact .nil
  | cons x l ih => exact .got (beg_frame (h x (by simp))) (ih fun y hy => h y (by simp [hy]))

theorem beg_noC {c : UInt8} {s : List UInt8} (h : c ≠ 67) : beg (c :: s) = none := by
  unfold beg
  rw [if_neg]
  intro he
  have := congrArg List.head? he
  simp [wordL] at this
  exact h this
theorem Fed.ahead {a s r : List UInt8} {b : List (List UInt8)} {l : Nat} (ha : ∀ c ∈ a, c ≠ 67) (h : Fed s b l r) : Fed (a ++ s) b (a.length + l) r := by
  induction a with
  | nil => simpa using h
  | cons c a ih =>
    have := Fed.lost (beg_noC (c := c) (s := a ++ s) (ha c (by simp))) (ih fun x hx => ha x (by simp [hx]))
    simp only [List.cons_append, List.length_cons]
    rw [Nat.add_right_comm]; exact this
end Go.Proofs.YtgfkgcnnjehmlaaDoor
