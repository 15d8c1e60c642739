/- There and back, plainly: what is written of a right value is read as it. -/
import Derived.Test.YtahiopjplfnlmaaGreatDoorUtf
namespace Go.Proofs.YtahiopjplfnlmaaGreatDoor
open Go

theorem takes_nil (s : Nm) : takes [] s = some s := by simp [takes]
theorem takes_cons (a b : UInt8) (p s : Nm) : takes (a :: p) (b :: s) = if b = a then takes p s else none := by
  unfold takes
  simp only [List.length_cons, List.take_succ_cons, List.drop_succ_cons, List.cons.injEq]
  by_cases h : b = a
  · simp [h]
  · simp [h]
theorem takes_empty (a : UInt8) (p : Nm) : takes (a :: p) [] = none := by simp [takes]
theorem skip_cons {c : UInt8} {s : Nm} (h : isBlank c = false) : skip (c :: s) = c :: s := by simp [skip, h]
theorem skip_blank {c : UInt8} {s : Nm} (h : isBlank c = true) : skip (c :: s) = skip s := by simp [skip, h]
theorem skip_nil : skip [] = [] := rfl
theorem skip_skip (s : Nm) : skip (skip s) = skip s := by
  induction s with
  | nil => rfl
  | cons c s ih =>
    by_cases h : isBlank c = true
    · rw [skip_blank h, ih]
    · rw [skip_cons (by simpa using h), skip_cons (by simpa using h)]

/-! ### more steps -/
theorem valL_le {f g o : Nat} {s : Nm} {v : V} {r : Nm} (h : valL f o s = .ok v r) (hg : f ≤ g) : valL g o s = .ok v r := by
  obtain ⟨k, rfl⟩ := Nat.exists_eq_add_of_le hg
  rw [valL_more (by rw [h]; simp) k, h]
theorem loopL_le {f o : Nat} {sort : Int} {e : UInt8} {s : Nm} {vs : List V} {ks : List Nm} {v : V} {r : Nm} (h : loopL f o sort e s vs ks = .ok v r) : ∀ k, loopL (f + k) o sort e s vs ks = .ok v r
  | 0 => h
  | k + 1 => by
    have e1 := loopL_le h k
    have e2 := (read_more (f + k)).2.2.1 o sort e s vs ks (by rw [e1]; simp)
    rw [← Nat.add_assoc, e2, e1]

/-! ### texts between quotes -/
theorem hexVal_fig {n : Nat} (h : n < 16) : hexVal (hexFig n) = some n := by
  have : n = 0 ∨ n = 1 ∨ n = 2 ∨ n = 3 ∨ n = 4 ∨ n = 5 ∨ n = 6 ∨ n = 7 ∨ n = 8 ∨ n = 9 ∨ n = 10 ∨ n = 11 ∨ n = 12 ∨ n = 13 ∨ n = 14 ∨ n = 15 := by omega
  rcases this with rfl | rfl | rfl | rfl | rfl | rfl | rfl | rfl | rfl | rfl | rfl | rfl | rfl | rfl | rfl | rfl <;> decide
theorem lt32 {c : UInt8} (h : c < 32) : c.toNat < 32 := UInt8.lt_iff_toNat_lt.1 h
theorem strL_quote : ∀ (t acc r : Nm) (f : Nat), (t.flatMap quoteB).length + 1 < f → strL f acc (t.flatMap quoteB ++ 34 :: r) = some (acc ++ t, r)
  | [], acc, r, f, h => by
    obtain ⟨g, rfl⟩ : ∃ g, f = g + 1 := ⟨f - 1, by omega⟩
    simp only [List.flatMap_nil, List.nil_append, strL]
    rw [if_neg (by decide), if_pos trivial, List.append_nil]
  | c :: t, acc, r, f, h => by
    obtain ⟨g, rfl⟩ : ∃ g, f = g + 1 := ⟨f - 1, by omega⟩
    rw [List.flatMap_cons, List.length_append] at h
    rw [List.flatMap_cons, List.append_assoc]
    have hn : acc ++ c :: t = acc ++ [c] ++ t := by simp
    rw [hn]
    by_cases h1 : c < 32
    · have h2 := lt32 h1
      have e : quoteB c = [92, 117, 48, 48, hexFig (c.toNat / 16), hexFig (c.toNat % 16)] := by unfold quoteB; rw [if_pos h1]
      rw [e] at h ⊢
      simp only [List.cons_append, List.nil_append, strL]
      rw [if_neg (by decide), if_neg (by decide), if_pos trivial]
      have e2 : escaped (117 :: 48 :: 48 :: hexFig (c.toNat / 16) :: hexFig (c.toNat % 16) :: (t.flatMap quoteB ++ 34 :: r)) = some ([c], t.flatMap quoteB ++ 34 :: r) := by
        simp only [escaped, unit4, hexVal_fig (show c.toNat / 16 < 16 by omega), hexVal_fig (show c.toNat % 16 < 16 by omega), show hexVal 48 = some 0 from rfl, show escB 117 = none from rfl]
        rw [if_neg (by decide), if_pos (by omega)]
        have e3 : ((0 * 16 + 0) * 16 + c.toNat / 16) * 16 + c.toNat % 16 = c.toNat := by omega
        rw [e3]
        unfold scalarB
        rw [if_pos (by omega)]; simp
      rw [e2]
      simp only [List.length_cons, List.length_nil] at h
      exact strL_quote t _ r g (by omega)
    · by_cases h2 : c = 34 ∨ c = 92
      · have e : quoteB c = [92, c] := by unfold quoteB; rw [if_neg h1, if_pos h2]
        rw [e] at h ⊢
        simp only [List.cons_append, List.nil_append, strL]
        rw [if_neg (by decide), if_neg (by decide), if_pos trivial]
        have e2 : escaped (c :: (t.flatMap quoteB ++ 34 :: r)) = some ([c], t.flatMap quoteB ++ 34 :: r) := by
          rcases h2 with rfl | rfl <;> rfl
        rw [e2]
        simp only [List.length_cons, List.length_nil] at h
        exact strL_quote t _ r g (by omega)
      · have e : quoteB c = [c] := by unfold quoteB; rw [if_neg h1, if_neg h2]
        rw [e] at h ⊢
        simp only [List.cons_append, List.nil_append, strL]
        rw [if_neg h1, if_neg (fun h => h2 (.inl h)), if_neg (fun h => h2 (.inr h))]
        simp only [List.length_cons, List.length_nil] at h
        exact strL_quote t _ r g (by omega)
theorem quoteL_quoted (t r : Nm) : quoteL (quoted t ++ r) = some (t, r) := by
  unfold quoteL quoted
  rw [List.cons_append, takes_cons, if_pos rfl, takes_nil]
  simp only [List.append_assoc, List.singleton_append]
  rw [strL_quote t [] r _ (by simp only [List.length_append, List.length_cons]; omega), List.nil_append]

/-! ### numbers -/
theorem fig_nat {k : Nat} (h : k < 10) : (UInt8.ofNat (48 + k)).toNat = 48 + k := by rw [UInt8.toNat_ofNat', Nat.mod_eq_of_lt (by omega)]
theorem dec_small {n : Nat} (h : n < 10) : Lib.decDigits n = [UInt8.ofNat (48 + n)] := Lib.decDigits_one h
theorem dec_big {n : Nat} (h : ¬ n < 10) : Lib.decDigits n = Lib.decDigits (n / 10) ++ [UInt8.ofNat (48 + n % 10)] := by rw [Lib.decDigits, dif_neg h]
theorem dec_ne (n : Nat) : Lib.decDigits n ≠ [] := by
  intro h
  have := Lib.decDigits_length n
  rw [h] at this
  have := Lib.nDigits_pos n
  simp at *; omega
theorem dec_figs (n : Nat) : ∀ c ∈ Lib.decDigits n, isFig c = true := by
  induction n using Nat.strongRecOn with
  | _ n ih =>
    intro c hc
    by_cases h : n < 10
    · rw [dec_small h, List.mem_singleton] at hc
      rw [hc, isFig_iff, fig_nat h]; omega
    · rw [dec_big h] at hc
      rcases List.mem_append.1 hc with h2 | h2
      · exact ih _ (by omega) c h2
      · rw [List.mem_singleton] at h2
        rw [h2, isFig_iff, fig_nat (by omega)]; omega
/-- what figures spell, behind those that spelt acc -/
def figV (acc : Nat) : Nm → Nat
  | [] => acc
  | c :: r => figV (acc * 10 + (c.toNat - 48)) r
theorem figV_append (acc : Nat) (l : Nm) (c : UInt8) : figV acc (l ++ [c]) = figV acc l * 10 + (c.toNat - 48) := by
  induction l generalizing acc with
  | nil => rfl
  | cons a l ih => exact ih _
theorem figV_ge (acc : Nat) (l : Nm) : acc ≤ figV acc l := by
  induction l generalizing acc with
  | nil => exact Nat.le_refl _
  | cons a l ih => exact Nat.le_trans (by omega) (ih _)
theorem figV_dec (n : Nat) : figV 0 (Lib.decDigits n) = n := by
  induction n using Nat.strongRecOn with
  | _ n ih =>
    by_cases h : n < 10
    · have e : figV 0 [UInt8.ofNat (48 + n)] = 0 * 10 + ((UInt8.ofNat (48 + n)).toNat - 48) := rfl
      rw [dec_small h, e, fig_nat h]; omega
    · rw [dec_big h, figV_append, ih _ (by omega), fig_nat (by omega)]; omega
theorem parse_ok : ∀ (d : Nm) (acc : Nat), (∀ c ∈ d, isFig c = true) → figV acc d ≤ 9007199254740992 → Lib.parseUint10 acc d = .ok (figV acc d)
  | [], acc, _, _ => rfl
  | c :: r, acc, hf, hv => by
    have hc := isFig_iff.1 (hf c (by simp))
    have hg : acc * 10 + (c.toNat - 48) ≤ 9007199254740992 := Nat.le_trans (figV_ge _ r) hv
    simp only [Lib.parseUint10]
    rw [if_pos hc, if_neg (by omega), if_neg (by omega)]
    exact parse_ok r _ (fun x hx => hf x (by simp [hx])) hv
theorem parse_dec (n : Nat) (h : n ≤ 9007199254740992) : Lib.parseMag (Lib.decDigits n) = .ok n := by
  rw [Lib.parseMag, if_neg (dec_ne n), parse_ok _ 0 (dec_figs n) (by rw [figV_dec]; exact h), figV_dec]
theorem atoi_itoa (n : Int) (h1 : -9007199254740992 ≤ n) (h2 : n ≤ 9007199254740992) : Lib.atoiAll (Lib.itoa n) = .ok n := by
  unfold Lib.itoa
  by_cases h : n < 0
  · rw [if_pos h]
    simp only [Lib.atoiAll, show (45 : UInt8).toNat = 45 from rfl, or_true, if_true]
    rw [parse_dec _ (by omega)]
    simp only [not_true_eq_false, false_and, if_false, true_and]
    rw [if_neg (by omega)]
    congr 1; omega
  · rw [if_neg h]
    have hf := dec_figs n.toNat
    have hp := parse_dec n.toNat (by omega)
    generalize Lib.decDigits n.toNat = d at *
    cases d with
    | nil => simp [Lib.parseMag] at hp
    | cons c r =>
      have hc := isFig_iff.1 (hf c (by simp))
      have hne : ¬ (c.toNat = 43 ∨ c.toNat = 45) := by omega
      have hn2 : ¬ c.toNat = 45 := by omega
      simp only [Lib.atoiAll]
      rw [if_neg hne, hp]
      simp only [hn2, not_false_eq_true, true_and, false_and, if_false]
      rw [if_neg (by omega)]
      congr 1; omega
theorem drop_figs : ∀ (d r : Nm), (∀ c ∈ d, isFig c = true) → comes isFig r = false → (d ++ r).dropWhile isFig = r
  | [], r, _, hr => by
    cases r with
    | nil => rfl
    | cons c r => simp only [comes] at hr; simp [hr]
  | c :: d, r, hd, hr => by
    rw [List.cons_append, List.dropWhile_cons, if_pos (hd c (by simp))]
    exact drop_figs d r (fun x hx => hd x (by simp [hx])) hr
theorem numRest_itoa (n : Int) (r : Nm) (hr : comes isFig r = false) : numRest (Lib.itoa n ++ r) = r := by
  unfold numRest Lib.itoa
  by_cases h : n < 0
  · rw [if_pos h, List.cons_append, takes_cons, if_pos rfl, takes_nil]
    exact drop_figs _ _ (dec_figs _) hr
  · rw [if_neg h]
    have hf := dec_figs n.toNat
    have hne := dec_ne n.toNat
    generalize Lib.decDigits n.toNat = d at *
    cases d with
    | nil => exact absurd rfl hne
    | cons c d =>
      have hc := isFig_iff.1 (hf c (by simp))
      rw [List.cons_append, takes_cons, if_neg (fun h => by rw [h] at hc; exact absurd hc.1 (by decide)), ← List.cons_append]
      exact drop_figs _ _ hf hr
theorem numHead_itoa (n : Int) (r : Nm) (hr : comes isFig r = false) : numHead (Lib.itoa n ++ r) = Lib.itoa n := by
  unfold numHead
  rw [numRest_itoa n r hr, List.length_append, Nat.add_sub_cancel, List.take_left' rfl]
theorem numL_itoa (n : Int) (r : Nm) (hr : comes isFig r = false) (h1 : -9007199254740992 ≤ n) (h2 : n ≤ 9007199254740992) : numL (Lib.itoa n ++ r) = some (n, r) := by
  unfold numL
  rw [numHead_itoa n r hr, numRest_itoa n r hr, atoi_itoa n h1 h2]
  simp only
  rw [if_pos ⟨trivial, h1, h2⟩]
theorem itoa_head (n : Int) : ∃ c r, Lib.itoa n = c :: r ∧ (c = 45 ∨ isFig c = true) := by
  unfold Lib.itoa
  by_cases h : n < 0
  · rw [if_pos h]; exact ⟨_, _, rfl, .inl rfl⟩
  · rw [if_neg h]
    have hf := dec_figs n.toNat
    have hne := dec_ne n.toNat
    generalize Lib.decDigits n.toNat = d at *
    cases d with
    | nil => exact absurd rfl hne
    | cons c d => exact ⟨c, d, rfl, .inr (hf c (by simp))⟩

/-! ### values -/
/-- how a value's text begins -/
def Begins (c : UInt8) : Prop := isBlank c = false ∧ c ≠ 93 ∧ c ≠ 125
theorem begins_num {c : UInt8} (h : c = 45 ∨ isFig c = true) : Begins c ∧ c ≠ 123 ∧ c ≠ 91 ∧ c ≠ 34 := by
  rcases h with rfl | h
  · exact ⟨⟨by decide, by decide, by decide⟩, by decide, by decide, by decide⟩
  · have h1 := isFig_iff.1 h
    have key : ∀ d : UInt8, (d.toNat < 48 ∨ 57 < d.toNat) → c ≠ d := fun d hd he => by rw [he] at h1; omega
    refine ⟨⟨?_, key 93 (by decide), key 125 (by decide)⟩, key 123 (by decide), key 91 (by decide), key 34 (by decide)⟩
    unfold isBlank
    simp only [Bool.or_eq_false_iff, beq_eq_false_iff_ne]
    exact ⟨⟨⟨key 32 (by decide), key 9 (by decide)⟩, key 10 (by decide)⟩, key 13 (by decide)⟩
theorem textV_head (v : V) (h : 0 ≤ v.sort ∧ v.sort ≤ 5) : ∃ c r, textV v = c :: r ∧ Begins c := by
  obtain ⟨s, o, n, t, l, ks⟩ := v
  simp only [V.sort] at h
  rw [textV]
  by_cases h1 : s = 1
  · rw [if_pos h1]
    cases o
    · exact ⟨102, _, rfl, by decide, by decide, by decide⟩
    · exact ⟨116, _, rfl, by decide, by decide, by decide⟩
  · rw [if_neg h1]
    by_cases h2 : s = 2
    · rw [if_pos h2]
      obtain ⟨c, r, h3, h4⟩ := itoa_head n
      exact ⟨c, r, h3, (begins_num h4).1⟩
    · rw [if_neg h2]
      by_cases h3 : s = 3
      · rw [if_pos h3]; exact ⟨34, _, rfl, by decide, by decide, by decide⟩
      · rw [if_neg h3]
        by_cases h4 : s = 0
        · rw [if_pos h4]; exact ⟨110, _, rfl, by decide, by decide, by decide⟩
        · rw [if_neg h4]
          by_cases h5 : s = 5
          · rw [if_pos h5]; exact ⟨123, _, rfl, by decide, by decide, by decide⟩
          · rw [if_neg h5]; exact ⟨91, _, rfl, by decide, by decide, by decide⟩

/-- read, as it was written, ahead of whatever is no figure -/
def Reads (o : Nat) (v : V) : Prop := ∀ r, comes isFig r = false → ∃ f, valL f o (textV v ++ r) = .ok v (skip r)
theorem formed_sort {v : V} (h : formed v = true) : 0 ≤ v.sort ∧ v.sort ≤ 5 := by
  obtain ⟨s, o, n, t, l, ks⟩ := v
  rw [formed, Bool.and_eq_true] at h
  exact headOk_sort h.1
theorem loop_list : ∀ (l : List V) (v : V) (o : Nat) (vs : List V) (r : Nm), Reads o v → (∀ x ∈ l, Reads o x) → (∀ x ∈ l, formed x = true) →
    ∃ f, loopL f o 4 93 (commas (textsV (v :: l)) ++ 93 :: r) vs [] = .ok (.mk 4 false 0 [] (vs ++ v :: l) []) r
  | [], v, o, vs, r, hv, _, _ => by
    obtain ⟨f, hf⟩ := hv (93 :: r) rfl
    refine ⟨f + 2, ?_⟩
    rw [loopL_step, if_neg (by decide), elemL_step]
    simp only [textsV, commas]
    rw [hf]
    simp only [skip_cons (show isBlank 93 = false by decide), takes_cons, if_pos, takes_nil]
  | x :: l, v, o, vs, r, hv, hl, hfm => by
    obtain ⟨f, hf⟩ := hv (44 :: (commas (textsV (x :: l)) ++ 93 :: r)) rfl
    obtain ⟨g, hg⟩ := loop_list l x o (vs ++ [v]) r (hl x (by simp)) (fun y hy => hl y (by simp [hy])) (fun y hy => hfm y (by simp [hy]))
    refine ⟨f + g + 2, ?_⟩
    rw [loopL_step, if_neg (by decide), elemL_step]
    have e : commas (textsV (v :: x :: l)) ++ 93 :: r = textV v ++ 44 :: (commas (textsV (x :: l)) ++ 93 :: r) := by
      simp only [textsV, commas, List.append_assoc, List.cons_append]
    rw [e, valL_le hf (by omega)]
    simp only [skip_cons (show isBlank 44 = false by decide), takes_cons, takes_nil, if_pos]
    rw [if_neg (by decide)]
    have h2 := loopL_le hg f
    rw [Nat.add_comm] at h2
    rw [h2]
    simp
theorem keyL_text (k : Nm) (ks : List Nm) (r : Nm) (h : ¬ k ∈ ks) : keyL (quoted k ++ 58 :: r) ks = some (k, r) := by
  unfold keyL
  have e : skip (quoted k ++ 58 :: r) = quoted k ++ 58 :: r := by unfold quoted; exact skip_cons (by decide)
  rw [e, quoteL_quoted]
  simp only
  rw [if_neg h, skip_cons (by decide), takes_cons, if_pos rfl, takes_nil]
theorem loop_record : ∀ (l : List V) (v : V) (o : Nat) (vs : List V) (k : Nm) (ks kv : List Nm) (r : Nm), l.length = ks.length → Reads o v → (∀ x ∈ l, Reads o x) → (∀ x ∈ l, formed x = true) →
    (∀ x ∈ k :: ks, ¬ x ∈ kv) → (k :: ks).Nodup →
    ∃ f, loopL f o 5 125 (commas (textKs (v :: l) (k :: ks)) ++ 125 :: r) vs kv = .ok (.mk 5 false 0 [] (vs ++ v :: l) (kv ++ k :: ks)) r
  | [], v, o, vs, k, ks, kv, r, hlen, hv, _, _, hk, _ => by
    obtain rfl : ks = [] := List.eq_nil_of_length_eq_zero hlen.symm
    obtain ⟨f, hf⟩ := hv (125 :: r) rfl
    refine ⟨f + 2, ?_⟩
    have e : commas (textKs [v] [k]) ++ 125 :: r = quoted k ++ 58 :: (textV v ++ 125 :: r) := by
      simp only [textKs, commas, List.headD_cons, List.append_assoc, List.cons_append]
    rw [loopL_step, if_pos rfl, e, keyL_text k kv _ (hk k (by simp))]
    simp only
    rw [elemL_step, hf]
    simp only [skip_cons (show isBlank 125 = false by decide), takes_cons, if_pos, takes_nil]
  | x :: l, v, o, vs, k, [], kv, r, hlen, _, _, _, _, _ => by simp at hlen
  | x :: l, v, o, vs, k, j :: ks, kv, r, hlen, hv, hl, hfm, hk, hnd => by
    have hnd1 := List.nodup_cons.1 hnd
    obtain ⟨f, hf⟩ := hv (44 :: (commas (textKs (x :: l) (j :: ks)) ++ 125 :: r)) rfl
    obtain ⟨g, hg⟩ := loop_record l x o (vs ++ [v]) j ks (kv ++ [k]) r (by simpa using hlen) (hl x (by simp)) (fun y hy => hl y (by simp [hy])) (fun y hy => hfm y (by simp [hy]))
      (fun y hy hm => by
        rcases List.mem_append.1 hm with h1 | h1
        · exact hk y (List.mem_cons_of_mem _ hy) h1
        · rw [List.mem_singleton] at h1
          exact hnd1.1 (h1 ▸ hy)) hnd1.2
    refine ⟨f + g + 2, ?_⟩
    have e : commas (textKs (v :: x :: l) (k :: j :: ks)) ++ 125 :: r = quoted k ++ 58 :: (textV v ++ 44 :: (commas (textKs (x :: l) (j :: ks)) ++ 125 :: r)) := by
      simp only [textKs, commas, List.headD_cons, List.tail_cons, List.append_assoc, List.cons_append]
    rw [loopL_step, if_pos rfl, e, keyL_text k kv _ (hk k (by simp))]
    simp only
    rw [elemL_step, valL_le hf (by omega)]
    simp only [skip_cons (show isBlank 44 = false by decide), takes_cons, takes_nil, if_pos]
    rw [if_neg (by decide)]
    have h2 := loopL_le hg f
    rw [Nat.add_comm] at h2
    rw [h2]
    simp
theorem distinct_nodup : ∀ {l : List Nm}, distinct l = true → l.Nodup
  | [], _ => List.nodup_nil
  | k :: l, h => by
    rw [distinct] at h
    simp only [Bool.and_eq_true, Bool.not_eq_true'] at h
    exact List.nodup_cons.2 ⟨fun hm => by have := h.1.2; simp [hm] at this, distinct_nodup h.2⟩
set_option maxRecDepth 4000 in
theorem reads_formed (v : V) : ∀ o : Nat, formed v = true → o + deep v ≤ 20 → Reads o v := by
  induction v using V.ind with
  | h s on n t l ks ih =>
    intro o hfm hd r hr
    rw [formed, Bool.and_eq_true] at hfm
    obtain ⟨hh, hfl⟩ := hfm
    have hs := headOk_sort hh
    have hl4 : s < 4 → l = [] := fun h => List.eq_nil_of_length_eq_zero (headOk_list hh h)
    rw [formeds_all, List.all_eq_true] at hfl
    unfold headOk at hh
    simp only [Bool.and_eq_true, Bool.or_eq_true, Bool.not_eq_true', beq_iff_eq, decide_eq_true_eq, List.isEmpty_iff] at hh
    obtain ⟨⟨⟨⟨⟨⟨⟨⟨⟨hon, hn⟩, ht⟩, -⟩, -⟩, hn1⟩, hn2⟩, -⟩, hks⟩, hlast⟩ := hh
    rw [deep] at hd
    rw [textV]
    by_cases h1 : s = 1
    · subst h1
      obtain rfl := hl4 (by decide)
      obtain rfl : n = 0 := by rcases hn with h | h; exact h; omega
      obtain rfl : t = [] := by rcases ht with h | h; exact h; omega
      rw [if_neg (by decide)] at hlast
      simp only [Bool.and_eq_true, List.isEmpty_iff] at hlast
      obtain rfl := hlast.1
      refine ⟨1, ?_⟩
      rw [if_pos rfl, valL_step]
      cases on
      · have e : skip (falseL ++ r) = falseL ++ r := skip_cons (by decide)
        simp only [Bool.false_eq_true, if_false]
        rw [e]
        simp [falseL, trueL, takes_cons, plainL, comes, takes_nil, isFig]
      · have e : skip (trueL ++ r) = trueL ++ r := skip_cons (by decide)
        simp only [if_true]
        rw [e]
        simp [trueL, takes_cons, plainL, comes, takes_nil, isFig]
    · have hoff : on = false := by rcases hon with h | h; exact h; exact absurd h h1
      subst hoff
      rw [if_neg h1]
      by_cases h2 : s = 2
      · subst h2
        obtain rfl := hl4 (by decide)
        obtain rfl : t = [] := by rcases ht with h | h; exact h; omega
        rw [if_neg (by decide)] at hlast
        simp only [Bool.and_eq_true, List.isEmpty_iff] at hlast
        obtain rfl := hlast.1
        refine ⟨1, ?_⟩
        rw [if_pos rfl, valL_step]
        obtain ⟨c, q, hc, hb⟩ := itoa_head n
        obtain ⟨b1, b2, b3, b4⟩ := begins_num hb
        have e : skip (Lib.itoa n ++ r) = Lib.itoa n ++ r := by rw [hc]; exact skip_cons b1.1
        have e1 : takes [123] (Lib.itoa n ++ r) = none := by rw [hc, List.cons_append, takes_cons, if_neg b2]
        have e2 : takes [91] (Lib.itoa n ++ r) = none := by rw [hc, List.cons_append, takes_cons, if_neg b3]
        have e3 : comes (· == 34) (Lib.itoa n ++ r) = false := by rw [hc]; simpa [comes] using b4
        have e4 : comes (fun c => c == 45 || isFig c) (Lib.itoa n ++ r) = true := by rw [hc]; simpa [comes] using hb
        rw [e, e1, e2]
        simp only
        unfold plainL
        rw [e3, e4, numL_itoa n r hr hn1 hn2]
        simp
      · have hn0 : n = 0 := by rcases hn with h | h; exact h; exact absurd h h2
        subst hn0
        rw [if_neg h2]
        by_cases h3 : s = 3
        · subst h3
          obtain rfl := hl4 (by decide)
          rw [if_neg (by decide)] at hlast
          simp only [Bool.and_eq_true, List.isEmpty_iff] at hlast
          obtain rfl := hlast.1
          refine ⟨1, ?_⟩
          rw [if_pos rfl, valL_step]
          have e : skip (quoted t ++ r) = quoted t ++ r := skip_cons (by decide)
          have e1 : takes [123] (quoted t ++ r) = none := by unfold quoted; rw [List.cons_append, takes_cons, if_neg (by decide)]
          have e2 : takes [91] (quoted t ++ r) = none := by unfold quoted; rw [List.cons_append, takes_cons, if_neg (by decide)]
          have e3 : comes (· == 34) (quoted t ++ r) = true := rfl
          rw [e, e1, e2]
          simp only
          unfold plainL
          rw [e3, quoteL_quoted]
          simp
        · have ht0 : t = [] := by rcases ht with h | h; exact h; exact absurd h h3
          subst ht0
          rw [if_neg h3]
          by_cases h4 : s = 0
          · subst h4
            obtain rfl := hl4 (by decide)
            rw [if_neg (by decide)] at hlast
            simp only [Bool.and_eq_true, List.isEmpty_iff] at hlast
            obtain rfl := hlast.1
            refine ⟨1, ?_⟩
            rw [if_pos rfl, valL_step]
            have e : skip (nullL ++ r) = nullL ++ r := skip_cons (by decide)
            rw [e]
            simp [nullL, falseL, trueL, takes_cons, plainL, comes, takes_nil, isFig, V.null]
          · rw [if_neg h4]
            have hs45 : s = 4 ∨ s = 5 := by omega
            rw [if_pos hs45] at hd
            have hdl : ∀ x ∈ l, deep x ≤ deeps l := (deeps_le l (deeps l)).1 (Nat.le_refl _)
            have hrd : ∀ x ∈ l, Reads (o + 1) x := fun x hx => ih x hx (o + 1) (hfl x hx) (by have := hdl x hx; omega)
            by_cases h5 : s = 5
            · subst h5
              rw [if_pos rfl]
              rw [if_pos rfl, beq_iff_eq] at hlast
              have hnd := distinct_nodup hks
              have key : ∃ f, partsL f o 5 125 (commas (textKs l ks) ++ 125 :: r) = .ok (.mk 5 false 0 [] l ks) r := by
                cases l with
                | nil =>
                  obtain rfl : ks = [] := List.eq_nil_of_length_eq_zero hlast
                  refine ⟨1, ?_⟩
                  rw [partsL_step, if_neg (by omega)]
                  simp only [textKs, commas, List.nil_append, skip_cons (show isBlank 125 = false by decide), takes_cons, takes_nil, if_pos]
                | cons v l =>
                  cases ks with
                  | nil => simp at hlast
                  | cons k ks =>
                    obtain ⟨f, hf⟩ := loop_record l v (o + 1) [] k ks [] r (by simpa using hlast.symm) (hrd v (by simp)) (fun x hx => hrd x (by simp [hx])) (fun x hx => hfl x (by simp [hx])) (by simp) hnd
                    refine ⟨f + 1, ?_⟩
                    rw [partsL_step, if_neg (by omega)]
                    obtain ⟨q, hq⟩ : ∃ q, commas (textKs (v :: l) (k :: ks)) ++ 125 :: r = 34 :: q := by
                      cases l <;> exact ⟨_, rfl⟩
                    rw [hq] at hf ⊢
                    simp only [skip_cons (show isBlank 34 = false by decide), takes_cons, takes_nil]
                    rw [if_neg (by decide)]
                    simpa using hf
              obtain ⟨f, hf⟩ := key
              refine ⟨f + 1, ?_⟩
              have e0 : 123 :: (commas (textKs l ks) ++ [125]) ++ r = 123 :: (commas (textKs l ks) ++ 125 :: r) := by simp
              rw [valL_step, e0, skip_cons (by decide), takes_cons, if_pos rfl, takes_nil]
              simp only
              rw [hf]
            · have hs4 : s = 4 := by omega
              subst hs4
              rw [if_neg (by decide)] at hlast
              simp only [Bool.and_eq_true, List.isEmpty_iff] at hlast
              obtain rfl := hlast.1
              rw [if_neg (by decide)]
              have key : ∃ f, partsL f o 4 93 (commas (textsV l) ++ 93 :: r) = .ok (.mk 4 false 0 [] l []) r := by
                cases l with
                | nil =>
                  refine ⟨1, ?_⟩
                  rw [partsL_step, if_neg (by omega)]
                  simp only [textsV, commas, List.nil_append, skip_cons (show isBlank 93 = false by decide), takes_cons, takes_nil, if_pos]
                | cons v l =>
                  obtain ⟨f, hf⟩ := loop_list l v (o + 1) [] r (hrd v (by simp)) (fun x hx => hrd x (by simp [hx])) (fun x hx => hfl x (by simp [hx]))
                  refine ⟨f + 1, ?_⟩
                  rw [partsL_step, if_neg (by omega)]
                  obtain ⟨c, q, hc, hb⟩ := textV_head v (formed_sort (hfl v (by simp)))
                  obtain ⟨q, hq⟩ : ∃ q, commas (textsV (v :: l)) ++ 93 :: r = c :: q := by
                    cases l with
                    | nil => simp only [textsV, commas, hc]; exact ⟨_, rfl⟩
                    | cons x l => simp only [textsV, commas, hc]; exact ⟨_, rfl⟩
                  rw [hq] at hf ⊢
                  simp only [skip_cons hb.1, takes_cons, takes_nil]
                  rw [if_neg hb.2.1]
                  simpa using hf
              obtain ⟨f, hf⟩ := key
              refine ⟨f + 1, ?_⟩
              have e0 : 91 :: (commas (textsV l) ++ [93]) ++ r = 91 :: (commas (textsV l) ++ 93 :: r) := by simp
              rw [valL_step, e0, skip_cons (by decide), takes_cons, if_neg (by decide)]
              simp only
              rw [takes_cons, if_pos rfl, takes_nil]
              simp only
              rw [hf]
theorem valL_text {v : V} (h : right 20 v = true) : valL (steps (textV v)) 0 (textV v) = .ok v [] := by
  rw [right_formed, Bool.and_eq_true, decide_eq_true_eq] at h
  obtain ⟨f, hf⟩ := reads_formed v 0 h.1 (by omega) [] rfl
  rw [List.append_nil, skip_nil] at hf
  rw [valL_same (valL_steps 0 _) (g := f) (by rw [hf]; simp), hf]
end Go.Proofs.YtahiopjplfnlmaaGreatDoor
