/- What is read is right; a right value's text is a right text; plainly. -/
import Derived.Test.YtahiopjplfnlmaaGreatDoorBk
namespace Go.Proofs.YtahiopjplfnlmaaGreatDoor
open Go

/-! ### texts of right values -/
theorem quoteB_ascii (c : UInt8) (h : c.toNat < 128) : ∀ x ∈ quoteB c, x.toNat < 128 := by
  intro x hx
  have hf : ∀ n, n < 16 → (hexFig n).toNat < 128 := fun n hn => by
    have : n = 0 ∨ n = 1 ∨ n = 2 ∨ n = 3 ∨ n = 4 ∨ n = 5 ∨ n = 6 ∨ n = 7 ∨ n = 8 ∨ n = 9 ∨ n = 10 ∨ n = 11 ∨ n = 12 ∨ n = 13 ∨ n = 14 ∨ n = 15 := by omega
    rcases this with rfl | rfl | rfl | rfl | rfl | rfl | rfl | rfl | rfl | rfl | rfl | rfl | rfl | rfl | rfl | rfl <;> decide
  unfold quoteB at hx
  split at hx
  · rename_i h1
    have h2 := lt32 h1
    simp only [List.mem_cons, List.not_mem_nil, or_false] at hx
    rcases hx with rfl | rfl | rfl | rfl | rfl | rfl
    · decide
    · decide
    · decide
    · decide
    · exact hf _ (by omega)
    · exact hf _ (by omega)
  · split at hx
    · simp only [List.mem_cons, List.not_mem_nil, or_false] at hx
      rcases hx with rfl | rfl
      · decide
      · exact h
    · simp only [List.mem_cons, List.not_mem_nil, or_false] at hx
      rw [hx]; exact h
theorem quoteB_high {c : UInt8} (h : 128 ≤ c.toNat) : quoteB c = [c] := by
  unfold quoteB
  have h1 : ¬ c < 32 := fun h2 => by have := lt32 h2; omega
  have h2 : ¬ (c = 34 ∨ c = 92) := by rintro (rfl | rfl) <;> exact absurd h (by decide)
  rw [if_neg h1, if_neg h2]
theorem high_all : ∀ (l : Nm), (∀ c ∈ l, 128 ≤ c.toNat) → l.flatMap quoteB = l
  | [], _ => rfl
  | c :: l, h => by
    rw [List.flatMap_cons, quoteB_high (h c (by simp)), high_all l fun x hx => h x (by simp [hx])]; rfl
theorem scalarB_high {n : Nat} (h : Scalar n) (hn : 128 ≤ n) : ∀ c ∈ scalarB n, 128 ≤ c.toNat := by
  intro c hc
  apply Nat.le_of_not_lt
  intro hlt
  obtain ⟨j, hj⟩ := List.mem_iff_getElem?.1 hc
  have h1 := scalarB_low hj hlt h
  have h2 := congrArg List.length h1
  unfold scalarB at h2
  rw [if_neg (by omega)] at h2
  split at h2
  · simp only [List.length_cons, List.length_nil] at h2; omega
  · split at h2 <;> (simp only [List.length_cons, List.length_nil] at h2; omega)
theorem valid_quoteB : ∀ t : Nm, Lib.validD t = true → Lib.validD (t.flatMap quoteB) = true :=
  valid_ind rfl fun n r hs _ ih => by
    rw [List.flatMap_append]
    refine valid_app ?_ ih
    by_cases hn : n < 128
    · have e : scalarB n = [UInt8.ofNat n] := by unfold scalarB; rw [if_pos hn]
      rw [e, List.flatMap_cons, List.flatMap_nil, List.append_nil]
      exact valid_ascii _ (quoteB_ascii _ (by rw [u8 (by omega)]; exact hn))
    · rw [high_all _ (scalarB_high hs (by omega))]
      exact valid_scalarB hs
theorem valid_one {c : UInt8} {l : Nm} (hc : c.toNat < 128) (h : Lib.validD l = true) : Lib.validD (c :: l) = true := by rw [Lib.validD_cons c l hc]; exact h
theorem valid_quoted {t : Nm} (h : Lib.validD t = true) : Lib.validD (quoted t) = true :=
  valid_one (by decide) (valid_app (valid_quoteB t h) (by decide))
theorem valid_itoa (n : Int) : Lib.validD (Lib.itoa n) = true := by
  refine valid_ascii _ fun c hc => ?_
  unfold Lib.itoa at hc
  have key : ∀ m, ∀ c ∈ Lib.decDigits m, c.toNat < 128 := fun m c hc => by have := isFig_iff.1 (dec_figs m c hc); omega
  split at hc
  · rcases List.mem_cons.1 hc with rfl | h
    · decide
    · exact key _ c h
  · exact key _ c hc
theorem valid_commas : ∀ l : List Nm, (∀ x ∈ l, Lib.validD x = true) → Lib.validD (commas l) = true
  | [], _ => rfl
  | [x], h => h x (by simp)
  | x :: y :: l, h => by
    rw [commas]
    exact valid_app (h x (by simp)) (valid_one (by decide) (valid_commas (y :: l) fun z hz => h z (by simp [hz])))
    simp
theorem distinct_valid : ∀ {l : List Nm}, distinct l = true → ∀ k ∈ l, Lib.validD k = true
  | [], _, k, hk => by cases hk
  | j :: l, h, k, hk => by
    rw [distinct] at h
    simp only [Bool.and_eq_true] at h
    rcases List.mem_cons.1 hk with rfl | h2
    · exact h.1.1
    · exact distinct_valid h.2 k h2
theorem valid_textKs : ∀ (l : List V) (ks : List Nm), (∀ x ∈ l, Lib.validD (textV x) = true) → (∀ k ∈ ks, Lib.validD k = true) → ∀ x ∈ textKs l ks, Lib.validD x = true
  | [], _, _, _, x, hx => by simp [textKs] at hx
  | v :: l, ks, hl, hk, x, hx => by
    rw [textKs] at hx
    rcases List.mem_cons.1 hx with rfl | h
    · refine valid_app (valid_quoted ?_) (valid_one (by decide) (hl v (by simp)))
      cases ks with
      | nil => rfl
      | cons k ks => exact hk k (by simp)
    · exact valid_textKs l ks.tail (fun y hy => hl y (by simp [hy])) (fun k hk2 => hk k (List.mem_of_mem_tail hk2)) x h
theorem valid_textV (v : V) : formed v = true → Lib.validD (textV v) = true := by
  induction v using V.ind with
  | h s on n t l ks ih =>
    intro hfm
    rw [formed, Bool.and_eq_true] at hfm
    obtain ⟨hh, hfl⟩ := hfm
    rw [formeds_all, List.all_eq_true] at hfl
    unfold headOk at hh
    simp only [Bool.and_eq_true] at hh
    have ht := hh.1.1.2
    have hks := hh.1.2
    rw [textV]
    split
    · split <;> decide
    · split
      · exact valid_itoa n
      · split
        · exact valid_quoted ht
        · split
          · decide
          · split
            · exact valid_one (by decide) (valid_app (valid_commas _ (valid_textKs l ks (fun x hx => ih x hx (hfl x hx)) (distinct_valid hks))) (by decide))
            · refine valid_one (by decide) (valid_app (valid_commas _ ?_) (by decide))
              rw [textsV_map]
              intro x hx
              obtain ⟨y, hy, rfl⟩ := List.mem_map.1 hx
              exact ih y hy (hfl y hy)
theorem readL_text {v : V} (h : right 20 v = true) : readL (textV v) = .ok v [] := by
  have hf := h
  rw [right_formed, Bool.and_eq_true] at hf
  unfold readL
  rw [if_pos (valid_textV v hf.1), valL_text h]
  simp
/-- two right values of one text are one -/
theorem text_inj {v w : V} (hv : right 20 v = true) (hw : right 20 w = true) (h : textV v = textV w) : v = w := by
  have h1 := readL_text hv
  rw [h, readL_text hw] at h1
  injection h1 with h1
  exact h1.symm

/-! ### what is read is right -/
theorem valid_tail {p r : Nm} (hp : ∀ c ∈ p, c.toNat < 128) (h : Lib.validD (p ++ r) = true) : Lib.validD r = true := by
  induction p with
  | nil => exact h
  | cons c p ih =>
    rw [List.cons_append, Lib.validD_cons c _ (hp c (by simp))] at h
    exact ih (fun x hx => hp x (by simp [hx])) h
theorem valid_takes {p s r : Nm} (hp : ∀ c ∈ p, c.toNat < 128) (h : takes p s = some r) (hs : Lib.validD s = true) : Lib.validD r = true := by
  rw [takes_some h] at hs; exact valid_tail hp hs
theorem valid_drop {p : UInt8 → Bool} (hp : ∀ c, p c = true → c.toNat < 128) (s : Nm) (h : Lib.validD s = true) : Lib.validD (s.dropWhile p) = true := by
  induction s with
  | nil => exact h
  | cons c s ih =>
    rw [List.dropWhile_cons]
    split
    · rename_i hc
      rw [Lib.validD_cons c _ (hp c hc)] at h
      exact ih h
    · exact h
theorem blank_low (c : UInt8) (h : isBlank c = true) : c.toNat < 128 := by
  unfold isBlank at h
  simp only [Bool.or_eq_true, beq_iff_eq] at h
  rcases h with ((rfl | rfl) | rfl) | rfl <;> decide
theorem valid_skip {s : Nm} (h : Lib.validD s = true) : Lib.validD (skip s) = true := valid_drop blank_low s h
theorem hexVal_some {c : UInt8} {n : Nat} (h : hexVal c = some n) : n < 16 ∧ c.toNat < 128 := by
  unfold hexVal at h
  simp only [UInt8.le_iff_toNat_le, show (48 : UInt8).toNat = 48 from rfl, show (57 : UInt8).toNat = 57 from rfl, show (97 : UInt8).toNat = 97 from rfl, show (102 : UInt8).toNat = 102 from rfl, show (65 : UInt8).toNat = 65 from rfl, show (70 : UInt8).toNat = 70 from rfl] at h
  split at h
  · injection h with h; omega
  · split at h
    · injection h with h; omega
    · split at h
      · injection h with h; omega
      · cases h
theorem unit4_some {s r : Nm} {a : Nat} (h : unit4 s = some (a, r)) : a < 65536 ∧ (Lib.validD s = true → Lib.validD r = true) := by
  unfold unit4 at h
  split at h
  · split at h
    · rename_i c0 c1 c2 c3 q _ _ _ _ n0 n1 n2 n3 h0 h1 h2 h3
      injection h with h
      injection h with ha hr
      subst ha hr
      obtain ⟨a0, b0⟩ := hexVal_some h0
      obtain ⟨a1, b1⟩ := hexVal_some h1
      obtain ⟨a2, b2⟩ := hexVal_some h2
      obtain ⟨a3, b3⟩ := hexVal_some h3
      refine ⟨by omega, fun hv => ?_⟩
      rw [Lib.validD_cons _ _ b0, Lib.validD_cons _ _ b1, Lib.validD_cons _ _ b2, Lib.validD_cons _ _ b3] at hv
      exact hv
    · cases h
  · cases h
theorem escB_some {c x : UInt8} (h : escB c = some x) : c.toNat < 128 ∧ x.toNat < 128 := by
  unfold escB at h
  repeat' split at h
  all_goals first
    | (cases h; done)
    | (rename_i he; subst he; injection h with h; subst h; exact ⟨by decide, by decide⟩)
theorem escaped_valid {s x r : Nm} (h : escaped s = some (x, r)) (hs : Lib.validD s = true) : Lib.validD x = true ∧ Lib.validD r = true := by
  cases s with
  | nil => cases h
  | cons c s =>
    simp only [escaped] at h
    split at h
    · rename_i y hy
      injection h with h
      injection h with h1 h2
      subst h1 h2
      obtain ⟨b1, b2⟩ := escB_some hy
      rw [Lib.validD_cons _ _ b1] at hs
      exact ⟨valid_one b2 rfl, hs⟩
    · split at h
      · cases h
      · rename_i hc
        have hc : c = 117 := by simpa using hc
        rw [hc, Lib.validD_cons _ _ (by decide)] at hs
        split at h
        · cases h
        · rename_i a r1 h1
          obtain ⟨u1, u2⟩ := unit4_some h1
          split at h
          · rename_i ha
            injection h with h
            injection h with e1 e2
            rw [← e1, ← e2]
            exact ⟨valid_scalarB (by unfold Scalar; omega), u2 hs⟩
          · split at h
            · cases h
            · rename_i r2 h2
              have v2 := valid_takes (by decide) h2 (u2 hs)
              split at h
              · cases h
              · rename_i b r3 h3
                obtain ⟨w1, w2⟩ := unit4_some h3
                split at h
                · rename_i hb
                  injection h with h
                  injection h with e1 e2
                  rw [← e1, ← e2]
                  exact ⟨valid_scalarB (by unfold Scalar pairN; omega), w2 v2⟩
                · cases h
theorem strL_valid : ∀ (f : Nat) (acc p s x r : Nm), strL f (acc ++ p) s = some (x, r) → Lib.validD acc = true → Lib.validD (p ++ s) = true → Lib.validD x = true ∧ Lib.validD r = true
  | 0, acc, p, s, x, r, h, _, _ => by simp [strL] at h
  | f + 1, acc, p, [], x, r, h, _, _ => by simp [strL] at h
  | f + 1, acc, p, c :: s, x, r, h, ha, hp => by
    simp only [strL] at h
    split at h
    · cases h
    · split at h
      · rename_i hc
        injection h with h
        injection h with e1 e2
        obtain ⟨v1, v2⟩ := valid_cut (by rw [hc]; decide) p s hp
        rw [← e1, ← e2]
        exact ⟨valid_app ha v1, v2⟩
      · split at h
        · rename_i hc
          obtain ⟨v1, v2⟩ := valid_cut (by rw [hc]; decide) p s hp
          split at h
          · cases h
          · rename_i y r1 h1
            obtain ⟨w1, w2⟩ := escaped_valid h1 v2
            exact strL_valid f (acc ++ p ++ y) [] r1 x r (by rw [List.append_nil]; exact h) (valid_app (valid_app ha v1) w1) w2
        · exact strL_valid f acc (p ++ [c]) s x r (by rw [← List.append_assoc]; exact h) ha (by rw [List.append_assoc]; exact hp)
theorem quoteL_valid {s x r : Nm} (h : quoteL s = some (x, r)) (hs : Lib.validD s = true) : Lib.validD x = true ∧ Lib.validD r = true := by
  unfold quoteL at h
  split at h
  · cases h
  · rename_i r1 h1
    exact strL_valid _ [] [] r1 x r h rfl (valid_takes (by decide) h1 hs)
theorem keyL_valid {s k r : Nm} {ks : List Nm} (h : keyL s ks = some (k, r)) (hs : Lib.validD s = true) : Lib.validD k = true ∧ ¬ k ∈ ks ∧ Lib.validD r = true := by
  unfold keyL at h
  split at h
  · cases h
  · rename_i x r1 h1
    obtain ⟨v1, v2⟩ := quoteL_valid h1 (valid_skip hs)
    split at h
    · cases h
    · rename_i hk
      split at h
      · cases h
      · rename_i r2 h2
        injection h with h
        injection h with e1 e2
        rw [← e1, ← e2]
        exact ⟨v1, hk, valid_takes (by decide) h2 (valid_skip v2)⟩
theorem numRest_valid {s : Nm} (h : Lib.validD s = true) : Lib.validD (numRest s) = true := by
  unfold numRest
  refine valid_drop (fun c hc => by have := isFig_iff.1 hc; omega) _ ?_
  split
  · rename_i r h1; exact valid_takes (by decide) h1 h
  · exact h
theorem plainL_right {s r : Nm} {v : V} (h : plainL s = .ok v r) (hs : Lib.validD s = true) : formed v = true ∧ deep v = 0 ∧ Lib.validD r = true := by
  unfold plainL at h
  split at h
  · split at h
    · cases h
    · rename_i t r1 h1
      obtain ⟨v1, v2⟩ := quoteL_valid h1 hs
      injection h with e1 e2
      rw [← e1, ← e2]
      exact ⟨by simp [formed, headOk, v1, distinct, formeds], by simp [deep], v2⟩
  · split at h
    · split at h
      · cases h
      · rename_i n r1 h1
        injection h with e1 e2
        rw [← e1, ← e2]
        unfold numL at h1
        split at h1
        · split at h1
          · rename_i hn
            injection h1 with h1
            injection h1 with e3 e4
            rw [← e4, ← e3]
            exact ⟨by simp [formed, headOk, distinct, formeds, hn.2.1, hn.2.2, Lib.validD_nil], by simp [deep], numRest_valid hs⟩
          · cases h1
        · cases h1
    · split at h
      · rename_i r1 h1
        injection h with e1 e2
        rw [← e1, ← e2]
        exact ⟨by decide, by simp [deep], valid_takes (by decide) h1 hs⟩
      · split at h
        · rename_i r1 h1
          injection h with e1 e2
          rw [← e1, ← e2]
          exact ⟨by decide, by simp [deep], valid_takes (by decide) h1 hs⟩
        · split at h
          · rename_i r1 h1
            injection h with e1 e2
            rw [← e1, ← e2]
            exact ⟨by decide, by simp [deep, V.null], valid_takes (by decide) h1 hs⟩
          · cases h
theorem distinct_snoc {l : List Nm} {k : Nm} (h : distinct l = true) (hk : Lib.validD k = true) (hn : ¬ k ∈ l) : distinct (l ++ [k]) = true := by
  induction l with
  | nil => simp [distinct, hk]
  | cons j l ih =>
    rw [List.cons_append]
    rw [distinct] at h ⊢
    simp only [Bool.and_eq_true, Bool.not_eq_true', List.contains_eq_mem, decide_eq_false_iff_not, List.mem_cons, not_or] at h hn ⊢
    refine ⟨⟨h.1.1, ?_⟩, ih h.2 hn.2⟩
    rw [List.mem_append, List.mem_singleton]
    rintro (h1 | h1)
    · exact h.1.2 h1
    · exact hn.1 h1.symm
/-- what a list's, or a record's, parts come to -/
def Half (o : Nat) (sort : Int) (e : UInt8) (vs : List V) (ks : List Nm) (m : Nat) : Prop :=
  ((sort = 4 ∧ e = 93 ∧ ks = []) ∨ (sort = 5 ∧ e = 125 ∧ ks.length = vs.length + m)) ∧ 1 ≤ o ∧ o ≤ 20 ∧ (∀ x ∈ vs, formed x = true ∧ o + deep x ≤ 20) ∧ distinct ks = true
theorem half_done {o : Nat} {sort : Int} {e : UInt8} {vs : List V} {ks : List Nm} (h : Half o sort e vs ks 0) : formed (.mk sort false 0 [] vs ks) = true ∧ (o - 1) + deep (.mk sort false 0 [] vs ks) ≤ 20 := by
  obtain ⟨h1, h2, h3, h4, h5⟩ := h
  have hs : sort = 4 ∨ sort = 5 := by omega
  refine ⟨?_, ?_⟩
  · rw [formed, formeds_all, Bool.and_eq_true, List.all_eq_true]
    refine ⟨?_, fun x hx => (h4 x hx).1⟩
    rcases h1 with ⟨rfl, -, rfl⟩ | ⟨rfl, -, hl⟩
    · simp [headOk, distinct, Lib.validD_nil]
    · simp [headOk, h5, hl, Lib.validD_nil]
  · rw [deep, if_pos hs]
    have : deeps vs ≤ 20 - o := (deeps_le vs _).2 fun x hx => by have := (h4 x hx).2; omega
    omega
theorem read_right : ∀ f : Nat, (∀ o s v r, valL f o s = .ok v r → Lib.validD s = true → o ≤ 20 → formed v = true ∧ o + deep v ≤ 20 ∧ Lib.validD r = true) ∧
    (∀ o sort e s v r, partsL f o sort e s = .ok v r → Lib.validD s = true → (sort = 4 ∧ e = 93 ∨ sort = 5 ∧ e = 125) → formed v = true ∧ o + deep v ≤ 20 ∧ Lib.validD r = true) ∧
    (∀ o sort e s vs ks v r, loopL f o sort e s vs ks = .ok v r → Lib.validD s = true → Half o sort e vs ks 0 → formed v = true ∧ (o - 1) + deep v ≤ 20 ∧ Lib.validD r = true) ∧
    (∀ o sort e s vs ks v r, elemL f o sort e s vs ks = .ok v r → Lib.validD s = true → Half o sort e vs ks 1 → formed v = true ∧ (o - 1) + deep v ≤ 20 ∧ Lib.validD r = true)
  | 0 => ⟨fun _ _ _ _ h => by simp [valL] at h, fun _ _ _ _ _ _ h => by simp [partsL] at h, fun _ _ _ _ _ _ _ _ h => by simp [loopL] at h, fun _ _ _ _ _ _ _ _ h => by simp [elemL] at h⟩
  | f + 1 => by
    obtain ⟨h1, h2, h3, h4⟩ := read_right f
    refine ⟨fun o s v r h hs ho => ?_, fun o sort e s v r h hs hse => ?_, fun o sort e s vs ks v r h hs hh => ?_, fun o sort e s vs ks v r h hs hh => ?_⟩
    · rw [valL_step] at h
      have hv := valid_skip hs
      split at h
      · rename_i v1 r1 h5
        injection h with e1 e2
        rw [← e1, ← e2]
        have key : formed v1 = true ∧ o + deep v1 ≤ 20 ∧ Lib.validD r1 = true := by
          split at h5
          · rename_i r2 h7
            exact h2 _ _ _ _ _ _ h5 (valid_takes (by decide) h7 hv) (.inr ⟨rfl, rfl⟩)
          · split at h5
            · rename_i r2 h7
              exact h2 _ _ _ _ _ _ h5 (valid_takes (by decide) h7 hv) (.inl ⟨rfl, rfl⟩)
            · obtain ⟨k1, k2, k3⟩ := plainL_right h5 hv
              exact ⟨k1, by omega, k3⟩
        exact ⟨key.1, key.2.1, valid_skip key.2.2⟩
      · rename_i hne; exact absurd h (hne _ _)
    · rw [partsL_step] at h
      have hv := valid_skip hs
      have he : ∀ c ∈ [e], c.toNat < 128 := by
        intro c hc
        rw [List.mem_singleton] at hc
        rcases hse with ⟨-, rfl⟩ | ⟨-, rfl⟩ <;> (rw [hc]; decide)
      have hhalf : ∀ o, 1 ≤ o → o ≤ 20 → Half o sort e [] [] 0 := fun o p q => ⟨by rcases hse with ⟨a, b⟩ | ⟨a, b⟩; exact .inl ⟨a, b, rfl⟩; exact .inr ⟨a, b, rfl⟩, p, q, by simp, rfl⟩
      split at h
      · cases h
      · rename_i ho
        split at h
        · rename_i r2 h7
          injection h with e1 e2
          rw [← e1, ← e2]
          have k := half_done (hhalf (o + 1) (by omega) (by omega))
          exact ⟨k.1, by have := k.2; omega, valid_takes he h7 hv⟩
        · obtain ⟨k1, k2, k3⟩ := h3 _ _ _ _ _ _ _ _ h hv (hhalf (o + 1) (by omega) (by omega))
          exact ⟨k1, by omega, k3⟩
    · rw [loopL_step] at h
      obtain ⟨g1, g2, g3, g4, g5⟩ := hh
      split at h
      · rename_i h9
        split at h
        · cases h
        · rename_i k r1 h5
          obtain ⟨k1, k2, k3⟩ := keyL_valid h5 hs
          refine h4 _ _ _ _ _ _ _ _ h k3 ⟨.inr ⟨h9, ?_, ?_⟩, g2, g3, g4, distinct_snoc g5 k1 k2⟩
          · rcases g1 with ⟨a, -⟩ | ⟨-, a, -⟩
            · omega
            · exact a
          · rcases g1 with ⟨a, -⟩ | ⟨-, -, a⟩
            · omega
            · rw [List.length_append, a]; rfl
      · rename_i h9
        refine h4 _ _ _ _ _ _ _ _ h hs ⟨.inl ?_, g2, g3, g4, g5⟩
        rcases g1 with a | ⟨a, -⟩
        · exact a
        · exact absurd a h9
    · rw [elemL_step] at h
      obtain ⟨g1, g2, g3, g4, g5⟩ := hh
      have he : ∀ c ∈ [e], c.toNat < 128 := by
        intro c hc
        rw [List.mem_singleton] at hc
        rcases g1 with ⟨-, rfl, -⟩ | ⟨-, rfl, -⟩ <;> (rw [hc]; decide)
      split at h
      · rename_i x r1 h5
        obtain ⟨k1, k2, k3⟩ := h1 _ _ _ _ h5 hs g3
        have hnew : Half o sort e (vs ++ [x]) ks 0 := ⟨by
            rcases g1 with a | ⟨a, b, c⟩
            · exact .inl a
            · exact .inr ⟨a, b, by rw [c, List.length_append]; rfl⟩, g2, g3, fun y hy => by
            rcases List.mem_append.1 hy with hy | hy
            · exact g4 y hy
            · rw [List.mem_singleton] at hy; rw [hy]; exact ⟨k1, k2⟩, g5⟩
        split at h
        · rename_i r2 h7
          injection h with e1 e2
          rw [← e1, ← e2]
          have k := half_done hnew
          exact ⟨k.1, k.2, valid_takes he h7 k3⟩
        · split at h
          · rename_i r2 h7
            exact h3 _ _ _ _ _ _ _ _ h (valid_takes (by decide) h7 k3) hnew
          · cases h
      · rename_i hne; exact absurd h (hne _ _)
theorem readL_right {s : Nm} {v : V} {r : Nm} (h : readL s = .ok v r) : right 20 v = true ∧ r = [] := by
  unfold readL at h
  split at h
  · rename_i hs
    split at h
    · rename_i v1 r1 h1
      split at h
      · injection h with e1 e2
        subst e1 e2
        obtain ⟨k1, k2, -⟩ := (read_right _).1 _ _ _ _ h1 hs (by omega)
        exact ⟨by rw [right_formed, k1]; simp; omega, rfl⟩
      · cases h
    · rename_i hne; exact absurd h (hne _ _)
  · cases h
end Go.Proofs.YtahiopjplfnlmaaGreatDoor
