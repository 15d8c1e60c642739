/- Reasons, plainly: the rounds end, the way down is one, and what is told of it. -/
import Derived.Test.YtadekfjgdbngdaaLong
namespace Go.Proofs.Ytadekfjgdbngdaa
open Go

/-- what outlives a location -/
def Sink (lp : Nat → Int) (bs : List Bool) (t i : Nat) : Prop := i < 2 ∨ (bs[i]? = some true ∧ i ≠ t) ∨ lp i < lp t
instance (lp : Nat → Int) (bs : List Bool) (t i : Nat) : Decidable (Sink lp bs t i) := inferInstanceAs (Decidable (_ ∨ _ ∨ _))
/-- where the looks begin -/
def look0 (lp : Nat → Int) (bs : List Bool) (t n : Nat) : List Int := (List.range n).map fun i => if Sink lp bs t i then 0 else -2
theorem look0_len (lp : Nat → Int) (bs : List Bool) (t n : Nat) : (look0 lp bs t n).length = n := by simp [look0]
theorem look0_get {lp : Nat → Int} {bs : List Bool} {t n i : Nat} (h : i < n) : (look0 lp bs t n)[i]? = some (if Sink lp bs t i then 0 else -2) := by
  simp [look0, h]
theorem look0_val {lp : Nat → Int} {bs : List Bool} {t n i : Nat} {v : Int} (h : (look0 lp bs t n)[i]? = some v) (hv : v ≠ -2) : v = 0 ∧ Sink lp bs t i ∧ i < n := by
  have hi : i < n := by have := get_lt h; rwa [look0_len] at this
  rw [look0_get hi] at h
  by_cases hs : Sink lp bs t i
  · rw [if_pos hs] at h; cases h; exact ⟨rfl, hs, hi⟩
  · rw [if_neg hs] at h; cases h; exact absurd rfl hv

/-- looks behind one edge at least are never below -1 -/
theorem Looks.low {E : List EdgeD} {n : Nat} {l0 : List Int} (hok : ∀ e ∈ E, EdgeOk n e) {k : Nat} {a : List Int} (h : Looks E l0 (k + 1) a) {i : Nat} {v : Int} (hv : a[i]? = some v) (hne : v ≠ -2) : -1 ≤ v := by
  cases h with
  | succ _ hl =>
    obtain ⟨e, he, _, d, _, _, rfl⟩ := hl.ways i v hv hne
    have := (hok e he).2.2.2.2.1
    omega
/-- the looks, bounded -/
theorem Looks.high {E : List EdgeD} {D : Nat} {l0 : List Int} (hD : ∀ e ∈ E, e.deref ≤ D) (h0 : ∀ (i : Nat) v, l0[i]? = some v → v ≤ 0) {k : Nat} {a : List Int} (h : Looks E l0 k a) : ∀ {i : Nat} {v : Int}, a[i]? = some v → v ≠ -2 → v ≤ (k * D : Nat) := by
  induction h with
  | zero => intro i v hv _; have := h0 i v hv; omega
  | @succ k a b _ hl ih =>
    intro i v hv hne
    obtain ⟨e, he, _, d, hd, hd2, rfl⟩ := hl.ways i v hv hne
    have h1 := ih hd hd2
    have h2 := hD e he
    have h3 : ((k + 1) * D : Nat) = k * D + D := by rw [Nat.add_mul, Nat.one_mul]
    omega

/-- such a round is the last one -/
theorem WayK.stop {E : List EdgeD} {n : Nat} {l0 a : List Int} (hok : ∀ e ∈ E, EdgeOk n e) {k t : Nat} (hw : WayK E l0 k t (-1)) (h1 : 1 ≤ k) (ha : Looks E l0 k a) : a[t]? = some (-1) := by
  obtain ⟨u, hu, hu1, hu2⟩ := Looks.least hw ha
  cases k with
  | zero => omega
  | succ k =>
    have := ha.low hok hu hu1
    rw [hu]; congr 1; omega

/-- the step down: the least edge from c, by where it leads, then by its Deref, that leaves room -/
def IsStep (E : List EdgeD) (rest : List Int) (c m d r : Int) : Prop :=
  ∃ e ∈ E, e.src = c ∧ (∃ x, rest[e.dst.toNat]? = some x ∧ x ≠ -2 ∧ max x 0 + e.deref ≤ m) ∧ e.dst = d ∧ m - e.deref = r ∧
    ∀ f ∈ E, f.src = c → (∃ x, rest[f.dst.toNat]? = some x ∧ x ≠ -2 ∧ max x 0 + f.deref ≤ m) → e.dst < f.dst ∨ (e.dst = f.dst ∧ e.deref ≤ f.deref)
theorem IsStep.unique {E : List EdgeD} {rest : List Int} {c m d r d' r' : Int} (h : IsStep E rest c m d r) (h' : IsStep E rest c m d' r') : d = d' ∧ r = r' := by
  obtain ⟨e, he, hs, hx, rfl, rfl, hl⟩ := h
  obtain ⟨f, hf, hs', hx', rfl, rfl, hl'⟩ := h'
  have h1 := hl f hf hs' hx'
  have h2 := hl' e he hs hx
  omega

/-- the way down from round K to round j: it stands at c, and may still be m -/
inductive Desc (E : List EdgeD) (l0 : List Int) (K : Nat) (t : Int) : Nat → Int → Int → List Int → Prop
  | start : Desc E l0 K t K t (-1) [t]
  | step {j : Nat} {c m d r : Int} {out rest : List Int} (h : Desc E l0 K t (j + 1) c m out) (hl : Looks E l0 j rest) (hs : IsStep E rest c m d r) : Desc E l0 K t j d r (out ++ [d])
theorem Desc.le {E : List EdgeD} {l0 : List Int} {K : Nat} {t : Int} {j : Nat} {c m : Int} {out : List Int} (h : Desc E l0 K t j c m out) : j ≤ K := by
  induction h with
  | start => exact Nat.le_refl _
  | step _ _ _ ih => omega
theorem Desc.len {E : List EdgeD} {l0 : List Int} {K : Nat} {t : Int} {j : Nat} {c m : Int} {out : List Int} (h : Desc E l0 K t j c m out) : out.length + j = K + 1 := by
  induction h with
  | start => simp; omega
  | step h _ _ ih => simp at ih ⊢; omega
theorem Desc.head {E : List EdgeD} {l0 : List Int} {K : Nat} {t : Int} {j : Nat} {c m : Int} {out : List Int} (h : Desc E l0 K t j c m out) : out[0]? = some t := by
  induction h with
  | start => rfl
  | step h _ _ ih => rw [List.getElem?_append_left (get_lt ih)]; exact ih
theorem Desc.last {E : List EdgeD} {l0 : List Int} {K : Nat} {t : Int} {j : Nat} {c m : Int} {out : List Int} (h : Desc E l0 K t j c m out) : ∃ pre, out = pre ++ [c] := by
  cases h with
  | start => exact ⟨[], rfl⟩
  | step _ _ _ => exact ⟨_, rfl⟩
theorem Desc.unique {E : List EdgeD} {l0 : List Int} {K : Nat} {t : Int} {j : Nat} {c m : Int} {out : List Int} (h : Desc E l0 K t j c m out) : ∀ {c' m' : Int} {out' : List Int}, Desc E l0 K t j c' m' out' → c = c' ∧ m = m' ∧ out = out' := by
  induction h with
  | start =>
    intro c' m' out' h'
    cases h' with
    | start => exact ⟨rfl, rfl, rfl⟩
    | step h'' _ _ => have := h''.le; omega
  | step h hl hs ih =>
    intro c' m' out' h'
    cases h' with
    | start => have := h.le; omega
    | step h'' hl' hs' =>
      obtain ⟨rfl, rfl, rfl⟩ := ih h''
      obtain rfl := hl.unique hl'
      obtain ⟨rfl, rfl⟩ := hs.unique hs'
      exact ⟨rfl, rfl, rfl⟩
/-- there is room for the next one -/
theorem Desc.room {E : List EdgeD} {l0 : List Int} {n K : Nat} {t : Int} (hK : ∀ a, Looks E l0 K a → a[t.toNat]? = some (-1)) (ht : 0 ≤ t) (htn : t < n) (hok : ∀ e ∈ E, EdgeOk n e) {j : Nat} {c m : Int} {out : List Int} (h : Desc E l0 K t j c m out) :
    0 ≤ c ∧ c < n ∧ -1 ≤ m ∧ (j < K → 0 ≤ m) ∧ (∀ x ∈ out, 0 ≤ x ∧ x < n) ∧ ∀ a, Looks E l0 j a → ∃ v, a[c.toNat]? = some v ∧ v ≠ -2 ∧ v ≤ m := by
  induction h with
  | start => exact ⟨ht, htn, by decide, fun h => by omega, fun x hx => by simp at hx; subst hx; exact ⟨ht, htn⟩, fun a ha => ⟨-1, hK a ha, by decide, by decide⟩⟩
  | step h hl hs ih =>
    obtain ⟨e, he, hc, ⟨x, hx, hx1, hx2⟩, rfl, rfl, _⟩ := hs
    obtain ⟨h1, h2, h3, h4, h5, h6⟩ := hok e he
    refine ⟨h3, h4, by omega, fun _ => by omega, fun y hy => ?_, fun a ha => ⟨x, ?_, hx1, by omega⟩⟩
    · simp only [List.mem_append, List.mem_singleton] at hy
      rcases hy with hy | rfl
      · exact ih.2.2.2.2.1 y hy
      · exact ⟨h3, h4⟩
    · obtain rfl := hl.unique ha; exact hx
/-- so there is a next one -/
theorem Desc.more {E : List EdgeD} {l0 : List Int} {n K : Nat} {t : Int} (hK : ∀ a, Looks E l0 K a → a[t.toNat]? = some (-1)) (ht : 0 ≤ t) (htn : t < n) (hok : ∀ e ∈ E, EdgeOk n e) {j : Nat} {c m : Int} {out rest a : List Int}
    (h : Desc E l0 K t (j + 1) c m out) (hr : Looks E l0 j rest) (ha : Looks E l0 (j + 1) a) : ∃ e ∈ E, e.src = c ∧ ∃ x, rest[e.dst.toNat]? = some x ∧ x ≠ -2 ∧ max x 0 + e.deref ≤ m := by
  obtain ⟨h1, h2, h3, _, _, h5⟩ := h.room hK ht htn hok
  obtain ⟨v, hv, hv1, hv2⟩ := h5 a ha
  cases ha with
  | succ hp hl =>
    obtain rfl := hp.unique hr
    obtain ⟨e, he, hs, d, hd, hd2, rfl⟩ := hl.ways _ v hv hv1
    exact ⟨e, he, by have := (hok e he).1; omega, d, hd, hd2, hv2⟩

/-- the reason that is told -/
def IsWay (E : List EdgeD) (l0 : List Int) (t : Nat) (out : List Int) : Prop :=
  ∃ K, 1 ≤ K ∧ (∃ a, Looks E l0 K a ∧ a[t]? = some (-1)) ∧ (∀ j a, 1 ≤ j → j < K → Looks E l0 j a → a[t]? ≠ some (-1)) ∧ ∃ c m, Desc E l0 K t 0 c m out
theorem IsWay.unique {E : List EdgeD} {l0 : List Int} {t : Nat} {a b : List Int} (ha : IsWay E l0 t a) (hb : IsWay E l0 t b) : a = b := by
  obtain ⟨K, h1, ⟨x, hx, hx1⟩, h2, c, m, hd⟩ := ha
  obtain ⟨L, k1, ⟨y, hy, hy1⟩, k2, c', m', hd'⟩ := hb
  rcases Nat.lt_trichotomy K L with h | rfl | h
  · exact absurd hx1 (k2 K x h1 h hx)
  · exact (hd.unique hd').2.2
  · exact absurd hy1 (h2 L y k1 h hy)

/-- the least look of a way over locations, edge by edge -/
inductive LookR (E : List EdgeD) : List Int → Int → Prop
  | one (c : Int) : LookR E [c] 0
  | cons {c d v b : Int} {l : List Int} (h : LookR E (d :: l) v) (hb : ∃ e ∈ E, e.src = c ∧ e.dst = d ∧ e.deref = b) (hl : ∀ e ∈ E, e.src = c → e.dst = d → b ≤ e.deref) : LookR E (c :: d :: l) (max v 0 + b)

theorem Desc.look {E : List EdgeD} {l0 : List Int} {K : Nat} {t : Int} {j : Nat} {c m : Int} {out : List Int} (h : Desc E l0 K t j c m out) :
    ∀ {pre l : List Int} {v : Int}, out = pre ++ [c] → LookR E (c :: l) v → v ≤ m → ∃ v', LookR E (pre ++ c :: l) v' ∧ v' ≤ -1 := by
  induction h with
  | start =>
    intro pre l v ho hv hm
    have : pre = [] := by
      have := congrArg List.length ho
      simp at this; exact this
    subst this
    exact ⟨v, hv, hm⟩
  | @step j c m d r out rest h hl hs ih =>
    intro pre l v ho hv hm
    obtain rfl : out = pre := List.append_inj_left' ho rfl
    obtain ⟨pre', hp⟩ := h.last
    obtain ⟨e, he, hc, ⟨x, hx, hx1, hx2⟩, rfl, rfl, hle⟩ := hs
    have hlook : LookR E (c :: e.dst :: l) (max v 0 + e.deref) := .cons hv ⟨e, he, hc, rfl, rfl⟩ fun f hf hfc hfd => by
      rcases Int.lt_or_le f.deref e.deref with q | q
      · have := hle f hf hfc ⟨x, by rw [hfd]; exact hx, hx1, by omega⟩
        omega
      · exact q
    obtain ⟨v', hv', h1⟩ := ih hp hlook (by omega)
    refine ⟨v', ?_, h1⟩
    rw [hp]; simpa using hv'
theorem LookR.low {E : List EdgeD} {n : Nat} (hok : ∀ e ∈ E, EdgeOk n e) {l : List Int} {v : Int} (h : LookR E l v) : -1 ≤ v := by
  cases h with
  | one => decide
  | cons _ hb _ => obtain ⟨e, he, _, _, rfl⟩ := hb; have := (hok e he).2.2.2.2.1; omega
theorem LookR.unique {E : List EdgeD} {l : List Int} {v : Int} (h : LookR E l v) : ∀ {u : Int}, LookR E l u → v = u := by
  induction h with
  | one => intro u hu; cases hu; rfl
  | cons _ hb hl ih =>
    intro u hu
    cases hu with
    | cons h' hb' hl' =>
      obtain rfl := ih h'
      obtain ⟨e, he, h1, h2, rfl⟩ := hb
      obtain ⟨f, hf, k1, k2, rfl⟩ := hb'
      have := hl f hf k1 k2
      have := hl' e he h1 h2
      omega

/-- what is told of a reason -/
theorem IsWay.tells {E : List EdgeD} {l0 : List Int} {n t : Nat} {out : List Int} (h0 : ∀ (i : Nat) v, l0[i]? = some v → v ≠ -2 → v = 0) (hok : ∀ e ∈ E, EdgeOk n e) (ht : t < n) (h : IsWay E l0 t out) :
    2 ≤ out.length ∧ out[0]? = some (t : Int) ∧ (∀ x ∈ out, 0 ≤ x ∧ x < n) ∧ LookR E out (-1) ∧ (∃ c, out[out.length - 1]? = some c ∧ l0[c.toNat]? = some 0) ∧ ∀ j a, 1 ≤ j → j ≤ out.length - 2 → Looks E l0 j a → a[t]? ≠ some (-1) := by
  obtain ⟨K, h1, ⟨x, hx, hx1⟩, h2, c, m, hd⟩ := h
  have hlen := hd.len
  obtain ⟨k1, k2, k3, k4, k5, k6⟩ := hd.room (n := n) (fun a ha => by obtain rfl := ha.unique hx; exact hx1) (by omega) (by omega) hok
  obtain ⟨v, hv, hv1, hv2⟩ := k6 l0 .zero
  obtain rfl := h0 _ v hv hv1
  obtain ⟨pre, hp⟩ := hd.last
  obtain ⟨v', hv', hv3⟩ := hd.look hp (.one c) hv2
  have := hv'.low hok
  obtain rfl : v' = -1 := by omega
  refine ⟨by omega, hd.head, k5, by rw [hp]; exact hv', ⟨c, by rw [hp]; simp, hv⟩, fun j a hj1 hj2 ha => h2 j a hj1 (by omega) ha⟩
end Go.Proofs.Ytadekfjgdbngdaa
