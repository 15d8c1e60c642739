/- The groups in order, plainly: each time the group with the least name that is not told and calls none that is not told but its own. -/
import Derived.Test.YtnepamdmjppglaaTarj
namespace Go.Proofs.Ytnepamdmjppglaa

section
variable {α : Type} [DecidableEq α]

/-- a strict order in which any two that are not one can be told apart -/
structure Ord (lt : α → α → Prop) : Prop where
  irrefl : ∀ x, ¬ lt x x
  trans : ∀ x y z, lt x y → lt y z → lt x z
  total : ∀ x y, x ≠ y → lt x y ∨ lt y x

/-- rising lists with the same members are one -/
theorem rising_unique {β : Type} {lt : β → β → Prop} (ho : Ord lt) : ∀ {a b : List β}, a.Pairwise lt → b.Pairwise lt → (∀ x, x ∈ a ↔ x ∈ b) → a = b
  | [], [], _, _, _ => rfl
  | [], y :: b, _, _, h => by have := (h y).2 (by simp); simp at this
  | x :: a, [], _, _, h => by have := (h x).1 (by simp); simp at this
  | x :: a, y :: b, ha, hb, h => by
    rw [List.pairwise_cons] at ha hb
    have hxy : x = y := by
      rcases Classical.em (x = y) with q | q
      · exact q
      · exfalso
        have h1 := (h x).1 (by simp)
        have h2 := (h y).2 (by simp)
        rcases List.mem_cons.1 h1 with r | r
        · exact q r
        · rcases List.mem_cons.1 h2 with s | s
          · exact q s.symm
          · exact ho.irrefl _ (ho.trans _ _ _ (ha.1 y s) (hb.1 x r))
    subst hxy
    have : a = b := rising_unique ho ha.2 hb.2 fun z => by
      have hz := h z
      rw [List.mem_cons, List.mem_cons] at hz
      constructor
      · intro hm
        rcases hz.1 (.inr hm) with r | r
        · subst r; exact absurd (ha.1 z hm) (ho.irrefl z)
        · exact r
      · intro hm
        rcases hz.2 (.inr hm) with r | r
        · subst r; exact absurd (hb.1 z hm) (ho.irrefl z)
        · exact r
    rw [this]

/-- a group: those that reach each other, rising -/
structure Grp (g : α → List α) (lt : α → α → Prop) (l : List α) : Prop where
  ne : l ≠ []
  rising : l.Pairwise lt
  one : ∀ x ∈ l, ∀ y, y ∈ l ↔ Rch g x y ∧ Rch g y x
theorem Grp.unique {β : Type} {g : β → List β} {lt : β → β → Prop} (ho : Ord lt) {a b : List β} (ha : Grp g lt a) (hb : Grp g lt b) {x : β} (hxa : x ∈ a) (hxb : x ∈ b) : a = b :=
  rising_unique ho ha.rising hb.rising fun y => (ha.one x hxa y).trans (hb.one x hxb y).symm

/-- it calls none that is not told, but its own -/
def Rdy (g : α → List α) (told l : List α) : Prop := ∀ x ∈ l, ∀ c ∈ g x, c ∈ l ∨ c ∈ told

/-- a group that may come next -/
structure May (g : α → List α) (lt : α → α → Prop) (N : List α) (out : List (List α)) (l : List α) : Prop where
  grp : Grp g lt l
  sub : ∀ x ∈ l, x ∈ N
  new : ∀ x ∈ l, x ∉ out.flatten
  rdy : Rdy g out.flatten l

/-- the one that comes next: no other that may has a lesser first name -/
structure Nxt (g : α → List α) (lt : α → α → Prop) (N : List α) (out : List (List α)) (l : List α) : Prop where
  may : May g lt N out l
  least : ∀ l' x y, May g lt N out l' → l'.head? = some x → l.head? = some y → ¬ lt x y

theorem Nxt.unique {β : Type} {g : β → List β} {lt : β → β → Prop} (ho : Ord lt) {N : List β} {out : List (List β)} {a b : List β} (ha : Nxt g lt N out a) (hb : Nxt g lt N out b) : a = b := by
  obtain ⟨x, a', rfl⟩ := List.exists_cons_of_ne_nil ha.may.grp.ne
  obtain ⟨y, b', rfl⟩ := List.exists_cons_of_ne_nil hb.may.grp.ne
  have h1 := ha.least _ y x hb.may rfl rfl
  have h2 := hb.least _ x y ha.may rfl rfl
  have hxy : x = y := by
    rcases Classical.em (x = y) with q | q
    · exact q
    · rcases ho.total x y q with r | r
      · exact absurd r h2
      · exact absurd r h1
  subst hxy
  exact ha.may.grp.unique ho hb.may.grp (x := x) (by simp) (by simp)

/-- the groups that have come -/
inductive Seqs (g : α → List α) (lt : α → α → Prop) (N : List α) : List (List α) → Prop
  | nil : Seqs g lt N []
  | snoc {out : List (List α)} {l : List α} (h : Seqs g lt N out) (hn : Nxt g lt N out l) : Seqs g lt N (out ++ [l])

theorem Seqs.take {β : Type} {g : β → List β} {lt : β → β → Prop} {N : List β} {out : List (List β)} (h : Seqs g lt N out) : ∀ k, Seqs g lt N (out.take k) := by
  induction h with
  | nil => intro k; simp; exact .nil
  | @snoc out l h hn ih =>
    intro k
    rcases Nat.lt_or_ge out.length k with q | q
    · rw [List.take_of_length_le (by simp; omega)]; exact .snoc h hn
    · rw [List.take_append_of_le_length q]; exact ih k
theorem Seqs.unique {β : Type} {g : β → List β} {lt : β → β → Prop} (ho : Ord lt) {N : List β} {a b : List (List β)} (ha : Seqs g lt N a) (hb : Seqs g lt N b) (hl : a.length = b.length) : a = b := by
  induction ha generalizing b with
  | nil => cases hb with
    | nil => rfl
    | snoc _ _ => simp at hl
  | @snoc out l h hn ih =>
    cases hb with
    | nil => simp at hl
    | @snoc out' l' h' hn' =>
      obtain rfl := ih h' (by simpa using hl)
      rw [hn.unique ho hn']
theorem Seqs.next {β : Type} {g : β → List β} {lt : β → β → Prop} {N : List β} {out : List (List β)} (h : Seqs g lt N out) {k : Nat} (hk : k < out.length) : ∃ l, Nxt g lt N (out.take k) l := by
  induction h with
  | nil => simp at hk
  | @snoc out l h hn ih =>
    rcases Nat.lt_or_ge k out.length with q | q
    · rw [List.take_append_of_le_length (by omega)]; exact ih q
    · have : k = out.length := by simp at hk; omega
      subst this
      rw [List.take_append_of_le_length (Nat.le_refl _), List.take_length]; exact ⟨l, hn⟩

/-- all names told: the groups are these -/
theorem Seqs.whole {β : Type} {g : β → List β} {lt : β → β → Prop} (ho : Ord lt) {N : List β} {a b : List (List β)} (ha : Seqs g lt N a) (hb : Seqs g lt N b) (h1 : ∀ x ∈ N, x ∈ a.flatten) (h2 : ∀ x ∈ N, x ∈ b.flatten) : a = b := by
  have key : ∀ {a b : List (List β)}, Seqs g lt N a → Seqs g lt N b → (∀ x ∈ N, x ∈ a.flatten) → ¬ a.length < b.length := fun {a b} ha hb h1 hlt => by
    obtain ⟨l, hn⟩ := hb.next hlt
    have e : b.take a.length = a := (hb.take a.length).unique ho ha (by simp; omega)
    rw [e] at hn
    obtain ⟨x, l', rfl⟩ := List.exists_cons_of_ne_nil hn.may.grp.ne
    exact hn.may.new x (by simp) (h1 x (hn.may.sub x (by simp)))
  have k1 := key ha hb h1
  have k2 := key hb ha h2
  exact ha.unique ho hb (by omega)

/-- of a walk that is done: while a name is not told, there is a group that may come next -/
theorem TInv.may {β : Type} {g : β → List β} {lt : β → β → Prop} {s : TSt β} (h : TInv g s []) {N : List β} {out : List (List β)} (hN : ∀ x, s.grp x ≠ 0 ↔ x ∈ N) (hg : ∀ l ∈ s.all, l.Pairwise lt) (hout : ∀ l ∈ out, l ∈ s.all) {x : β} (hx : x ∈ N) (hnx : x ∉ out.flatten) :
    ∃ l ∈ s.all, May g lt N out l := by
  -- the first group in the walk's order that is not told
  have hex : ∃ (i : Nat) (l : List β), s.all[i]? = some l ∧ l ∉ out := by
    have h1 := (hN x).2 hx
    have h2 := h.num x
    obtain ⟨l, hl⟩ : ∃ l, s.all[s.grp x - 1]? = some l := ⟨_, List.getElem?_eq_getElem (by omega)⟩
    refine ⟨_, l, hl, fun hm => hnx ?_⟩
    exact List.mem_flatten.2 ⟨l, hm, (h.mem _ l hl x).2 (by omega)⟩
  obtain ⟨i, ⟨l, hl, hlo⟩, hmin⟩ : ∃ i : Nat, (∃ l, s.all[i]? = some l ∧ l ∉ out) ∧ ∀ (j : Nat) (l : List β), j < i → s.all[j]? = some l → l ∈ out := by
    obtain ⟨i, hi⟩ := hex
    induction i using Nat.strongRecOn with
    | ind i ih =>
      rcases Classical.em (∃ j : Nat, j < i ∧ ∃ l : List β, s.all[j]? = some l ∧ l ∉ out) with ⟨j, hj, hq⟩ | q
      · exact ih j hj hq
      · refine ⟨i, hi, fun j l hj hl => ?_⟩
        rcases Classical.em (l ∈ out) with r | r
        · exact r
        · exact absurd ⟨j, hj, l, hl, r⟩ q
  have hlm : l ∈ s.all := List.mem_of_getElem? hl
  refine ⟨l, hlm, ⟨h.some_ i l hl, hg l hlm, h.scc i l hl⟩, fun y hy => (hN y).1 (by rw [(h.mem i l hl y).1 hy]; omega), fun y hy hm => ?_, fun y hy c hc => ?_⟩
  · obtain ⟨l', hl', hy'⟩ := List.mem_flatten.1 hm
    obtain ⟨j, hj⟩ := List.getElem?_of_mem (hout l' hl')
    have e1 := (h.mem i l hl y).1 hy
    have e2 := (h.mem j l' hj y).1 hy'
    have : i = j := by omega
    subst this
    rw [hl] at hj; cases hj
    exact hlo hl'
  · have e1 := (h.mem i l hl y).1 hy
    have e2 := h.topo y (by omega) c hc
    have e3 := h.closed y (by omega) c hc
    rcases Nat.lt_or_ge (s.grp c) (i + 1) with q | q
    · right
      have e4 := h.num c
      obtain ⟨l', hl'⟩ : ∃ l', s.all[s.grp c - 1]? = some l' := ⟨_, List.getElem?_eq_getElem (by omega)⟩
      exact List.mem_flatten.2 ⟨l', hmin _ l' (by omega) hl', (h.mem _ l' hl' c).2 (by omega)⟩
    · exact .inl ((h.mem i l hl c).2 (by omega))
end
end Go.Proofs.Ytnepamdmjppglaa
