/- The order of groups, plainly: where a name's group stands. -/
import Derived.Test.YtnepamdmjppglaaGr
namespace Go.Proofs.Ytnepamdmjppglaa
open Go Go.RowKit

theorem Seqs.at {α : Type} {g : α → List α} {lt : α → α → Prop} {N : List α} {gs : List (List α)} (h : Seqs g lt N gs) : ∀ {i : Nat} {a : List α}, gs[i]? = some a → Nxt g lt N (gs.take i) a := by
  induction h with
  | nil => intro i a hi; simp at hi
  | @snoc out l h hn ih =>
    intro i a hi
    by_cases hlt : i < out.length
    · rw [List.getElem?_append_left hlt] at hi
      rw [List.take_append_of_le_length (by omega)]
      exact ih hi
    · have hle : i < (out ++ [l]).length := (List.getElem?_eq_some_iff.1 hi).1
      have : i = out.length := by simp at hle; omega
      subst this
      simp at hi
      subst hi
      simpa using hn
theorem in_take {α : Type} {gs : List (List α)} {i j : Nat} {a : List α} {x : α} (hi : gs[i]? = some a) (hij : i < j) (hx : x ∈ a) : x ∈ (gs.take j).flatten :=
  List.mem_flatten.2 ⟨a, List.mem_of_getElem? (i := i) (by rw [List.getElem?_take]; simp [hij, hi]), hx⟩
theorem Seqs.apart {α : Type} {g : α → List α} {lt : α → α → Prop} {N : List α} {gs : List (List α)} (h : Seqs g lt N gs) {i j : Nat} {a b : List α} {x : α} (hi : gs[i]? = some a) (hj : gs[j]? = some b) (ha : x ∈ a) (hb : x ∈ b) : i = j := by
  rcases Nat.lt_trichotomy i j with q | q | q
  · exact absurd (in_take hi q ha) ((h.at hj).may.new x hb)
  · exact q
  · exact absurd (in_take hj q hb) ((h.at hi).may.new x ha)

/-- the number of the first group that has a name; -1: none has -/
def placeOf : List (List Nm) → Nm → Int
  | [], _ => -1
  | a :: gs, x => if x ∈ a then 0 else if placeOf gs x < 0 then -1 else placeOf gs x + 1
theorem placeOf_none {x : Nm} : ∀ {gs : List (List Nm)}, (∀ a ∈ gs, x ∉ a) → placeOf gs x = -1
  | [], _ => rfl
  | a :: gs, h => by
    have h1 := placeOf_none (gs := gs) fun b hb => h b (List.mem_cons_of_mem _ hb)
    have h2 := h a (List.mem_cons_self ..)
    simp [placeOf, h1, h2]
theorem placeOf_at {x : Nm} : ∀ {gs : List (List Nm)} {i : Nat} {a : List Nm}, gs[i]? = some a → x ∈ a → (∀ (j : Nat) b, j < i → gs[j]? = some b → x ∉ b) → placeOf gs x = i
  | [], i, a, h, _, _ => by simp at h
  | b :: gs, 0, a, h, hx, _ => by
    simp at h; subst h
    simp [placeOf, hx]
  | b :: gs, i + 1, a, h, hx, hn => by
    have h1 := placeOf_at (gs := gs) (i := i) (by simpa using h) hx fun j c hj hc => hn (j + 1) c (by omega) (by simpa using hc)
    have h2 := hn 0 b (by omega) rfl
    simp only [placeOf, h2, if_false, h1]
    rw [if_neg (by omega)]
    omega
theorem placeOf_in {g : Nm → List Nm} {lt : Nm → Nm → Prop} {N : List Nm} {gs : List (List Nm)} (h : Seqs g lt N gs) {i : Nat} {a : List Nm} {x : Nm} (hi : gs[i]? = some a) (hx : x ∈ a) : placeOf gs x = i :=
  placeOf_at hi hx fun j b hj hb hxb => by have := h.apart hb hi hxb hx; omega

theorem Rch.head {α : Type} {g : α → List α} {x y : α} (h : Rch g x y) (hne : x ≠ y) : ∃ z ∈ g x, Rch g z y := by
  induction h with
  | refl => exact absurd rfl hne
  | @tail y z h he ih =>
    by_cases q : x = y
    · subst q; exact ⟨z, he, .refl z⟩
    · obtain ⟨u, hu, hr⟩ := ih q
      exact ⟨u, hu, .tail hr he⟩

/-- a group of more than one goes round -/
theorem Grp.round {g : Nm → List Nm} {a : List Nm} (h : Grp g (fun x y => x < y) a) (hl : 1 < a.length) {x : Nm} (hx : x ∈ a) : ∃ y ∈ g x, Rch g y x := by
  have hd : a.Nodup := h.rising.imp fun h e => by subst e; exact absurd h (List.lt_irrefl _)
  have : ∃ y ∈ a, y ≠ x := by
    match a, hl, hd with
    | p :: q :: _, _, hd =>
      by_cases e : p = x
      · refine ⟨q, by simp, fun e2 => ?_⟩
        subst e; subst e2
        simp at hd
      · exact ⟨p, by simp, e⟩
  obtain ⟨y, hy, hne⟩ := this
  obtain ⟨h1, h2⟩ := (h.one x hx y).1 hy
  obtain ⟨z, hz, hr⟩ := h1.head (fun e => hne e.symm)
  exact ⟨z, hz, hr.trans h2⟩

theorem Seqs.flat {g : Nm → List Nm} {N : List Nm} {gs : List (List Nm)} (h : Seqs g (fun x y => x < y) N gs) : gs.flatten.Nodup ∧ ∀ x ∈ gs.flatten, x ∈ N := by
  induction h with
  | nil => simp
  | @snoc out l h hn ih =>
    rw [List.flatten_append, List.flatten_singleton]
    refine ⟨List.nodup_append.2 ⟨ih.1, hn.may.grp.rising.imp fun h e => by subst e; exact absurd h (List.lt_irrefl _), fun x hx y hy e => by subst e; exact hn.may.new x hy hx⟩, fun x hx => ?_⟩
    rcases List.mem_append.1 hx with q | q
    · exact ih.2 x q
    · exact hn.may.sub x q
theorem Seqs.count {g : Nm → List Nm} {N ns : List Nm} {gs : List (List Nm)} (h : Seqs g (fun x y => x < y) N gs) (hall : ∀ x ∈ N, x ∈ gs.flatten) (hr : ns.Pairwise fun x y => x < y) (hm : ∀ x, x ∈ ns ↔ x ∈ N) : gs.flatten.length = ns.length := by
  have hd : ns.Nodup := hr.imp fun h e => by subst e; exact absurd h (List.lt_irrefl _)
  have h1 := List.Nodup.length_le_of_subset h.flat.1 (l₂ := ns) fun x hx => (hm x).2 (h.flat.2 x hx)
  have h2 := List.Nodup.length_le_of_subset hd (l₂ := gs.flatten) fun x hx => hall x ((hm x).1 hx)
  omega

/-- what a node calls is in its group, or in one ahead -/
theorem order_calls {l : List NodeD} {gs : List (List Nm)} (h : Seqs (G l) (fun x y => x < y) (names l) gs) (hall : ∀ x ∈ names l, x ∈ gs.flatten) {i : Nat} {d : NodeD} (hd : l[i]? = some d) (hf : ∀ j (e : NodeD), j < i → l[j]? = some e → e.name ≠ d.name) {y : Nm} (hy : y ∈ d.calls) : 0 ≤ placeOf gs d.name ∧ placeOf gs y ≤ placeOf gs d.name := by
  obtain ⟨a, ha, hxa⟩ := List.mem_flatten.1 (hall d.name (mem_names.2 ⟨d, List.mem_of_getElem? hd, rfl⟩))
  obtain ⟨k, hk⟩ := List.getElem?_of_mem ha
  rw [placeOf_in h hk hxa]
  refine ⟨Int.natCast_nonneg _, ?_⟩
  by_cases hn : y ∈ names l
  · have hg : y ∈ G l d.name := mem_G.2 ⟨by rw [callsOf_first hd hf]; exact hy, hn⟩
    rcases (h.at hk).may.rdy d.name hxa y hg with q | q
    · rw [placeOf_in h hk q]; exact Int.le_refl _
    · obtain ⟨b, hb, hyb⟩ := List.mem_flatten.1 q
      obtain ⟨j, hj⟩ := List.getElem?_of_mem hb
      have hjk : j < k := by
        have := (List.getElem?_eq_some_iff.1 hj).1
        simp at this
        omega
      rw [List.getElem?_take, if_pos hjk] at hj
      rw [placeOf_in h hj hyb]
      omega
  · rw [placeOf_none fun b hb hyb => hn (h.flat.2 y (List.mem_flatten.2 ⟨b, hb, hyb⟩))]
    omega
end Go.Proofs.Ytnepamdmjppglaa
