/- Groups by depths and lows, plainly: what a walk from a node leaves are the groups that go round. -/
namespace Go.Proofs.Ytnepamdmjppglaa

section
variable {α : Type} [DecidableEq α]

def upd {β : Type} (f : α → β) (a : α) (v : β) : α → β := fun x => if x = a then v else f x
theorem upd_same {β : Type} (f : α → β) (a : α) (v : β) : upd f a v a = v := by simp [upd]
theorem upd_other {β : Type} (f : α → β) {a x : α} (v : β) (h : x ≠ a) : upd f a v x = f x := by simp [upd, h]

/-- what is reached by edges -/
inductive Rch (g : α → List α) : α → α → Prop
  | refl (x : α) : Rch g x x
  | tail {x y z : α} (h : Rch g x y) (he : z ∈ g y) : Rch g x z
theorem Rch.trans {β : Type} {g : β → List β} {x y z : β} (h : Rch g x y) (k : Rch g y z) : Rch g x z := by
  induction k with
  | refl => exact h
  | tail _ he ih => exact .tail ih he
theorem Rch.edge {β : Type} {g : β → List β} {x y : β} (h : y ∈ g x) : Rch g x y := .tail (.refl x) h
/-- a way that ends outside of where it began leaves it by an edge -/
theorem Rch.leaves {β : Type} {g : β → List β} {p : β → Prop} {x y : β} (h : Rch g x y) (hx : p x) (hy : ¬ p y) : ∃ u v, p u ∧ ¬ p v ∧ v ∈ g u ∧ Rch g x u ∧ Rch g v y := by
  induction h with
  | refl => exact absurd hx hy
  | @tail y' z' h he ih =>
    rcases Classical.em (p y') with hp | hp
    · exact ⟨y', z', hp, hy, he, h, .refl _⟩
    · obtain ⟨u, v, h1, h2, h3, h4, h5⟩ := ih hp
      exact ⟨u, v, h1, h2, h3, h4, .tail h5 he⟩

structure TSt (α : Type) where
  depth : α → Nat
  low : α → Nat
  grp : α → Nat
  stack : List α
  cnt : Nat
  all : List (List α)

/-- what holds between two visits; G: who has been come to and is not done, the first one first -/
structure TInv (g : α → List α) (s : TSt α) (G : List α) : Prop where
  nodup : s.stack.Nodup
  on : ∀ x, x ∈ s.stack ↔ s.depth x ≠ 0 ∧ s.grp x = 0
  ord : s.stack.Pairwise fun x y => s.depth x < s.depth y
  cnt : ∀ x, s.depth x ≤ s.cnt
  gray : ∀ x ∈ G, x ∈ s.stack
  down : ∀ x ∈ s.stack, ∃ y ∈ G, s.depth y ≤ s.depth x ∧ Rch g x y
  up : ∀ y ∈ G, ∀ x ∈ s.stack, s.depth y ≤ s.depth x → Rch g y x
  black : ∀ x, s.depth x ≠ 0 → x ∉ G → ∀ y ∈ g x, s.depth y ≠ 0
  seen : ∀ x, s.grp x ≠ 0 → s.depth x ≠ 0
  closed : ∀ x, s.grp x ≠ 0 → ∀ y ∈ g x, s.grp y ≠ 0
  topo : ∀ x, s.grp x ≠ 0 → ∀ y ∈ g x, s.grp y ≤ s.grp x
  num : ∀ x, s.grp x ≤ s.all.length
  mem : ∀ (i : Nat) l, s.all[i]? = some l → ∀ x, x ∈ l ↔ s.grp x = i + 1
  scc : ∀ (i : Nat) l, s.all[i]? = some l → ∀ x ∈ l, ∀ y, y ∈ l ↔ Rch g x y ∧ Rch g y x
  some_ : ∀ (i : Nat) l, s.all[i]? = some l → l ≠ []

theorem TInv.grouped {β : Type} {g : β → List β} {s : TSt β} {G : List β} (h : TInv g s G) {x y : β} (hr : Rch g x y) (hx : s.grp x ≠ 0) : s.grp y ≠ 0 := by
  induction hr with
  | refl => exact hx
  | tail _ he ih => exact h.closed _ ih _ he
theorem TInv.inj {g : α → List α} {s : TSt α} {G : List α} (h : TInv g s G) {x y : α} (hx : x ∈ s.stack) (hy : y ∈ s.stack) (he : s.depth x = s.depth y) : x = y := by
  obtain ⟨i, hi, rfl⟩ := List.getElem_of_mem hx
  obtain ⟨j, hj, rfl⟩ := List.getElem_of_mem hy
  have hp := List.pairwise_iff_getElem.1 h.ord
  rcases Nat.lt_trichotomy i j with q | rfl | q
  · have := hp i j hi hj q; omega
  · rfl
  · have := hp j i hj hi q; omega

/-- how a later state goes on from an earlier one -/
structure TExt (s s' : TSt α) : Prop where
  depth : ∀ x, s.depth x ≠ 0 → s'.depth x = s.depth x
  grp : ∀ x, s.grp x ≠ 0 → s'.grp x = s.grp x
  low : ∀ x, s.depth x ≠ 0 → s'.low x = s.low x
  stack : ∃ ext, s'.stack = s.stack ++ ext ∧ ∀ x ∈ ext, s.depth x = 0
  cnt : s.cnt ≤ s'.cnt
theorem TExt.refl {β : Type} (s : TSt β) : TExt s s := ⟨fun _ _ => rfl, fun _ _ => rfl, fun _ _ => rfl, ⟨[], by simp⟩, Nat.le_refl _⟩

/-- coming to a node -/
def TSt.come (s : TSt α) (n : α) : TSt α := { s with depth := upd s.depth n (s.cnt + 1), low := upd s.low n (s.cnt + 1), stack := s.stack ++ [n], cnt := s.cnt + 1 }

theorem TInv.come {g : α → List α} {s : TSt α} {G : List α} (h : TInv g s G) {n : α} (hn : s.depth n = 0) (hG : ∀ y ∈ G, Rch g y n) : TInv g (s.come n) (G ++ [n]) := by
  have hns : n ∉ s.stack := fun hm => ((h.on n).1 hm).1 hn
  have hgn : s.grp n = 0 := by
    rcases Nat.eq_zero_or_pos (s.grp n) with q | q
    · exact q
    · exact absurd hn (h.seen n (by omega))
  have hd : ∀ x, x ≠ n → (s.come n).depth x = s.depth x := fun x hx => upd_other _ _ hx
  have hdn : (s.come n).depth n = s.cnt + 1 := upd_same _ _ _
  have hne : ∀ x ∈ s.stack, x ≠ n := fun x hx e => hns (e ▸ hx)
  refine ⟨?_, fun x => ?_, ?_, fun x => ?_, fun x hx => ?_, fun x hx => ?_, fun y hy x hx hle => ?_, fun x hx hxG y hy => ?_, fun x hx => ?_, h.closed, h.topo, h.num, h.mem, h.scc, h.some_⟩
  · show (s.stack ++ [n]).Nodup
    rw [List.nodup_append]
    exact ⟨h.nodup, by simp, fun a ha b hb => by simp at hb; subst hb; exact hne a ha⟩
  · show x ∈ s.stack ++ [n] ↔ _
    rw [List.mem_append, List.mem_singleton]
    by_cases q : x = n
    · subst q; simp [TSt.come, hgn, upd]
    · rw [hd x q]; simp [q, h.on x, TSt.come]
  · show (s.stack ++ [n]).Pairwise _
    rw [List.pairwise_append]
    refine ⟨?_, by simp, fun x hx y hy => ?_⟩
    · refine List.Pairwise.imp_of_mem ?_ h.ord
      intro a b ha hb hab
      rw [hd a (hne a ha), hd b (hne b hb)]; exact hab
    · simp at hy; subst hy
      rw [hd x (hne x hx), hdn]
      have := h.cnt x; omega
  · by_cases q : x = n
    · subst q; rw [hdn]; exact Nat.le_refl _
    · rw [hd x q]; have := h.cnt x; show _ ≤ s.cnt + 1; omega
  · show x ∈ s.stack ++ [n]
    rw [List.mem_append, List.mem_singleton] at hx ⊢
    exact hx.imp (h.gray x) id
  · have hx' : x ∈ s.stack ++ [n] := hx
    rw [List.mem_append, List.mem_singleton] at hx'
    rcases hx' with q | rfl
    · obtain ⟨y, hy, h1, h2⟩ := h.down x q
      exact ⟨y, by simp [hy], by rw [hd y (hne y (h.gray y hy)), hd x (hne x q)]; exact h1, h2⟩
    · exact ⟨x, by simp, Nat.le_refl _, .refl _⟩
  · have hx' : x ∈ s.stack ++ [n] := hx
    rw [List.mem_append, List.mem_singleton] at hx' hy
    rcases hy with q | rfl
    · have hyn := hne y (h.gray y q)
      rcases hx' with r | rfl
      · rw [hd y hyn, hd x (hne x r)] at hle; exact h.up y q x r hle
      · exact hG y q
    · rcases hx' with r | rfl
      · rw [hdn, hd x (hne x r)] at hle
        have := h.cnt x; omega
      · exact .refl _
  · rw [List.mem_append, List.mem_singleton] at hxG
    have hxn : x ≠ n := fun e => hxG (.inr e)
    rw [hd x hxn] at hx
    have := h.black x hx (fun q => hxG (.inl q)) y hy
    by_cases q : y = n
    · subst q; rw [hdn]; omega
    · rw [hd y q]; exact this
  · have := h.seen x hx
    by_cases q : x = n
    · subst q; rw [hdn]; omega
    · rw [hd x q]; exact this

/-- what a visit of n leaves -/
structure VPost (g : α → List α) (s : TSt α) (G : List α) (n : α) (s' : TSt α) : Prop where
  inv : TInv g s' G
  ext : TExt s s'
  vis : s'.depth n ≠ 0
  lowv : s'.grp n = 0 → ∃ z ∈ s.stack, s.depth z = s'.low n ∧ Rch g n z
  lowg : s'.grp n ≠ 0 → s.cnt < s'.low n
  lowb : ∀ x, s.depth x = 0 → x ∈ s'.stack → ∀ y ∈ g x, y ∈ s.stack → s'.low n ≤ s.depth y

/-- what holds between two of n's calls; done: those that have been looked at -/
structure LInv (g : α → List α) (s : TSt α) (G : List α) (n : α) (done : List α) (t : TSt α) : Prop where
  inv : TInv g t (G ++ [n])
  depth : ∀ x, (s.come n).depth x ≠ 0 → t.depth x = (s.come n).depth x
  grp : ∀ x, s.grp x ≠ 0 → t.grp x = s.grp x
  low : ∀ x, s.depth x ≠ 0 → t.low x = s.low x
  stack : ∃ ext, t.stack = s.stack ++ [n] ++ ext ∧ ∀ x ∈ ext, (s.come n).depth x = 0
  cnt : s.cnt + 1 ≤ t.cnt
  lowv : ∃ z ∈ t.stack, t.depth z = t.low n ∧ Rch g n z
  lowle : t.low n ≤ t.depth n
  lowb : ∀ x, (s.come n).depth x = 0 → x ∈ t.stack → ∀ y ∈ g x, y ∈ s.stack → t.low n ≤ s.depth y
  seen : ∀ c ∈ done, t.depth c ≠ 0 ∧ (c ∈ s.stack → t.low n ≤ s.depth c)

theorem come_depth (s : TSt α) (n x : α) : (s.come n).depth x = if x = n then s.cnt + 1 else s.depth x := rfl
theorem come_zero {s : TSt α} {n x : α} (h : (s.come n).depth x = 0) : x ≠ n ∧ s.depth x = 0 := by
  rw [come_depth] at h
  by_cases q : x = n
  · rw [if_pos q] at h; omega
  · rw [if_neg q] at h; exact ⟨q, h⟩
theorem come_ne {s : TSt α} {n x : α} (h : s.depth x ≠ 0) (hn : s.depth n = 0) : (s.come n).depth x = s.depth x := by
  rw [come_depth, if_neg (fun e => h (by rw [e]; exact hn))]

theorem LInv.start {g : α → List α} {s : TSt α} {G : List α} (h : TInv g s G) {n : α} (hn : s.depth n = 0) (hG : ∀ y ∈ G, Rch g y n) : LInv g s G n [] (s.come n) := by
  refine ⟨h.come hn hG, fun _ _ => rfl, fun _ _ => rfl, fun x hx => upd_other _ _ (fun e => hx (by rw [e]; exact hn)), ⟨[], by simp [TSt.come]⟩, Nat.le_refl _, ⟨n, by simp [TSt.come], ?_, .refl n⟩, ?_, fun x hx hm => ?_, fun c hc => by simp at hc⟩
  · show upd s.depth n (s.cnt + 1) n = upd s.low n (s.cnt + 1) n
    rw [upd_same, upd_same]
  · show upd s.low n (s.cnt + 1) n ≤ upd s.depth n (s.cnt + 1) n
    rw [upd_same, upd_same]; exact Nat.le_refl _
  · exfalso
    obtain ⟨h1, h2⟩ := come_zero hx
    have hm' : x ∈ s.stack ++ [n] := hm
    rw [List.mem_append, List.mem_singleton] at hm'
    rcases hm' with q | q
    · exact ((h.on x).1 q).1 h2
    · exact h1 q

theorem LInv.on_stack {g : α → List α} {s t : TSt α} {G : List α} {n : α} {done : List α} (h : LInv g s G n done t) {x : α} (hx : x ∈ s.stack) : x ∈ t.stack := by
  obtain ⟨ext, he, _⟩ := h.stack
  rw [he]; simp [hx]
theorem LInv.depth_n {g : α → List α} {s t : TSt α} {G : List α} {n : α} {done : List α} (h : LInv g s G n done t) : t.depth n = s.cnt + 1 := by
  have h1 : (s.come n).depth n = s.cnt + 1 := by rw [come_depth, if_pos rfl]
  rw [h.depth n (by rw [h1]; omega), h1]
theorem LInv.depth_old {g : α → List α} {s t : TSt α} {G : List α} {n : α} {done : List α} (h : LInv g s G n done t) (hn : s.depth n = 0) {x : α} (hx : s.depth x ≠ 0) : t.depth x = s.depth x := by
  have h1 := come_ne (n := n) hx hn
  rw [h.depth x (by rw [h1]; exact hx), h1]

/-- a call that has been grouped -/
theorem LInv.skip {g : α → List α} {s t : TSt α} {G : List α} {n c : α} {done : List α} (h : LInv g s G n done t) (_ : TInv g s G) (hc : t.depth c ≠ 0) (hg : t.grp c ≠ 0) : LInv g s G n (done ++ [c]) t := by
  refine ⟨h.inv, h.depth, h.grp, h.low, h.stack, h.cnt, h.lowv, h.lowle, h.lowb, fun x hx => ?_⟩
  rw [List.mem_append, List.mem_singleton] at hx
  rcases hx with q | rfl
  · exact h.seen x q
  · exact ⟨hc, fun hm => absurd ((h.inv.on x).1 (h.on_stack hm)).2 hg⟩

theorem TInv.low {β : Type} {g : β → List β} {s : TSt β} {G : List β} (h : TInv g s G) (l : β → Nat) : TInv g { s with low := l } G :=
  ⟨h.nodup, h.on, h.ord, h.cnt, h.gray, h.down, h.up, h.black, h.seen, h.closed, h.topo, h.num, h.mem, h.scc, h.some_⟩

/-- a call that stands on the stack -/
theorem LInv.cross {g : α → List α} {s t : TSt α} {G : List α} {n c : α} {done : List α} (h : LInv g s G n done t) (hs : TInv g s G) (hn : s.depth n = 0) (hcn : c ∈ g n) (hc : t.depth c ≠ 0) (hg : t.grp c = 0) :
    LInv g s G n (done ++ [c]) { t with low := upd t.low n (min (t.low n) (t.depth c)) } := by
  have hl : upd t.low n (min (t.low n) (t.depth c)) n = min (t.low n) (t.depth c) := upd_same _ _ _
  have hcs : c ∈ t.stack := (h.inv.on c).2 ⟨hc, hg⟩
  refine ⟨h.inv.low _, h.depth, h.grp, fun x hx => ?_, h.stack, h.cnt, ?_, ?_, fun x hx hm y hy hys => ?_, fun x hx => ?_⟩
  · show upd t.low n _ x = _
    rw [upd_other _ _ (fun e => hx (by rw [e]; exact hn))]; exact h.low x hx
  · obtain ⟨z, h1, h2, h3⟩ := h.lowv
    rcases Nat.le_total (t.low n) (t.depth c) with q | q
    · exact ⟨z, h1, by show t.depth z = upd t.low n _ n; rw [hl, Nat.min_eq_left q]; exact h2, h3⟩
    · exact ⟨c, hcs, by show t.depth c = upd t.low n _ n; rw [hl, Nat.min_eq_right q], .edge hcn⟩
  · show upd t.low n _ n ≤ t.depth n
    rw [hl]; exact Nat.le_trans (Nat.min_le_left _ _) h.lowle
  · show upd t.low n _ n ≤ _
    rw [hl]; exact Nat.le_trans (Nat.min_le_left _ _) (h.lowb x hx hm y hy hys)
  · rw [List.mem_append, List.mem_singleton] at hx
    rcases hx with q | rfl
    · refine ⟨(h.seen x q).1, fun hm => ?_⟩
      show upd t.low n _ n ≤ _
      rw [hl]; exact Nat.le_trans (Nat.min_le_left _ _) ((h.seen x q).2 hm)
    · refine ⟨hc, fun hm => ?_⟩
      show upd t.low n _ n ≤ _
      rw [hl, ← h.depth_old hn ((hs.on x).1 hm).1]; exact Nat.min_le_right _ _

/-- a call that has been visited -/
theorem LInv.white {g : α → List α} {s t t1 : TSt α} {G : List α} {n c : α} {done : List α} (h : LInv g s G n done t) (hs : TInv g s G) (hn : s.depth n = 0) (hcn : c ∈ g n) (hc : t.depth c = 0) (hv : VPost g t (G ++ [n]) c t1) :
    LInv g s G n (done ++ [c]) { t1 with low := upd t1.low n (min (t1.low n) (t1.low c)) } := by
  have hl : upd t1.low n (min (t1.low n) (t1.low c)) n = min (t1.low n) (t1.low c) := upd_same _ _ _
  have hdn : t.depth n = s.cnt + 1 := h.depth_n
  have hln : t1.low n = t.low n := hv.ext.low n (by rw [hdn]; omega)
  have hdn1 : t1.depth n = t.depth n := hv.ext.depth n (by rw [hdn]; omega)
  obtain ⟨ext, he, hext⟩ := h.stack
  obtain ⟨ext1, he1, hext1⟩ := hv.ext.stack
  have hst : ∀ x ∈ t.stack, x ∈ t1.stack := fun x hx => by rw [he1]; simp [hx]
  refine ⟨hv.inv.low _, fun x hx => ?_, fun x hx => ?_, fun x hx => ?_, ⟨ext ++ ext1, ?_, fun x hx => ?_⟩, Nat.le_trans h.cnt hv.ext.cnt, ?_, ?_, fun x hx hm y hy hys => ?_, fun x hx => ?_⟩
  · have h1 := h.depth x hx
    show t1.depth x = _
    rw [hv.ext.depth x (by rw [h1]; exact hx), h1]
  · have h1 := h.grp x hx
    show t1.grp x = _
    rw [hv.ext.grp x (by rw [h1]; exact hx), h1]
  · show upd t1.low n _ x = _
    rw [upd_other _ _ (fun e => hx (by rw [e]; exact hn)), hv.ext.low x (by rw [h.depth_old hn hx]; exact hx)]; exact h.low x hx
  · show t1.stack = _
    rw [he1, he, List.append_assoc (s.stack ++ [n])]
  · rw [List.mem_append] at hx
    rcases hx with q | q
    · exact hext x q
    · rcases Classical.em ((s.come n).depth x = 0) with r | r
      · exact r
      · exact absurd (hext1 x q) (by rw [h.depth x r]; exact r)
  · obtain ⟨z, h1, h2, h3⟩ := h.lowv
    have hz : ∃ z ∈ t1.stack, t1.depth z = t1.low n ∧ Rch g n z := ⟨z, hst z h1, by rw [hln, hv.ext.depth z ((h.inv.on z).1 h1).1]; exact h2, h3⟩
    rcases Nat.le_total (t1.low n) (t1.low c) with q | q
    · obtain ⟨z, k1, k2, k3⟩ := hz
      exact ⟨z, k1, by show t1.depth z = upd t1.low n _ n; rw [hl, Nat.min_eq_left q]; exact k2, k3⟩
    · rcases Nat.eq_zero_or_pos (t1.grp c) with hg | hg
      · obtain ⟨z, k1, k2, k3⟩ := hv.lowv hg
        exact ⟨z, hst z k1, by show t1.depth z = upd t1.low n _ n; rw [hl, Nat.min_eq_right q, hv.ext.depth z ((h.inv.on z).1 k1).1]; exact k2, (Rch.edge hcn).trans k3⟩
      · have h5 := hv.lowg (by omega)
        have h6 := h.lowle
        have h7 := h.cnt
        have h8 := h.inv.cnt n
        omega
  · show upd t1.low n _ n ≤ t1.depth n
    rw [hl, hln, hdn1]; exact Nat.le_trans (Nat.min_le_left _ _) h.lowle
  · show upd t1.low n _ n ≤ _
    rw [hl]
    have hys' : y ∈ t.stack := h.on_stack hys
    have hdy : t.depth y = s.depth y := h.depth_old hn ((hs.on y).1 hys).1
    rcases Classical.em (t.depth x = 0) with r | r
    · have := hv.lowb x r hm y hy hys'
      rw [hdy] at this
      exact Nat.le_trans (Nat.min_le_right _ _) this
    · have hxt : x ∈ t.stack := by
        have hm' : x ∈ t1.stack := hm
        rw [he1, List.mem_append] at hm'
        rcases hm' with q | q
        · exact q
        · exact absurd (hext1 x q) r
      have := h.lowb x hx hxt y hy hys
      rw [hln]; exact Nat.le_trans (Nat.min_le_left _ _) this
  · rw [List.mem_append, List.mem_singleton] at hx
    rcases hx with q | rfl
    · refine ⟨by show t1.depth x ≠ 0; rw [hv.ext.depth x (h.seen x q).1]; exact (h.seen x q).1, fun hm => ?_⟩
      show upd t1.low n _ n ≤ _
      rw [hl, hln]; exact Nat.le_trans (Nat.min_le_left _ _) ((h.seen x q).2 hm)
    · refine ⟨hv.vis, fun hm => ?_⟩
      exfalso
      exact ((h.inv.on x).1 (h.on_stack hm)).1 hc

/-- older ones stand on the stack ahead -/
theorem LInv.older {g : α → List α} {s t : TSt α} {G : List α} {n : α} {done : List α} (h : LInv g s G n done t) {z : α} (hz : z ∈ t.stack) (hd : t.depth z < t.depth n) : z ∈ s.stack := by
  obtain ⟨ext, he, hext⟩ := h.stack
  have ho := h.inv.ord
  rw [he] at ho hz
  rw [List.append_assoc, List.pairwise_append] at ho
  rw [List.append_assoc, List.mem_append] at hz
  rcases hz with q | q
  · exact q
  · exfalso
    rw [List.mem_append, List.mem_singleton] at q
    rcases q with rfl | q
    · omega
    · have h2 := ho.2.1
      rw [List.singleton_append, List.pairwise_cons] at h2
      have := h2.1 z q
      omega

/-- n can come back further -/
theorem LInv.back {g : α → List α} {s t : TSt α} {G : List α} {n : α} (h : LInv g s G n (g n) t) (hs : TInv g s G) (hn : s.depth n = 0) (hlt : t.low n < t.depth n) : VPost g s G n t := by
  obtain ⟨z, hz1, hz2, hz3⟩ := h.lowv
  have hzs := h.older hz1 (by omega)
  have hdn := h.depth_n
  have hcn := h.inv.cnt n
  refine ⟨⟨h.inv.nodup, h.inv.on, h.inv.ord, h.inv.cnt, fun x hx => h.inv.gray x (by simp [hx]), fun x hx => ?_, fun y hy x hx => h.inv.up y (by simp [hy]) x hx, fun x hx hxG y hy => ?_, h.inv.seen, h.inv.closed, h.inv.topo, h.inv.num, h.inv.mem, h.inv.scc, h.inv.some_⟩,
    ⟨fun x hx => h.depth_old hn hx, h.grp, h.low, ?_, by omega⟩, by rw [hdn]; omega, fun _ => ⟨z, hzs, ?_, hz3⟩, fun hg => ?_, fun x hx hm y hy hys => ?_⟩
  · obtain ⟨y, hy, h1, h2⟩ := h.inv.down x hx
    rw [List.mem_append, List.mem_singleton] at hy
    rcases hy with q | rfl
    · exact ⟨y, q, h1, h2⟩
    · obtain ⟨y', hy', k1, k2⟩ := h.inv.down z hz1
      rw [List.mem_append, List.mem_singleton] at hy'
      rcases hy' with q | rfl
      · exact ⟨y', q, by omega, (h2.trans hz3).trans k2⟩
      · omega
  · rcases Classical.em (x = n) with rfl | q
    · exact (h.seen y hy).1
    · exact h.inv.black x hx (by simp [hxG, q]) y hy
  · obtain ⟨ext, he, hext⟩ := h.stack
    refine ⟨[n] ++ ext, by rw [he, List.append_assoc], fun x hx => ?_⟩
    rw [List.mem_append, List.mem_singleton] at hx
    rcases hx with rfl | q
    · exact hn
    · exact (come_zero (hext x q)).2
  · rw [← h.depth_old hn ((hs.on z).1 hzs).1]; exact hz2
  · exact absurd ((h.inv.on n).1 (h.inv.gray n (by simp))).2 hg
  · rcases Classical.em (x = n) with rfl | q
    · exact (h.seen y hy).2 hys
    · exact h.lowb x (by rw [come_depth, if_neg q]; exact hx) hm y hy hys

/-- taking a group off -/
def TSt.pop (t : TSt α) (pre l : List α) : TSt α := { t with stack := pre, all := t.all ++ [l], grp := fun x => if x ∈ l then t.all.length + 1 else t.grp x }

/-- n comes back no further: what stands from it on is a group -/
theorem LInv.pop {g : α → List α} {s t : TSt α} {G : List α} {n : α} (h : LInv g s G n (g n) t) (hs : TInv g s G) (hn : s.depth n = 0) (hlt : ¬ t.low n < t.depth n) {pre post l : List α} (hst : t.stack = pre ++ n :: post) (hl : ∀ x, x ∈ l ↔ x ∈ n :: post) :
    VPost g s G n (t.pop pre l) ∧ pre = s.stack := by
  have hlow : t.low n = t.depth n := by have := h.lowle; omega
  have hdn := h.depth_n
  have hcn := h.inv.cnt n
  have hnt : n ∈ t.stack := h.inv.gray n (by simp)
  -- who stands ahead is older
  obtain ⟨ext, he, hext⟩ := h.stack
  have ho := h.inv.ord
  have hpre : ∀ x, x ∈ pre → t.depth x < t.depth n := fun x hx => by
    rw [hst, List.pairwise_append] at ho
    exact ho.2.2 x hx n (by simp)
  have hpost : ∀ x, x ∈ n :: post → t.depth n ≤ t.depth x := fun x hx => by
    rw [hst, List.pairwise_append] at ho
    rcases List.mem_cons.1 hx with rfl | q
    · exact Nat.le_refl _
    · have := (List.pairwise_cons.1 ho.2.1).1 x q; omega
  have hmem : ∀ x, x ∈ l ↔ x ∈ t.stack ∧ t.depth n ≤ t.depth x := fun x => by
    rw [hl, hst, List.mem_append]
    constructor
    · intro hx; exact ⟨.inr hx, hpost x hx⟩
    · rintro ⟨q | q, hd⟩
      · have := hpre x q; omega
      · exact q
  have hpreS : pre = s.stack := by
    have e1 : pre ++ n :: post = s.stack ++ (n :: ext) := by rw [← hst, he, List.append_assoc]; rfl
    have hno1 : n ∉ pre := fun hm => by have := hpre n hm; omega
    have hno2 : n ∉ s.stack := fun hm => ((hs.on n).1 hm).1 hn
    have : ∀ (a b c d : List α), a ++ n :: b = c ++ n :: d → n ∉ a → n ∉ c → a = c := by
      intro a
      induction a with
      | nil =>
        intro b c d e _ hc
        cases c with
        | nil => rfl
        | cons y c => simp at e; exact absurd (by rw [← e.1]; simp) hc
      | cons x a ih =>
        intro b c d e ha hc
        cases c with
        | nil => simp at e; exact absurd (by rw [e.1]; simp) ha
        | cons y c =>
          simp at e
          obtain ⟨rfl, e⟩ := e
          rw [ih b c d (by simpa using e) (fun q => ha (by simp [q])) (fun q => hc (by simp [q]))]
    exact this _ _ _ _ e1 hno1 hno2
  have hnl : n ∈ l := (hl n).2 (by simp)
  -- an edge out of the group leads to what is grouped
  have hout : ∀ u ∈ l, ∀ v ∈ g u, v ∉ l → t.grp v ≠ 0 := fun u hu v hv hvl hg => by
    obtain ⟨hus, hud⟩ := (hmem u).1 hu
    have hvd : t.depth v ≠ 0 := by
      rcases Classical.em (u = n) with rfl | q
      · exact (h.seen v hv).1
      · refine h.inv.black u ((h.inv.on u).1 hus).1 (fun hm => ?_) v hv
        rw [List.mem_append, List.mem_singleton] at hm
        rcases hm with hm | hm
        · have := hs.gray u hm
          have h1 := h.depth_old hn ((hs.on u).1 this).1
          have h2 := hs.cnt u
          omega
        · exact q hm
    have hvs : v ∈ t.stack := (h.inv.on v).2 ⟨hvd, hg⟩
    have hvlt : t.depth v < t.depth n := by
      rcases Nat.lt_or_ge (t.depth v) (t.depth n) with q | q
      · exact q
      · exact absurd ((hmem v).2 ⟨hvs, q⟩) hvl
    have hvS := h.older hvs hvlt
    have hdv := h.depth_old hn ((hs.on v).1 hvS).1
    have hle : t.low n ≤ s.depth v := by
      rcases Classical.em (u = n) with rfl | q
      · exact (h.seen v hv).2 hvS
      · refine h.lowb u ?_ hus v hv hvS
        rw [come_depth, if_neg q]
        rcases Classical.em (s.depth u = 0) with r | r
        · exact r
        · have h1 := h.depth_old hn r
          have h2 := hs.cnt u
          omega
    omega
  -- the group is one
  have hto : ∀ x ∈ l, Rch g x n := fun x hx => by
    obtain ⟨hxs, hxd⟩ := (hmem x).1 hx
    obtain ⟨y, hy, h1, h2⟩ := h.inv.down x hxs
    rw [List.mem_append, List.mem_singleton] at hy
    rcases hy with q | rfl
    · exfalso
      have hyS := hs.gray y q
      have hyl : y ∉ l := fun hm => by
        have h3 := ((hmem y).1 hm).2
        have h4 := h.depth_old hn ((hs.on y).1 hyS).1
        have h5 := hs.cnt y
        omega
      obtain ⟨u, v, k1, k2, k3, _, k5⟩ := h2.leaves (p := (· ∈ l)) hx hyl
      have h6 := h.inv.grouped k5 (hout u k1 v k3 k2)
      exact h6 ((h.inv.on y).1 (h.on_stack hyS)).2
    · exact h2
  have hfrom : ∀ x ∈ l, Rch g n x := fun x hx => h.inv.up n (by simp) x ((hmem x).1 hx).1 ((hmem x).1 hx).2
  have hclosed : ∀ u ∈ l, ∀ y, Rch g u y → y ∈ l ∨ t.grp y ≠ 0 := fun u hu y hr => by
    rcases Classical.em (y ∈ l) with q | q
    · exact .inl q
    · obtain ⟨a, b, k1, k2, k3, _, k5⟩ := hr.leaves (p := (· ∈ l)) hu q
      exact .inr (h.inv.grouped k5 (hout a k1 b k3 k2))
  have hlg : ∀ x ∈ l, t.grp x = 0 := fun x hx => ((h.inv.on x).1 ((hmem x).1 hx).1).2
  have hgrp : ∀ x, (t.pop pre l).grp x = if x ∈ l then t.all.length + 1 else t.grp x := fun _ => rfl
  have hgne : ∀ x, (t.pop pre l).grp x ≠ 0 ↔ x ∈ l ∨ t.grp x ≠ 0 := fun x => by
    rw [hgrp]
    by_cases q : x ∈ l
    · rw [if_pos q]; simp [q]
    · rw [if_neg q]; simp [q]
  have hpm : ∀ x, x ∈ pre ↔ x ∈ t.stack ∧ t.depth x < t.depth n := fun x => by
    rw [hst, List.mem_append]
    constructor
    · intro hx; exact ⟨.inl hx, hpre x hx⟩
    · rintro ⟨q | q, hd⟩
      · exact q
      · have := hpost x q; omega
  refine ⟨⟨⟨?_, fun x => ?_, ?_, h.inv.cnt, fun x hx => ?_, fun x hx => ?_, fun y hy x hx => ?_, fun x hx hxG y hy => ?_, fun x hx => ?_, fun x hx y hy => ?_, fun x hx y hy => ?_, fun x => ?_, fun i l' hl' x => ?_, fun i l' hl' x hx y => ?_, fun i l' hl' => ?_⟩,
    ⟨fun x hx => h.depth_old hn hx, fun x hx => ?_, h.low, ⟨[], by show pre = _; rw [hpreS]; simp, fun x hx => by simp at hx⟩, by show s.cnt ≤ t.cnt; omega⟩, by show t.depth n ≠ 0; omega, fun hg => ?_, fun _ => by show s.cnt < t.low n; omega, fun x hx hm => ?_⟩, hpreS⟩
  · show pre.Nodup
    have := h.inv.nodup
    rw [hst, List.nodup_append] at this
    exact this.1
  · show x ∈ pre ↔ t.depth x ≠ 0 ∧ (t.pop pre l).grp x = 0
    rw [hpm, h.inv.on, hgrp]
    by_cases q : x ∈ l
    · rw [if_pos q]
      have := ((hmem x).1 q).2
      constructor
      · rintro ⟨_, h2⟩; omega
      · rintro ⟨_, h2⟩; omega
    · rw [if_neg q]
      constructor
      · rintro ⟨h1, _⟩; exact h1
      · intro h1
        refine ⟨h1, ?_⟩
        rcases Nat.lt_or_ge (t.depth x) (t.depth n) with r | r
        · exact r
        · exact absurd ((hmem x).2 ⟨(h.inv.on x).2 h1, r⟩) q
  · show pre.Pairwise _
    rw [hst, List.pairwise_append] at ho
    exact ho.1
  · show x ∈ pre
    rw [hpreS]; exact hs.gray x hx
  · have hx' : x ∈ pre := hx
    rw [hpreS] at hx'
    obtain ⟨y, hy, h1, h2⟩ := hs.down x hx'
    refine ⟨y, hy, ?_, h2⟩
    show t.depth y ≤ t.depth x
    rw [h.depth_old hn ((hs.on y).1 (hs.gray y hy)).1, h.depth_old hn ((hs.on x).1 hx').1]; exact h1
  · have hx' : x ∈ pre := hx
    exact h.inv.up y (by simp [hy]) x ((hpm x).1 hx').1
  · rcases Classical.em (x = n) with rfl | q
    · exact (h.seen y hy).1
    · exact h.inv.black x hx (by simp [hxG, q]) y hy
  · rcases (hgne x).1 hx with q | q
    · exact ((h.inv.on x).1 ((hmem x).1 q).1).1
    · exact h.inv.seen x q
  · rw [hgne]
    rcases (hgne x).1 hx with q | q
    · exact hclosed x q y (.edge hy)
    · exact .inr (h.inv.closed x q y hy)
  · rw [hgrp, hgrp]
    have h1 := h.inv.num y
    by_cases q : x ∈ l
    · rw [if_pos q]; split <;> omega
    · rw [if_neg q]
      have hx' : t.grp x ≠ 0 := by rcases (hgne x).1 hx with r | r; exact absurd r q; exact r
      have h2 := h.inv.closed x hx' y hy
      rw [if_neg (fun r => h2 (hlg y r))]
      exact h.inv.topo x hx' y hy
  · show (t.pop pre l).grp x ≤ (t.all ++ [l]).length
    rw [hgrp, List.length_append, List.length_singleton]
    have := h.inv.num x
    split <;> omega
  · have hl2 : (t.all ++ [l])[i]? = some l' := hl'
    rw [hgrp]
    rcases Nat.lt_or_ge i t.all.length with q | q
    · rw [List.getElem?_append_left q] at hl2
      have h1 := h.inv.mem i l' hl2 x
      by_cases r : x ∈ l
      · rw [if_pos r, h1, hlg x r]; constructor <;> intro k <;> omega
      · rw [if_neg r]; exact h1
    · rw [List.getElem?_append_right q] at hl2
      have hi : i - t.all.length = 0 := by
        rcases Nat.eq_zero_or_pos (i - t.all.length) with r | r
        · exact r
        · rw [List.getElem?_eq_none (by simp; omega)] at hl2; cases hl2
      rw [hi] at hl2
      simp at hl2
      subst hl2
      by_cases r : x ∈ l
      · rw [if_pos r]; constructor
        · intro _; omega
        · intro _; exact r
      · rw [if_neg r]
        have := h.inv.num x
        constructor
        · intro k; exact absurd k r
        · intro k; omega
  · have hl2 : (t.all ++ [l])[i]? = some l' := hl'
    rcases Nat.lt_or_ge i t.all.length with q | q
    · rw [List.getElem?_append_left q] at hl2
      exact h.inv.scc i l' hl2 x hx y
    · rw [List.getElem?_append_right q] at hl2
      have hi : i - t.all.length = 0 := by
        rcases Nat.eq_zero_or_pos (i - t.all.length) with r | r
        · exact r
        · rw [List.getElem?_eq_none (by simp; omega)] at hl2; cases hl2
      rw [hi] at hl2
      simp at hl2
      subst hl2
      constructor
      · intro hy; exact ⟨(hto x hx).trans (hfrom y hy), (hto y hy).trans (hfrom x hx)⟩
      · rintro ⟨h1, h2⟩
        rcases hclosed x hx y h1 with r | r
        · exact r
        · exact absurd (hlg x hx) (h.inv.grouped h2 r)
  · have hl2 : (t.all ++ [l])[i]? = some l' := hl'
    rcases Nat.lt_or_ge i t.all.length with q | q
    · rw [List.getElem?_append_left q] at hl2
      exact h.inv.some_ i l' hl2
    · rw [List.getElem?_append_right q] at hl2
      have hi : i - t.all.length = 0 := by
        rcases Nat.eq_zero_or_pos (i - t.all.length) with r | r
        · exact r
        · rw [List.getElem?_eq_none (by simp; omega)] at hl2; cases hl2
      rw [hi] at hl2
      simp at hl2
      subst hl2
      intro e; rw [e] at hnl; simp at hnl
  · rw [hgrp]
    have h1 := h.grp x hx
    by_cases r : x ∈ l
    · exact absurd (hlg x r) (by rw [h1]; exact hx)
    · rw [if_neg r]; exact h1
  · exfalso
    rw [hgrp, if_pos hnl] at hg; omega
  · exfalso
    have hm' : x ∈ pre := hm
    rw [hpreS] at hm'
    exact ((hs.on x).1 hm').1 hx
end
end Go.Proofs.Ytnepamdmjppglaa
