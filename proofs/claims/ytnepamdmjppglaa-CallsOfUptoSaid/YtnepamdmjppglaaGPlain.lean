/- The last loop of Groups, plainly: each time the first that may be in the order. -/
import Derived.Test.YtnepamdmjppglaaOrder
namespace Go.Proofs.Ytnepamdmjppglaa
open Go Go.RowKit

/-- what the walk over all names has left -/
structure Told (g : Nm → List Nm) (s : TSt Nm) (N : List Nm) (gl : Nat → List Nm) (n : Nat) : Prop where
  inv : TInv g s []
  mem : ∀ x, s.grp x ≠ 0 ↔ x ∈ N
  ris : ∀ i, i < n → (gl i).Pairwise fun x y => x < y
  all : ∀ i, i < n → s.all[i]? = some (gl i)
  len : s.all.length = n
structure LoopG (g : Nm → List Nm) (N : List Nm) (gl : Nat → List Nm) (n : Nat) (td done : List Nat) : Prop where
  dn : done.Nodup
  dlt : ∀ i ∈ done, i < n
  tdl : td.length = n + 1
  td0 : td[0]? = some 0
  tdv : ∀ i, i < n → td[i + 1]? = some (if i ∈ done then 1 else 0)
  seq : Seqs g (fun x y => x < y) N (done.map gl)

theorem LoopG.start (g : Nm → List Nm) (N : List Nm) (gl : Nat → List Nm) (n : Nat) : LoopG g N gl n (List.replicate (n + 1) 0) [] := by
  refine ⟨by simp, by simp, by simp, by simp, fun i hi => ?_, .nil⟩
  rw [List.getElem?_replicate, if_pos (by omega)]; simp
theorem Told.grp {g : Nm → List Nm} {s : TSt Nm} {N : List Nm} {gl : Nat → List Nm} {n : Nat} (h : Told g s N gl n) {i : Nat} (hi : i < n) : Grp g (fun x y => x < y) (gl i) :=
  ⟨h.inv.some_ i _ (h.all i hi), h.ris i hi, h.inv.scc i _ (h.all i hi)⟩
theorem Told.in_ {g : Nm → List Nm} {s : TSt Nm} {N : List Nm} {gl : Nat → List Nm} {n : Nat} (h : Told g s N gl n) {i : Nat} (hi : i < n) {x : Nm} : x ∈ gl i ↔ s.grp x = i + 1 := h.inv.mem i _ (h.all i hi) x
theorem Told.place {g : Nm → List Nm} {s : TSt Nm} {N : List Nm} {gl : Nat → List Nm} {n : Nat} (h : Told g s N gl n) {x : Nm} (hx : s.grp x ≠ 0) : ∃ j, j < n ∧ s.grp x = j + 1 ∧ x ∈ gl j := by
  have := h.inv.num x
  have hl := h.len
  exact ⟨s.grp x - 1, by omega, by omega, (h.in_ (by omega)).2 (by omega)⟩
theorem LoopG.told {g : Nm → List Nm} {s : TSt Nm} {N : List Nm} {gl : Nat → List Nm} {n : Nat} {td done : List Nat} (h : Told g s N gl n) (k : LoopG g N gl n td done) {x : Nm} : x ∈ (done.map gl).flatten ↔ ∃ j ∈ done, s.grp x = j + 1 := by
  rw [List.mem_flatten]
  constructor
  · rintro ⟨l, hl, hx⟩
    obtain ⟨j, hj, rfl⟩ := List.mem_map.1 hl
    exact ⟨j, hj, (h.in_ (k.dlt j hj)).1 hx⟩
  · rintro ⟨j, hj, hx⟩
    exact ⟨gl j, List.mem_map_of_mem hj, (h.in_ (k.dlt j hj)).2 hx⟩

theorem pick_iff {F : FC} {s : TSt Nm} {N : List Nm} {gl : Nat → List Nm} {n : Nat} {td done : List Nat} (h : Told (outs F.E) s N gl n) (k : LoopG (outs F.E) N gl n td done) {i : Nat} (hi : i < n) :
    pick F s td gl i = true ↔ i ∉ done ∧ May (outs F.E) (fun x y => x < y) N (done.map gl) (gl i) := by
  have hop : ∀ c, s.grp c ≠ 0 → (open_ s td i c = false ↔ s.grp c = i + 1 ∨ c ∈ (done.map gl).flatten) := fun c hc => by
    obtain ⟨j, hj, hg, _⟩ := h.place hc
    rw [k.told h]
    unfold open_
    rw [hg, k.tdv j hj]
    by_cases hji : j = i
    · subst hji; simp
    · by_cases hjd : j ∈ done
      · simp only [hjd, if_true]
        simp; exact .inr hjd
      · simp only [hjd, if_false]
        simp [hji]
        exact hjd
  have hr : rdy F s td i (gl i) = true ↔ ∀ x ∈ gl i, ∀ c ∈ outs F.E x, open_ s td i c = false := by
    unfold rdy hit
    simp only [Bool.not_eq_true', List.any_eq_false, Bool.not_eq_true]
  unfold pick
  rw [Bool.and_eq_true, decide_eq_true_eq, k.tdv i hi, hr]
  constructor
  · rintro ⟨h1, h2⟩
    have hd : i ∉ done := fun hm => by simp [hm] at h1
    refine ⟨hd, h.grp hi, fun x hx => (h.mem x).1 (by rw [(h.in_ hi).1 hx]; omega), fun x hx hm => ?_, fun x hx c hc => ?_⟩
    · obtain ⟨j, hj, hg⟩ := (k.told h).1 hm
      have := (h.in_ hi).1 hx
      have : j = i := by omega
      subst this; exact hd hj
    · have hg := (h.in_ hi).1 hx
      have hc0 := h.inv.closed x (by omega) c hc
      rcases (hop c hc0).1 (h2 x hx c hc) with q | q
      · exact .inl ((h.in_ hi).2 q)
      · exact .inr q
  · rintro ⟨hd, hm⟩
    refine ⟨by simp [hd], fun x hx c hc => ?_⟩
    have hg := (h.in_ hi).1 hx
    have hc0 := h.inv.closed x (by omega) c hc
    refine (hop c hc0).2 ?_
    rcases hm.rdy x hx c hc with q | q
    · exact .inl ((h.in_ hi).1 q)
    · exact .inr q
/-- who may come next is one of the groups, and is not told -/
theorem may_is {g : Nm → List Nm} {s : TSt Nm} {N : List Nm} {gl : Nat → List Nm} {n : Nat} {td done : List Nat} (h : Told g s N gl n) (k : LoopG g N gl n td done) {l : List Nm} (hm : May g (fun x y => x < y) N (done.map gl) l) : ∃ j, j < n ∧ l = gl j ∧ j ∉ done := by
  obtain ⟨z, hz⟩ := List.exists_mem_of_ne_nil _ hm.grp.ne
  obtain ⟨j, hj, hg, hzj⟩ := h.place ((h.mem z).2 (hm.sub z hz))
  refine ⟨j, hj, hm.grp.unique nmOrd (h.grp hj) hz hzj, fun hd => ?_⟩
  exact hm.new z hz ((k.told h).2 ⟨j, hd, hg⟩)
theorem LoopG.step {F : FC} {s : TSt Nm} {N : List Nm} {gl : Nat → List Nm} {n : Nat} {td done od : List Nat} (h : Told (outs F.E) s N gl n) (k : LoopG (outs F.E) N gl n td done) (hp : od.Perm (List.range n)) (hs : od.Pairwise fun x y => ¬ cmpL (gl y) (gl x) < 0)
    {q x : Nat} (hq : od[q]? = some x) (hpx : pick F s td gl x = true) (hno : ∀ (j : Nat) y, j < q → od[j]? = some y → pick F s td gl y = false) : LoopG (outs F.E) N gl n (td.set (x + 1) 1) (done ++ [x]) := by
  have hx : x < n := by
    have := hp.mem_iff.1 (List.mem_of_getElem? hq)
    simpa using this
  obtain ⟨hxd, hmay⟩ := (pick_iff h k hx).1 hpx
  refine ⟨?_, fun i hi => ?_, by rw [List.length_set]; exact k.tdl, ?_, fun i hi => ?_, ?_⟩
  · rw [List.nodup_append]
    exact ⟨k.dn, by simp, fun a ha b hb => by simp at hb; subst hb; exact fun e => hxd (e ▸ ha)⟩
  · rcases List.mem_append.1 hi with r | r
    · exact k.dlt i r
    · simp at r; omega
  · rw [List.getElem?_set_ne (by omega)]; exact k.td0
  · by_cases e : i = x
    · subst e
      rw [List.getElem?_set_self (by have := k.tdl; omega)]; simp
    · rw [List.getElem?_set_ne (by omega), k.tdv i hi]
      simp [e]
  · rw [List.map_append]
    refine .snoc k.seq ⟨hmay, fun l' a b hm ha hb hlt => ?_⟩
    obtain ⟨j, hj, rfl, hjd⟩ := may_is h k hm
    have hpj := (pick_iff h k hj).2 ⟨hjd, hm⟩
    obtain ⟨r, hr⟩ := List.getElem?_of_mem (hp.mem_iff.2 (List.mem_range.2 hj))
    rcases Nat.lt_trichotomy r q with t | t | t
    · rw [hno r j t hr] at hpj; cases hpj
    · subst t
      rw [hq] at hr; cases hr
      rw [ha] at hb; cases hb
      exact List.lt_irrefl _ hlt
    · have hqr := List.pairwise_iff_getElem.1 hs q r (get_lt hq) (get_lt hr) t
      rw [List.getElem?_eq_getElem (get_lt hq)] at hq
      rw [List.getElem?_eq_getElem (get_lt hr)] at hr
      rw [Option.some.inj hq, Option.some.inj hr] at hqr
      apply hqr
      cases hgj : gl j with
      | nil => rw [hgj] at ha; cases ha
      | cons a' la =>
        cases hgx : gl x with
        | nil => rw [hgx] at hb; cases hb
        | cons b' lb =>
          rw [hgj] at ha; rw [hgx] at hb
          cases ha; cases hb
          exact cmpL_lt_cons.2 (.inl hlt)
theorem LoopG.more {F : FC} {s : TSt Nm} {N : List Nm} {gl : Nat → List Nm} {n : Nat} {td done : List Nat} (h : Told (outs F.E) s N gl n) (k : LoopG (outs F.E) N gl n td done) (hlt : done.length < n) : ∃ i, i < n ∧ pick F s td gl i = true := by
  obtain ⟨i, hi, hid⟩ : ∃ i, i < n ∧ i ∉ done := by
    rcases Classical.em (∃ i, i < n ∧ i ∉ done) with q | q
    · exact q
    · exfalso
      have hsub : List.range n ⊆ done := fun i hi => by
        rcases Classical.em (i ∈ done) with r | r
        · exact r
        · exact absurd ⟨i, List.mem_range.1 hi, r⟩ q
      have := List.Nodup.length_le_of_subset List.nodup_range hsub
      rw [List.length_range] at this; omega
  obtain ⟨x, hx⟩ := List.exists_mem_of_ne_nil _ (h.grp hi).ne
  have hgx := (h.in_ hi).1 hx
  have hnx : x ∉ (done.map gl).flatten := fun hm => by
    obtain ⟨j, hj, hg⟩ := (k.told h).1 hm
    have : j = i := by omega
    subst this; exact hid hj
  obtain ⟨l, hl, hm⟩ := h.inv.may (lt := fun x y => x < y) (out := done.map gl) h.mem (fun l hl => by
      obtain ⟨j, hj⟩ := List.getElem?_of_mem hl
      have hjn : j < n := by have := get_lt hj; have := h.len; omega
      rw [h.all j hjn] at hj; cases hj; exact h.ris j hjn) (fun l hl => by
      obtain ⟨j, hj, rfl⟩ := List.mem_map.1 hl
      exact List.mem_of_getElem? (h.all j (k.dlt j hj))) ((h.mem x).1 (by omega)) hnx
  obtain ⟨j, hj, rfl, hjd⟩ := may_is h k hm
  exact ⟨j, hj, (pick_iff h k hj).2 ⟨hjd, hm⟩⟩
theorem LoopG.finish {g : Nm → List Nm} {s : TSt Nm} {N : List Nm} {gl : Nat → List Nm} {n : Nat} {td done : List Nat} (h : Told g s N gl n) (k : LoopG g N gl n td done) (hl : ¬ done.length < n) {x : Nm} (hx : x ∈ N) : x ∈ (done.map gl).flatten := by
  obtain ⟨j, hj, hg, _⟩ := h.place ((h.mem x).2 hx)
  refine (k.told h).2 ⟨j, ?_, hg⟩
  rcases Classical.em (j ∈ done) with q | q
  · exact q
  · exfalso
    have := List.Nodup.length_le_of_subset (List.nodup_cons.2 ⟨q, k.dn⟩) (l₂ := List.range n) (fun y hy => by
      rcases List.mem_cons.1 hy with rfl | r
      · exact List.mem_range.2 hj
      · exact List.mem_range.2 (k.dlt y r))
    rw [List.length_range, List.length_cons] at this; omega
theorem LoopG.le {g : Nm → List Nm} {N : List Nm} {gl : Nat → List Nm} {n : Nat} {td done : List Nat} (k : LoopG g N gl n td done) : done.length ≤ n := by
  have := List.Nodup.length_le_of_subset k.dn (l₂ := List.range n) (fun y hy => List.mem_range.2 (k.dlt y hy))
  rwa [List.length_range] at this

/-- by the same edges, however listed -/
theorem Seqs.congr {g g' : Nm → List Nm} {N N' : List Nm} (he : ∀ x y, y ∈ g x ↔ y ∈ g' x) (hN : ∀ x, x ∈ N ↔ x ∈ N') {out : List (List Nm)} (h : Seqs g (fun x y => x < y) N out) : Seqs g' (fun x y => x < y) N' out := by
  have hr : ∀ x y, Rch g x y ↔ Rch g' x y := fun x y => ⟨fun h => h.congr fun a b => (he a b).1, fun h => h.congr fun a b => (he a b).2⟩
  have hg : ∀ l, Grp g (fun x y => x < y) l ↔ Grp g' (fun x y => x < y) l := fun l =>
    ⟨fun h => ⟨h.ne, h.rising, fun x hx y => by rw [h.one x hx y, hr, hr]⟩, fun h => ⟨h.ne, h.rising, fun x hx y => by rw [h.one x hx y, hr, hr]⟩⟩
  have hm : ∀ o l, May g (fun x y => x < y) N o l ↔ May g' (fun x y => x < y) N' o l := fun o l =>
    ⟨fun h => ⟨(hg l).1 h.grp, fun x hx => (hN x).1 (h.sub x hx), h.new, fun x hx c hc => h.rdy x hx c ((he x c).2 hc)⟩,
     fun h => ⟨(hg l).2 h.grp, fun x hx => (hN x).2 (h.sub x hx), h.new, fun x hx c hc => h.rdy x hx c ((he x c).1 hc)⟩⟩
  induction h with
  | nil => exact .nil
  | snoc _ hn ih => exact .snoc ih ⟨(hm _ _).1 hn.may, fun l' x y hl => hn.least l' x y ((hm _ _).2 hl)⟩
end Go.Proofs.Ytnepamdmjppglaa
