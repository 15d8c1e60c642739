/- The groups' order: sorted by slices.Compare; the numbers 0, 1, .. gathered. -/
import Derived.Test.YtnepamdmjppglaaClos
namespace Go.Proofs.Ytnepamdmjppglaa
open Go Go.RowKit Go.Shelf Go.Sort

theorem own_put {α : Type} [Inhabited α] (enc : α → Value) {w : World} {B : Nat} {e : TypeId} {g off cap n q : Nat} {os : Array Obj} {xs : List Value} {d : Array α} (hd : d.size = n) (h : Own w B e 1 (some ⟨g, off, none⟩) n cap xs) (h0 : 0 < n) :
    Own (grow (putRow enc (Sort.ahead w q) g off d) os) B e 1 (some ⟨g, off, none⟩) n cap (d.toList.map enc) := by
  rcases h.2 with ⟨h1, _, _⟩ | ⟨g', off', cur, e1, h2, h3, h4, h5, h6, h7⟩
  · omega
  · cases e1
    have hg : g < w.heap.size := (Array.getElem?_eq_some_iff.1 h3).1
    have hb : (grow (putRow enc (Sort.ahead w q) g off d) os).heap[g]? = some (.cells (putCells enc off d cur) e (0, 0)) := by
      rw [heap_grow_old _ _ (by simpa using hg)]
      simp [putRow, mapBlock, Sort.ahead, Array.getElem?_modify, h3, onCells]
    refine ⟨by simp [hd], .inr ⟨g, off, _, rfl, h2, hb, h4, h5, by simpa [putCells] using h6, ?_⟩⟩
    apply List.ext_getElem?
    intro j
    by_cases hj : j < n
    · rw [List.getElem?_take_of_lt (by omega), List.getElem?_drop, Array.getElem?_toList]
      have h8 : off + j < cur.size := by omega
      have h9 : j < d.size := by omega
      simp [putCells, h9, h8]
    · rw [List.getElem?_take_eq_none (by omega), List.getElem?_eq_none (by simp; omega)]
theorem sortWorld_grown {α : Type} [Inhabited α] (enc : α → Value) (w : World) (g off q : Nat) (d : Array α) (os : Array Obj) : w.grownBy (sortWorld enc w g off q d os) (some g) := by
  refine ⟨rfl, rfl, rfl, by simp [sortWorld], fun k hk hne => ?_⟩
  unfold sortWorld
  rw [heap_grow_old _ _ (by simpa using hk)]
  have : g ≠ k := fun e => hne (by rw [e])
  simp [putRow, mapBlock, Sort.ahead, Array.getElem?_modify, this]
/-- a row of numbers is written -/
theorem FSt.foreign {F : FC} {v : FV} {w w' : World} {s : TSt Nm} (h : FSt F v w s) {B : Nat} {a : Option Addr} {n c : Nat} {xs : List Value} (k : Own w B 3 1 a n c xs) (hB : F.W.heap.size ≤ B) (hg : w.grownBy w' (rowOf a c)) : FSt F v w' s := by
  have hrb := k.rowBase hB
  have hfb := h.core.fbRow k (by decide)
  exact ⟨⟨h.core.below.grown hg hrb, h.core.blk.grown hg (fun e => hfb e.symm), h.core.stk.keptType k (by decide) hg, h.core.al.keptType k (by decide) hg, fun r hr => (h.core.rows r hr).keptType k (by decide) hg, h.core.apart⟩,
    im_keptRow h.low k hg, im_keptRow h.dep k hg, im_keptRow h.grp k hg, h.sall, h.dk, h.dl, h.dsub, h.lsub, h.gsub, h.ris⟩
theorem blk_foreign {w w' : World} {g : Nat} {cur : Array Value} {t : TypeId} (h : Blk w g cur t) {B : Nat} {e : TypeId} {sz : Nat} {a : Option Addr} {n c : Nat} {xs : List Value} (k : Own w B e sz a n c xs) (hne : e ≠ t) (hg : w.grownBy w' (rowOf a c)) : Blk w' g cur t :=
  h.grown hg fun e2 => by
    unfold rowOf at e2; split at e2
    · cases e2
    · rcases k.2 with ⟨_, e3, _⟩ | ⟨g', off, cur', e3, e4, e5, _⟩
      · omega
      · rw [e3] at e2; simp [blockOf] at e2; subst e2
        unfold Blk at h; rw [h] at e5; cases e5; exact hne rfl

theorem swo_cmp {α : Type} (f : α → List Nm) : SWO (ltOf fun x y : α => cmpL (f x) (f y)) where
  irrefl := fun x => by simp [ltOf, cmpL_self]
  trans := fun x y z h1 h2 => by
    simp only [ltOf, decide_eq_true_eq] at *
    exact cmpL_ord.trans _ _ _ h1 h2
  ntrans := fun x y z h1 h2 => by
    simp only [ltOf, decide_eq_false_iff_not] at *
    intro h3
    rcases Classical.em (f x = f y) with q | q
    · rw [q] at h3; exact h2 h3
    · rcases cmpL_ord.total _ _ q with r | r
      · exact h1 r
      · exact h2 (cmpL_ord.trans _ _ _ r h3)

set_option maxHeartbeats 1000000 in
theorem order_any (F : FC) (v : FV) (s : TSt Nm) (pf : Nat) (a : Option Addr) (c B : Nat) (w : World) (hf : FSt F v w s) (hbf : Blk w pf #[.pointer (some ⟨F.fb, 0, none⟩)] 60) (hal : v.all.length ≤ 1048576) (hgl : ∀ r ∈ v.all, r.l.length ≤ 1048576)
    (ho : Own w B 3 1 a v.all.length c ((List.range v.all.length).map intV)) (hB : F.W.heap.size ≤ B) :
    Calls Try.prog 40 #[.slice a v.all.length c, .func (.func 41) #[] #[.pointer (some ⟨pf, 0, none⟩)]] w fun e w' => e = .returned (.tuple #[]) ∧ ∃ od : List Nat, od.Perm (List.range v.all.length) ∧ od.Pairwise (fun x y => ¬ cmpL (glOf v y) (glOf v x) < 0) ∧ Own w' B 3 1 a v.all.length c (od.map intV) ∧ w.grownBy w' (rowOf a c) := by
  rcases Nat.eq_zero_or_pos v.all.length with h0 | h0
  · rw [h0] at ho ⊢
    exact Calls.mono (Try.slices_SortFunc_none (α := Nat) a c _ w) fun e w' h => ⟨h.1, [], by simp, by simp, by rw [h.2]; simpa using ho, by rw [h.2]; exact World.grownBy.refl _ _⟩
  · obtain ⟨g, off, rfl⟩ := ho.addr (by have := ho.le; omega)
    have hlt := (ho.size (by have := ho.le; omega) rfl).2
    have hrow : rowOf (some ⟨g, off, none⟩) c = some g := by unfold rowOf; rw [if_neg (by have := ho.le; omega)]; rfl
    obtain ⟨n, hn⟩ : ∃ n, n = v.all.length := ⟨_, rfl⟩
    rw [← hn] at h0
    letI : Inhabited (Fin n) := ⟨⟨0, h0⟩⟩
    have hex : ∀ x : Fin n, ∃ r, v.all[x.val]? = some r := fun x => get_some (by rw [← hn]; exact x.isLt)
    have hH : Holds (fun x : Fin n => intV x.val) w g off (Array.ofFn (fun x : Fin n => x)) := by
      intro j hj
      have hj' : j < n := by simpa using hj
      have hjv : j < v.all.length := by omega
      have hx : (List.range v.all.length)[j]? = some j := by simp [hjv]
      obtain ⟨g', off', e1, c1⟩ := Row.elem1 (f := intV) (l := List.range v.all.length) (by rw [List.length_range]; exact ho.row) hx
      cases e1
      refine ⟨?_, ?_⟩
      · rw [c1]; simp [hj']
      · rcases ho.2 with ⟨h1, _, _⟩ | ⟨g2, off2, cur, e2, _, h3, _⟩
        · omega
        · cases e2; exact frozen_of_row w g (off + j) cur _ h3
    have hcmp : CmpLays1 Try.prog 41 #[.pointer (some ⟨pf, 0, none⟩)] (fun x : Fin n => intV x.val) (fun x y => cmpL (glOf v x.val) (glOf v y.val)) g off (Array.ofFn (fun x : Fin n => x)).size w := fun m os dk hs x y => by
      have hg := sortWorld_grown (fun x : Fin n => intV x.val) w g off m dk os
      rw [← hrow] at hg
      obtain ⟨rx, hrx⟩ := hex x
      obtain ⟨ry, hry⟩ := hex y
      refine Calls.mono (cmpG_any F v s pf x.val y.val rx ry _ (hf.foreign ho hB hg) (blk_foreign hbf ho (by decide) hg) hal hrx hry (hgl rx (List.mem_of_getElem? hrx)) (hgl ry (List.mem_of_getElem? hry))) fun e w' h => ?_
      refine ⟨by show _ = Ending.returned (.int .i64 (cmpL (glOf v x.val) (glOf v y.val))); rw [h.1, glOf_some hrx, glOf_some hry], 1, #[], ?_⟩
      rw [grow_empty, h.2]; rfl
    have h := Try.slices_SortFunc (fun x : Fin n => intV x.val) (fun _ => rfl) (fun x y => cmpL (glOf v x.val) (glOf v y.val)) (swo_cmp fun x : Fin n => glOf v x.val) 41 #[.pointer (some ⟨pf, 0, none⟩)] g off c (Array.ofFn (fun x : Fin n => x)) w (enters_of Try.func41 (by kernel_rfl) rfl) hcmp hH hlt (by simp; omega)
    rw [Array.size_ofFn] at h
    rw [← hn]
    refine Calls.mono h fun e w' h => ?_
    obtain ⟨he, d', q, os, hp, hs, rfl⟩ := h
    have hsz : d'.size = n := by rw [hp.1, Array.size_ofFn]
    have hg := sortWorld_grown (fun x : Fin n => intV x.val) w g off q d' os
    refine ⟨he, d'.toList.map (·.val), ?_, ?_, ?_, by rw [hrow]; exact hg⟩
    · have h3 := hp.2.2
      have e1 : d'.extract 0 n = d' := (fun m (hm : d'.size = m) => by subst hm; simp : ∀ m, d'.size = m → d'.extract 0 m = d') n hsz
      have e2 : (Array.ofFn (fun x : Fin n => x)).extract 0 n = Array.ofFn (fun x : Fin n => x) := by simp
      rw [e1, e2] at h3
      have h4 := h3.map (·.val)
      refine h4.trans (List.Perm.of_eq ?_)
      apply List.ext_getElem
      · simp
      · intro j h1 h2; simp
    · rw [List.pairwise_map, List.pairwise_iff_getElem]
      intro i j hi hj hij
      simp at hi hj
      have := hs i j (Nat.zero_le _) hij (by omega)
      simp only [ltOf, decide_eq_false_iff_not] at this
      rw [getElem!_pos d' j (by omega), getElem!_pos d' i (by omega)] at this
      simpa using this
    · have ho' : Own w B 3 1 (some ⟨g, off, none⟩) n c ((List.range v.all.length).map intV) := by rw [hn]; exact ho
      have h5 := own_put (fun x : Fin n => intV x.val) hsz ho' h0 (q := q) (os := os)
      rw [List.map_map]; exact h5

/-- the sequence of numbers that Groups hands to slices.Collect -/
theorem count_stops (F : FC) (v : FV) (s : TSt Nm) (pf n₀ : Nat) (w : World) (hf : FSt F v w s) (hbf : Blk w pf #[.pointer (some ⟨F.fb, 0, none⟩)] 60) (hal : v.all.length ≤ 1048576) :
    SeqStopsK Fence.wide 8 Try.prog 39 #[.pointer (some ⟨pf, 0, none⟩)] (fun x : Nat => #[intV x]) (Below n₀) (fun ys => ys = List.range v.all.length) (fun _ => True) v.all.length w := fun l J Jx W hW _ _ hY h0 => by
  have d0 : W.cell? ⟨pf, 0, none⟩ = some (.pointer (some ⟨F.fb, 0, none⟩)) := (hbf.ext hW).cell 0
  have d1 : W.cell? ⟨F.fb, 5, none⟩ = some (.slice v.aa v.all.length v.ac) := (hf.ext hW).core.blk.cell 5
  obtain ⟨n, hn⟩ : ∃ n, n = v.all.length := ⟨_, rfl⟩
  rw [← hn] at d1 hal hY ⊢
  clear hf hbf
  refine callsIn_of_wp Try.func39 rfl trivial ?_ rfl
  simp only [Try.ntmps39, List.size_toArray, List.length_cons, List.length_nil, Nat.reduceAdd, Nat.reduceSub, Array.replicate_succ, Array.replicate_zero, List.push_toArray, List.append_toArray, List.nil_append, List.cons_append]
  gi_wp2
  gi_loopw [9] (fun i wr => ∃ k : Nat, k ≤ n ∧ i = .int .i64 k ∧ Hid (J (List.range k) wr)) (fun i _ => n - (intOf i).toNat)
  case atStart => exact ⟨0, Nat.zero_le _, rfl, h0⟩
  case round =>
    obtain ⟨k, hk, rfl, hJs⟩ := hrel
    by_cases hlt : k < n
    · obtain ⟨fn, tmps, assign, body, hy, hR⟩ := hY _ k wr hJs.out (by rw [List.length_range]; omega)
      dsimp only [intV] at hy hR
      gi_wp2
      refine hR.mono ?_
      rintro e W3 (⟨rfl, hJ3, hk3⟩ | ⟨rfl, hJx3⟩)
      · gi_wp2
        go_roundw
        case rel => exact ⟨k + 1, by omega, by simp, by rw [List.range_succ]; exact hJ3⟩
        case measure => simp [intOf]; omega
      · gi_wp2
        refine bodyPost_ret (results_none rfl _ _ _) rfl ?_
        exact ⟨⟨_, rfl⟩, .inr ⟨_, trivial, hJx3⟩⟩
    · obtain rfl : k = n := by omega
      gi_wp2
      go_end0
      exact ⟨⟨_, rfl⟩, .inl ⟨_, rfl, hJs.out⟩⟩
end Go.Proofs.Ytnepamdmjppglaa
