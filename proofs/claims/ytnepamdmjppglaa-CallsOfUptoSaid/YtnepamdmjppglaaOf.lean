/- calls.Of at any part, walked. -/
import Derived.Test.YtnepamdmjppglaaAllP
import Derived.Test.YtnepamdmjppglaaSize
import Derived.Test.YtnepamdmjppglaaOfLeaf
namespace Go.Proofs.Ytnepamdmjppglaa
open Go Go.RowKit Go.Shelf Go.Sort

/-- without what comes twice -/
theorem compact_upto {zs : List Nm} (h : zs.Pairwise fun x y => x ≤ y) : ∀ m, m ≤ zs.length → (Lib.compactUpTo zs.toArray m).Pairwise (fun x y => x < y) ∧ ∀ x, x ∈ Lib.compactUpTo zs.toArray m ↔ ∃ j, j < m ∧ zs[j]? = some x := by
  intro m
  induction m with
  | zero => intro _; exact ⟨by simp [Lib.compactUpTo], fun x => by simp [Lib.compactUpTo]⟩
  | succ m ih =>
    intro hm
    obtain ⟨h1, h2⟩ := ih (by omega)
    have hg : ∀ j, j < zs.length → ∃ y, zs[j]? = some y ∧ zs.toArray[j]! = y := fun j hj => ⟨zs[j], List.getElem?_eq_getElem hj, by simp [getElem!_pos, hj]⟩
    obtain ⟨y, hy, ey⟩ := hg m (by omega)
    rw [Lib.compactUpTo_succ, ey]
    have hle : ∀ (i j : Nat) (a b : Nm), i < j → zs[i]? = some a → zs[j]? = some b → a ≤ b := fun i j a b hij ha hb => by
      have := List.pairwise_iff_getElem.1 h i j (get_lt ha) (get_lt hb) hij
      rwa [(List.getElem?_eq_some_iff.1 ha).2, (List.getElem?_eq_some_iff.1 hb).2] at this
    by_cases hk : Lib.keeps zs.toArray m = true
    · rw [if_pos hk]
      have hlt : ∀ x ∈ Lib.compactUpTo zs.toArray m, x < y := fun x hx => by
        obtain ⟨j, hj, hjx⟩ := (h2 x).1 hx
        have hk' : m = 0 ∨ zs.toArray[m]! ≠ zs.toArray[m - 1]! := by simpa [Lib.keeps] using hk
        rcases hk' with hk' | hk'
        · omega
        · obtain ⟨z, hz, ez⟩ := hg (m - 1) (by omega)
          rw [ey, ez] at hk'
          have hxz : x ≤ z := by
            rcases Nat.lt_or_ge j (m - 1) with q | q
            · exact hle j (m - 1) x z q hjx hz
            · obtain rfl : j = m - 1 := by omega
              rw [hz] at hjx; cases hjx; exact List.le_refl _
          have hzy := hle (m - 1) m z y (by omega) hz hy
          have hzy' : z < y := by
            rcases nmOrd.total _ _ hk' with r | r
            · exact absurd (List.le_antisymm hzy (List.le_of_lt r)) (fun e => hk' e.symm)
            · exact r
          exact List.lt_of_le_of_lt hxz hzy'
      refine ⟨List.pairwise_append.2 ⟨h1, List.pairwise_singleton _ _, fun a ha b hb => by rw [List.mem_singleton] at hb; subst hb; exact hlt a ha⟩, fun x => ?_⟩
      rw [List.mem_append, h2, List.mem_singleton]
      constructor
      · rintro (⟨j, hj, hx⟩ | rfl)
        · exact ⟨j, by omega, hx⟩
        · exact ⟨m, by omega, hy⟩
      · rintro ⟨j, hj, hx⟩
        rcases Nat.lt_or_ge j m with q | q
        · exact .inl ⟨j, q, hx⟩
        · obtain rfl : j = m := by omega
          rw [hy] at hx; cases hx; exact .inr rfl
    · rw [if_neg hk, List.append_nil]
      refine ⟨h1, fun x => ?_⟩
      rw [h2]
      have hk' : ¬ (m = 0 ∨ zs.toArray[m]! ≠ zs.toArray[m - 1]!) := by simpa [Lib.keeps] using hk
      have hm0 : m ≠ 0 := fun e => hk' (.inl e)
      have he : zs.toArray[m]! = zs.toArray[m - 1]! := Classical.not_not.1 fun e => hk' (.inr e)
      obtain ⟨z, hz, ez⟩ := hg (m - 1) (by omega)
      rw [ey, ez] at he
      subst he
      constructor
      · rintro ⟨j, hj, hx⟩; exact ⟨j, by omega, hx⟩
      · rintro ⟨j, hj, hx⟩
        rcases Nat.lt_or_ge j m with q | q
        · exact ⟨j, q, hx⟩
        · obtain rfl : j = m := by omega
          rw [hy] at hx; cases hx; exact ⟨j - 1, by omega, hz⟩
theorem compact_facts {zs : List Nm} (h : zs.Pairwise fun x y => x ≤ y) : (Lib.compact zs).Pairwise (fun x y => x < y) ∧ ∀ x, x ∈ Lib.compact zs ↔ x ∈ zs := by
  obtain ⟨h1, h2⟩ := compact_upto h zs.length (Nat.le_refl _)
  refine ⟨h1, fun x => (h2 x).trans ⟨fun ⟨j, _, hx⟩ => List.mem_of_getElem? hx, fun hx => ?_⟩⟩
  obtain ⟨j, hj⟩ := List.getElem?_of_mem hx
  exact ⟨j, get_lt hj, hj⟩

theorem calledIn_snoc {l : List PartD} {i : Nat} {x : PartD} (hx : l[i]? = some x) : calledIn (l.take (i + 1)) = calledIn (l.take i) ++ (if x.kind = callNm0 then [x.text] else []) := by
  rw [List.take_add_one, hx, Option.toList_some, calledIn_app]
  congr 1
  by_cases h : x.kind = callNm0 <;> simp [calledIn, h]
theorem text_le {l : List PartD} {d : PartD} (h : d ∈ l) : d.text.length ≤ weight l := by
  induction l with
  | nil => cases h
  | cons e l ih =>
    simp only [weight, List.map_cons, List.sum_cons]
    rcases List.mem_cons.1 h with rfl | h
    · omega
    · have := ih h
      simp only [weight] at this; omega
theorem calledIn_text {l : List PartD} {t : Nm} (h : t ∈ calledIn l) : t.length ≤ weight l := by
  unfold calledIn at h
  obtain ⟨d, hd, rfl⟩ := List.mem_map.1 h
  exact text_le (List.mem_filter.1 hd).1

set_option maxHeartbeats 2000000 in
set_option maxRecDepth 20000 in
theorem of_any (p : PartD) (w : World) (h : PartAt w p) (hw : weight (pre p) ≤ 1048576) : Calls Try.prog 10 #[p.val] w (Ret w (OfR (calledIn (pre p)))) := by
  have hpl := weight_len (pre p)
  have hall : ∀ W, Below w.heap.size w W → Calls Try.prog 24 #[p.val] W (Ret W (AllR (pre p))) := fun W hW => all_any p W (h.ext hW) hw
  have Hall := Lib.hid hall
  clear hall h
  rw [PartD.val_eq] at Hall ⊢
  go_enter Try.func10, Try.ntmps10
  go_wp2_with fail
  refine (Hall.out _ (below_a1 w _)).mono ?_
  clear Hall
  rintro e w1 ⟨_, rfl, hb1, a1, c1, rfl, hrow⟩
  have Hrow := Lib.hid hrow
  have Hb1 := Lib.hid ((below_a1 w _).trans (hb1.mono (by simp)))
  clear hrow hb1
  generalize hL : pre p = L at *
  clear hL
  go_wp2_with fail
  go_loopw [3, 9] (fun o i wr => ∃ (k : Nat) (a : Option Addr) (c : Nat), k ≤ L.length ∧ i = .int .i64 k ∧ o = .slice a (calledIn (L.take k)).length c ∧ Hid (Own wr w1.heap.size 9 1 a (calledIn (L.take k)).length c ((calledIn (L.take k)).map strV)) ∧ (calledIn (L.take k)).length ≤ k ∧ Hid (Below w1.heap.size w1 wr)) (fun _ i _ => L.length - (intOf i).toNat)
  case atStart => exact ⟨0, none, 0, by omega, rfl, rfl, Lib.hid (by simpa [calledIn] using Own.nil _ _ _ _), by simp [calledIn], Lib.hid (Below.refl _ _)⟩
  case round =>
    obtain ⟨k, a, c, hk, rfl, rfl, hown, hle, hb⟩ := hrel
    have hwb := Hb1.out.size
    have hwb2 := hb.out.size
    by_cases hlt : k < L.length
    · obtain ⟨x, hx⟩ := get_some hlt
      obtain ⟨b, off, rfl, x0, x1, x2, x3, x4⟩ := part_at (Hrow.out.ext hb.out) hx
      have Hsn := Lib.hid (calledIn_snoc hx)
      clear hx
      generalize calledIn (L.take k) = O at *
      by_cases hc : x.kind = callNm0
      · have f1 : (x.kind == [99, 97, 108, 108]) = true := by rw [hc]; rfl
        have Hs2 : Hid (calledIn (L.take (k + 1)) = O ++ [x.text]) := Lib.hid (by rw [Hsn.out, if_pos hc])
        have Hbl := Lib.hid (hown.out.rowBase (Nat.le_refl _))
        clear hc Hsn
        go_wp2_with (at_builtin; refine wpList_append_Own rfl _ _ 28 rfl w1.heap.size 9 _ 1 16 Try.underlying28 infoStr rfl (by decide) a O.length c _ rfl (by exact (hown.out.alloc _).alloc _) _ 1 1 [strV x.text] rfl (Row.new1 (by simp) rfl rfl) (by intro u hu; simp at hu; subst hu; rfl) (by unfold maxLen; omega) (by omega) (by simp; omega) ?_; intro a5 c5 w5 hown5 hg5 hbk5)
        go_roundw
        case rel =>
          refine ⟨k + 1, a5, c5, by omega, by go_num, by rw [Hs2.out]; simp, Lib.hid (by rw [Hs2.out]; simpa using hown5), by rw [Hs2.out]; simp; omega, Lib.hid ?_⟩
          exact ((hb.out.alloc hwb2 _).alloc (by simp; omega) _).grown hg5 (by simp; omega) Hbl.out
        case measure => simp [intOf]; omega
      · have f1 : (x.kind == [99, 97, 108, 108]) = false := by simpa [callNm0] using hc
        have Hs2 : Hid (calledIn (L.take (k + 1)) = O) := Lib.hid (by rw [Hsn.out, if_neg hc, List.append_nil])
        clear hc Hsn
        go_wp2
        go_roundw
        case rel => exact ⟨k + 1, a, c, by omega, by go_num, by rw [Hs2.out], Lib.hid (by rw [Hs2.out]; exact hown.out.alloc _), by rw [Hs2.out]; omega, Lib.hid (hb.out.alloc hwb2 _)⟩
        case measure => simp [intOf]; omega
    · obtain rfl : k = L.length := by omega
      rw [List.take_length] at hown hle ⊢
      generalize calledIn L = O at *
      have Hrb := Lib.hid (hown.out.rowBase (Nat.le_refl _))
      have hs := sort_any a c w1.heap.size O wr hown.out (by omega)
      have Hs := Lib.hid hs
      clear hs hown
      go_wp2_with fail
      refine Hs.out.mono ?_
      clear Hs
      rintro e w5 ⟨rfl, ho5, hg5⟩
      have Hb5 := Lib.hid ((Hb1.out.trans (hb.out.mono hwb)).grown hg5 (by omega) (fun j hj => by have := Hrb.out j hj; omega))
      have hsl := srt_len O
      rw [← hsl] at ho5 ⊢
      have Hcf := Lib.hid (compact_facts (srt_le O))
      have Hms : Hid (∀ x, x ∈ srt O ↔ x ∈ O) := Lib.hid fun x => mem_srt
      generalize srt O = S at *
      have hSb : S.length ≤ 1048576 := by omega
      clear hg5 hsl
      rcases Nat.eq_zero_or_pos S.length with h0 | h0
      · have hS : S = [] := List.length_eq_zero_iff.1 h0
        subst hS
        simp only [List.length_nil]
        have hcm := Try.slices_Compact_string_empty a c w5
        have Hcm := Lib.hid hcm
        clear hcm
        go_wp2_with fail
        refine Hcm.out.mono ?_
        rintro e w6 ⟨rfl, rfl⟩
        go_wp2
        go_ret
        exact ⟨_, rfl, Hb5.out, [], a, c, rfl, ⟨Row.nil _ _ _, by simp⟩, List.Pairwise.nil, fun x => Hms.out x⟩
      · have hcap : S.length ≤ c := by have := ho5.le; simpa using this
        obtain ⟨g, off, rfl⟩ := ho5.addr (by omega)
        have hcm := Try.slices_Compact_string g off c S w5 (own_holds ho5) (by omega) hcap
        have Hcm := Lib.hid hcm
        have hgb := ho5.base (g := g) rfl
        have Ho5 := Lib.hid ho5
        clear hcm ho5
        go_wp2_with fail
        refine Hcm.out.mono ?_
        rintro e w6 ⟨rfl, q, rfl⟩
        go_wp2
        go_ret
        have hcl := Lib.compact_length_le S
        obtain ⟨ts, hts⟩ : ∃ ts : List Nm, ts = Lib.compact S ++ List.replicate (S.length - (Lib.compact S).length) [] := ⟨_, rfl⟩
        have htl : ts.length = S.length := by rw [hts]; simp; omega
        have ho7 := own_sorted (n := q) (os := #[]) (ts := ts) htl Ho5.out h0
        have hgr := sortWorld_grown encStr w5 g off q ts.toArray #[]
        rw [show sortWorld encStr w5 g off q ts.toArray #[] = putRow encStr (Sort.ahead w5 q) g off ts.toArray from grow_empty _] at hgr
        rw [grow_empty] at ho7
        have ho8 := own_take ho7 (m := (Lib.compact S).length) (by omega)
        rw [show (ts.map strV).take ((Lib.compact S).length * 1) = (Lib.compact S).map strV by rw [hts, Nat.mul_one, ← List.map_take, List.take_left]] at ho8
        rw [← hts]
        refine ⟨_, rfl, Hb5.out.grown hgr Hb5.out.size (fun j hj => by cases hj; omega), Lib.compact S, _, _, rfl, ⟨ho8.row, by omega⟩, Hcf.out.1, fun x => (Hcf.out.2 x).trans (Hms.out x)⟩
end Go.Proofs.Ytnepamdmjppglaa
