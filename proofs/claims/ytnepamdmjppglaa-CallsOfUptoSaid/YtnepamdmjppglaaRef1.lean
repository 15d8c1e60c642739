/- The document's answer, walked: put, find, Names. -/
import Derived.Test.YtnepamdmjppglaaGroups
namespace Go.Proofs.Ytnepamdmjppglaa
open Go Go.RowKit Go.Sort

/-- a row of names that may be read -/
def RowC (w : World) (a : Option Addr) (c : Nat) (l : List Nm) : Prop := Row w 1 a l.length (l.map strV) ∧ l.length ≤ c
theorem RowC.ext {w w' : World} {a : Option Addr} {c : Nat} {l : List Nm} (h : RowC w a c l) (hb : Below w.heap.size w w') : RowC w' a c l := ⟨h.1.ext hb, h.2⟩
theorem RowC.nil (w : World) : RowC w none 0 [] := ⟨Row.nil _ _ _, by simp⟩
theorem Own.rowC {w : World} {B : Nat} {e : TypeId} {a : Option Addr} {c : Nat} {l : List Nm} (h : Own w B e 1 a l.length c (l.map strV)) : RowC w a c l := ⟨h.row, h.le⟩

/-- where a name belongs in a rising list -/
structure PutAt (l : List Nm) (s : Nm) (k : Nat) : Prop where
  le : k ≤ l.length
  lo : ∀ (j : Nat) y, j < k → l[j]? = some y → y < s
  hi : ∀ y, l[k]? = some y → ¬ y < s
theorem PutAt.old {l : List Nm} {s : Nm} {k : Nat} (h : PutAt l s k) (hr : l.Pairwise fun x y => x < y) (hs : s ∈ l) : l[k]? = some s := by
  obtain ⟨j, hj⟩ := List.getElem?_of_mem hs
  rcases Nat.lt_trichotomy j k with q | q | q
  · exact absurd (h.lo j s q hj) (List.lt_irrefl _)
  · subst q; exact hj
  · have hjl := get_lt hj
    have hk : l[k]? = some l[k] := List.getElem?_eq_getElem (by omega)
    have h1 := List.pairwise_iff_getElem.1 hr k j (by omega) hjl q
    rw [List.getElem?_eq_getElem hjl] at hj
    rw [Option.some.inj hj] at h1
    exact absurd h1 (h.hi _ hk)
theorem PutAt.new {l : List Nm} {s : Nm} {k : Nat} (h : PutAt l s k) (hr : l.Pairwise fun x y => x < y) (hn : l[k]? ≠ some s) : (l.take k ++ [s] ++ l.drop k).Pairwise fun x y => x < y := by
  rw [List.append_assoc, List.pairwise_append]
  refine ⟨hr.sublist (List.take_sublist _ _), ?_, fun x hx y hy => ?_⟩
  · rw [List.singleton_append, List.pairwise_cons]
    refine ⟨fun y hy => ?_, hr.sublist (List.drop_sublist _ _)⟩
    obtain ⟨j, hj⟩ := List.getElem?_of_mem hy
    rw [List.getElem?_drop] at hj
    have hjl := get_lt hj
    have hk : l[k]? = some l[k] := List.getElem?_eq_getElem (by omega)
    have hsk : s < l[k] := by
      rcases nmOrd.total s l[k] (fun e => hn (by rw [hk, e])) with q | q
      · exact q
      · exact absurd q (h.hi _ hk)
    rcases Nat.eq_zero_or_pos j with q | q
    · subst q
      rw [Nat.add_zero, hk] at hj; cases hj; exact hsk
    · have h1 := List.pairwise_iff_getElem.1 hr k (k + j) (by omega) hjl (by omega)
      rw [List.getElem?_eq_getElem hjl] at hj
      rw [Option.some.inj hj] at h1
      exact List.lt_trans hsk h1
  · obtain ⟨i, hi⟩ := List.getElem?_of_mem hx
    rw [List.getElem?_take] at hi
    split at hi
    · rename_i hik
      have hxs := h.lo i x hik hi
      rw [List.singleton_append, List.mem_cons] at hy
      rcases hy with rfl | hy
      · exact hxs
      · obtain ⟨j, hj⟩ := List.getElem?_of_mem hy
        rw [List.getElem?_drop] at hj
        have h1 := List.pairwise_iff_getElem.1 hr i (k + j) (get_lt hi) (get_lt hj) (by omega)
        rw [List.getElem?_eq_getElem (get_lt hi)] at hi
        rw [List.getElem?_eq_getElem (get_lt hj)] at hj
        rw [Option.some.inj hi, Option.some.inj hj] at h1
        exact h1
    · cases hi
theorem mem_put {l : List Nm} {s x : Nm} (k : Nat) : x ∈ l.take k ++ [s] ++ l.drop k ↔ x ∈ l ∨ x = s := by
  have : x ∈ l ↔ x ∈ l.take k ∨ x ∈ l.drop k := by rw [← List.mem_append, List.take_append_drop]
  rw [this]; simp
  constructor
  · rintro (h | h | h)
    · exact .inl (.inl h)
    · exact .inr h
    · exact .inl (.inr h)
  · rintro ((h | h) | h)
    · exact .inl h
    · exact .inr (.inr h)
    · exact .inr (.inl h)

theorem Row.take1 {w : World} {a : Option Addr} {n : Nat} {xs : List Value} (h : Row w 1 a n xs) {k : Nat} (hk : k ≤ n) : Row w 1 a k (xs.take k) := by
  refine ⟨by rw [List.length_take, h.1]; omega, fun h0 => ?_⟩
  obtain ⟨b, off, e, hc⟩ := h.2 (by omega)
  exact ⟨b, off, e, fun j hj => by rw [hc j (by omega), List.getElem?_take, if_pos (by omega)]⟩
theorem Row.drop1 {w : World} {a : Option Addr} {n cap : Nat} {xs : List Value} (h : Row w 1 a n xs) (hn : n ≤ cap) {k : Nat} (hk : k ≤ n) {a' : Option Addr} (ha : a' = cutAt a cap k 1) : Row w 1 a' (n - k) (xs.drop k) := by
  have := h.cut hn hk (Nat.le_refl n) ha
  rw [Nat.mul_one, Nat.mul_one, List.take_of_length_le (by rw [List.length_drop, h.1]; omega)] at this
  exact this

/-- what put hands back -/
def PutR (w : World) (a : Option Addr) (l : List Nm) (s : Nm) (v : Value) (w' : World) : Prop := ∃ (l' : List Nm) (a' : Option Addr) (c' : Nat), v = .slice a' l'.length c' ∧ RowC w' a' c' l' ∧ l'.Pairwise (fun x y => x < y) ∧ (∀ x, x ∈ l' ↔ x ∈ l ∨ x = s) ∧ l'.length ≤ l.length + 1 ∧ (a' = a ∨ ∀ g, blockOf a' = some g → w.heap.size ≤ g)

set_option maxHeartbeats 2000000 in
set_option maxRecDepth 20000 in
theorem put_any (a : Option Addr) (c : Nat) (l : List Nm) (s : Nm) (w : World) (hr : RowC w a c l) (hri : l.Pairwise fun x y => x < y) (hl : l.length ≤ 4194304) :
    Calls Try.prog 27 #[.slice a l.length c, .string ⟨s.toArray⟩] w (Ret w (PutR w a l s)) := by
  have HR := Lib.hid hr.1
  have Hri := Lib.hid hri
  have hlc := hr.2
  clear hr hri
  go_enter Try.func27, Try.ntmps27
  go_wp2_with fail
  go_loop [5] (fun i => ∃ k : Nat, k ≤ l.length ∧ i = .int .i64 k ∧ Hid (∀ (j : Nat) y, j < k → l[j]? = some y → y < s)) (fun i => l.length - (intOf i).toNat)
  case atStart => exact ⟨0, Nat.zero_le _, rfl, Lib.hid fun j y h => by omega⟩
  case round =>
    obtain ⟨k, hk, rfl, hall⟩ := hrel
    by_cases hlt : k < l.length
    · obtain ⟨y, hy⟩ := get_some hlt
      obtain ⟨b, off, rfl, h1⟩ := str_at HR.out hy
      have Hy := Lib.hid hy
      clear hy
      rcases Classical.em (y < s) with hys | hys
      · have f1 : Op.bytesLess y s = true := by rw [bytesLess_eq]; simpa using hys
        have Hys := Lib.hid hys
        clear hys
        go_wp2
        go_round
        case rel =>
          refine ⟨k + 1, by omega, by go_num, Lib.hid fun j z hj hz => ?_⟩
          rcases Nat.lt_or_ge j k with h | h
          · exact hall.out j z h hz
          · obtain rfl : j = k := by omega
            rw [Hy.out] at hz; cases hz; exact Hys.out
        case measure => simp [intOf]; omega
      · have f1 : Op.bytesLess y s = false := by rw [bytesLess_eq]; simpa using hys
        have HP : Hid (PutAt l s k) := Lib.hid ⟨hk, hall.out, fun z hz => by rw [Hy.out] at hz; cases hz; exact hys⟩
        clear hys hall
        by_cases he : y = s
        · have f2 : (y == s) = true := by simpa using he
          have He := Lib.hid he
          clear he
          go_wp2
          go_ret
          exact ⟨_, rfl, Below.refl _ _, l, _, c, rfl, ⟨HR.out, hlc⟩, Hri.out, fun x => by
            constructor
            · exact .inl
            · rintro (h | h)
              · exact h
              · rw [h, ← He.out]; exact List.mem_of_getElem? Hy.out, by omega, .inl rfl⟩
        · have f2 : (y == s) = false := by simpa using he
          have HN : Hid (l[k]? ≠ some s) := Lib.hid fun h => by rw [Hy.out] at h; cases h; exact he rfl
          clear he
          have HRt : Hid (Row w 1 (some ⟨b, off, none⟩) k ((l.take k).map strV)) := Lib.hid (by rw [List.map_take]; exact HR.out.take1 (by omega))
          go_wp2_with (first
            | ((with_reducible show wpList _ _ _ (⟨some 37, _, _, _, _, _⟩ :: _) _ _); refine wpList_slice_to (o := ⟨some 37, _, _, _, _, _⟩) rfl _ _ _ rfl 9 1 Try.underlying28 sizeStr _ _ _ rfl _ (k : Int) rfl (by omega) (by omega) ?_; simp only [Int.toNat_natCast]; (try simp only [Act.put]); (try simp only [List.setIfInBounds_toArray]); (try simp only [List.set_cons_succ, List.set_cons_zero]))
            | (at_builtin; (with_reducible show wpList _ _ _ (⟨some 38, _, _, _, _, _⟩ :: _) _ _); refine wpList_append_Own (o := ⟨some 38, _, _, _, _, _⟩) rfl _ _ 28 rfl w.heap.size 9 _ 1 16 Try.underlying28 infoStr rfl (by decide) (some ⟨w.heap.size, 0, none⟩) 0 0 [] rfl (by exact ⟨by simp, .inl ⟨rfl, rfl, fun g hg => Nat.le_of_eq (by simpa [blockOf] using hg)⟩⟩) _ _ _ ((l.take k).map strV) rfl (by exact HRt.out.ext (below_a1 _ _)) (by intro u hu; obtain ⟨y, _, rfl⟩ := List.mem_map.1 hu; rfl) (by unfold maxLen; omega) (by omega) (by simp) ?_; intro a3 c3 w3 hown3 hg3 hbk3; have Hb3 := Lib.hid (((below_a1 w _).grown hg3 (by simp) (fun j hj => by simp [rowOf] at hj))); have Ho3 : Hid (Own w3 w.heap.size 9 1 a3 k c3 ((l.take k).map strV)) := Lib.hid (by have h := hown3; rw [Nat.zero_add] at h; simpa using h); clear hown3 hg3 hbk3)
            | (at_builtin; (with_reducible show wpList _ _ _ (⟨some 42, _, _, _, _, _⟩ :: _) _ _); refine wpList_append_Own (o := ⟨some 42, _, _, _, _, _⟩) rfl _ _ 28 rfl w.heap.size 9 _ 1 16 Try.underlying28 infoStr rfl (by decide) _ _ _ _ rfl (by exact Ho3.out.alloc _) _ 1 1 [strV s] rfl (Row.new1 (by simp) rfl rfl) (by intro u hu; simp at hu; subst hu; rfl) (by unfold maxLen; omega) (by omega) (by have := Hb3.out.size; simp; omega) ?_; intro a4 c4 w4 hown4 hg4 hbk4; have Hb4 := Lib.hid ((Hb3.out.alloc Hb3.out.size _).grown hg4 (by have := Hb3.out.size; simp; omega) (fun j hj => Ho3.out.rowBase (Nat.le_refl _) j hj)); have Ho4 := Lib.hid hown4; clear hown4 hg4 hbk4)
            | ((with_reducible show wpList _ _ _ (⟨some 46, _, _, _, _, _⟩ :: _) _ _); refine wpList_slice_from (o := ⟨some 46, _, _, _, _, _⟩) rfl _ _ _ rfl 9 1 Try.underlying28 sizeStr _ _ _ rfl _ (k : Int) rfl (by omega) (by omega) ?_; intro ax hax; have Hax : Hid (Row w 1 ax (l.length - k) ((l.drop k).map strV)) := Lib.hid (by rw [List.map_drop]; exact HR.out.drop1 hlc (by omega) (by have h := hax.out; simpa using h)); clear hax; simp only [Int.toNat_natCast]; (try simp only [Act.put]); (try simp only [List.setIfInBounds_toArray]); (try simp only [List.set_cons_succ, List.set_cons_zero]))
            | (at_builtin; (with_reducible show wpList _ _ _ (⟨some 47, _, _, _, _, _⟩ :: _) _ _); refine wpList_append_Own (o := ⟨some 47, _, _, _, _, _⟩) rfl _ _ 28 rfl w.heap.size 9 _ 1 16 Try.underlying28 infoStr rfl (by decide) _ _ _ _ rfl (by exact Ho4.out) _ _ _ ((l.drop k).map strV) rfl (by exact Hax.out.ext Hb4.out) (by intro u hu; obtain ⟨y, _, rfl⟩ := List.mem_map.1 hu; rfl) (by unfold maxLen; omega) (by omega) (by exact Hb4.out.size) ?_; intro a5 c5 w5 hown5 hg5 hbk5; have Hb5 := Lib.hid (Hb4.out.grown hg5 Hb4.out.size (fun j hj => Ho4.out.rowBase (Nat.le_refl _) j hj)); have Ho5 := Lib.hid hown5; clear hown5 hg5 hbk5))
          go_ret
          have hlen : (l.take k ++ [s] ++ l.drop k).length = k + 1 + (l.length - k) := by simp; omega
          refine ⟨_, rfl, Hb5.out, l.take k ++ [s] ++ l.drop k, a5, c5, by rw [hlen]; rfl, Own.rowC (B := w.heap.size) (e := 9) (by rw [hlen, List.map_append, List.map_append]; exact Ho5.out), HP.out.new Hri.out HN.out, fun x => mem_put k, by rw [hlen]; omega, .inr fun g hg => Ho5.out.base hg⟩
    · obtain rfl : k = l.length := by omega
      have HP : Hid (PutAt l s l.length) := Lib.hid ⟨Nat.le_refl _, hall.out, fun z hz => by have := get_lt hz; omega⟩
      have HN : Hid (l[l.length]? ≠ some s) := Lib.hid (by simp)
      clear hall
      have HRt : Hid (Row w 1 a l.length ((l.take l.length).map strV)) := Lib.hid (by rw [List.map_take]; exact HR.out.take1 (by omega))
      go_wp2_with (first
        | ((with_reducible show wpList _ _ _ (⟨some 37, _, _, _, _, _⟩ :: _) _ _); refine wpList_slice_to (o := ⟨some 37, _, _, _, _, _⟩) rfl _ _ _ rfl 9 1 Try.underlying28 sizeStr _ _ _ rfl _ (l.length : Int) rfl (by omega) (by omega) ?_; simp only [Int.toNat_natCast]; (try simp only [Act.put]); (try simp only [List.setIfInBounds_toArray]); (try simp only [List.set_cons_succ, List.set_cons_zero]))
        | (at_builtin; (with_reducible show wpList _ _ _ (⟨some 38, _, _, _, _, _⟩ :: _) _ _); refine wpList_append_Own (o := ⟨some 38, _, _, _, _, _⟩) rfl _ _ 28 rfl w.heap.size 9 _ 1 16 Try.underlying28 infoStr rfl (by decide) (some ⟨w.heap.size, 0, none⟩) 0 0 [] rfl (by exact ⟨by simp, .inl ⟨rfl, rfl, fun g hg => Nat.le_of_eq (by simpa [blockOf] using hg)⟩⟩) _ _ _ ((l.take l.length).map strV) rfl (by exact HRt.out.ext (below_a1 _ _)) (by intro u hu; obtain ⟨y, _, rfl⟩ := List.mem_map.1 hu; rfl) (by unfold maxLen; omega) (by omega) (by simp) ?_; intro a3 c3 w3 hown3 hg3 hbk3; have Hb3 := Lib.hid (((below_a1 w _).grown hg3 (by simp) (fun j hj => by simp [rowOf] at hj))); have Ho3 : Hid (Own w3 w.heap.size 9 1 a3 l.length c3 ((l.take l.length).map strV)) := Lib.hid (by have h := hown3; rw [Nat.zero_add] at h; simpa using h); clear hown3 hg3 hbk3)
        | (at_builtin; (with_reducible show wpList _ _ _ (⟨some 42, _, _, _, _, _⟩ :: _) _ _); refine wpList_append_Own (o := ⟨some 42, _, _, _, _, _⟩) rfl _ _ 28 rfl w.heap.size 9 _ 1 16 Try.underlying28 infoStr rfl (by decide) _ _ _ _ rfl (by exact Ho3.out.alloc _) _ 1 1 [strV s] rfl (Row.new1 (by simp) rfl rfl) (by intro u hu; simp at hu; subst hu; rfl) (by unfold maxLen; omega) (by omega) (by have := Hb3.out.size; simp; omega) ?_; intro a4 c4 w4 hown4 hg4 hbk4; have Hb4 := Lib.hid ((Hb3.out.alloc Hb3.out.size _).grown hg4 (by have := Hb3.out.size; simp; omega) (fun j hj => Ho3.out.rowBase (Nat.le_refl _) j hj)); have Ho4 := Lib.hid hown4; clear hown4 hg4 hbk4)
        | ((with_reducible show wpList _ _ _ (⟨some 46, _, _, _, _, _⟩ :: _) _ _); refine wpList_slice_from (o := ⟨some 46, _, _, _, _, _⟩) rfl _ _ _ rfl 9 1 Try.underlying28 sizeStr _ _ _ rfl _ (l.length : Int) rfl (by omega) (by omega) ?_; intro ax hax; have Hax : Hid (Row w 1 ax (l.length - l.length) ((l.drop l.length).map strV)) := Lib.hid (by rw [List.map_drop]; exact HR.out.drop1 hlc (by omega) (by have h := hax.out; simpa using h)); clear hax; simp only [Int.toNat_natCast]; (try simp only [Act.put]); (try simp only [List.setIfInBounds_toArray]); (try simp only [List.set_cons_succ, List.set_cons_zero]))
        | (at_builtin; (with_reducible show wpList _ _ _ (⟨some 47, _, _, _, _, _⟩ :: _) _ _); refine wpList_append_Own (o := ⟨some 47, _, _, _, _, _⟩) rfl _ _ 28 rfl w.heap.size 9 _ 1 16 Try.underlying28 infoStr rfl (by decide) _ _ _ _ rfl (by exact Ho4.out) _ _ _ ((l.drop l.length).map strV) rfl (by exact Hax.out.ext Hb4.out) (by intro u hu; obtain ⟨y, _, rfl⟩ := List.mem_map.1 hu; rfl) (by unfold maxLen; omega) (by omega) (by exact Hb4.out.size) ?_; intro a5 c5 w5 hown5 hg5 hbk5; have Hb5 := Lib.hid (Hb4.out.grown hg5 Hb4.out.size (fun j hj => Ho4.out.rowBase (Nat.le_refl _) j hj)); have Ho5 := Lib.hid hown5; clear hown5 hg5 hbk5))
      go_ret
      have hlen : (l.take l.length ++ [s] ++ l.drop l.length).length = l.length + 1 := by simp
      refine ⟨_, rfl, Hb5.out, l.take l.length ++ [s] ++ l.drop l.length, a5, c5, by rw [hlen]; rfl, Own.rowC (B := w.heap.size) (e := 9) (by rw [hlen, List.map_append, List.map_append]; have h := Ho5.out; simpa using h), HP.out.new Hri.out HN.out, fun x => mem_put l.length, by rw [hlen]; omega, .inr fun g hg => Ho5.out.base hg⟩
end Go.Proofs.Ytnepamdmjppglaa
