/- Leaks, the program's: its closure, which takes the lesser, walked. -/
import Derived.Test.YtlpmpgocecmfbaaLeak
namespace Go.Proofs.Ytlpmpgocecmfbaa
open Go Go.RowKit

/-- l, of which the first k are lessened by c -/
def takeK (l c : List Int) : Nat → List Int
  | 0 => l
  | k + 1 => (takeK l c k).set k (upd (l[k]?.getD 0) (c[k + 2]?.getD (-2)))
theorem takeK_len (l c : List Int) (k : Nat) : (takeK l c k).length = l.length := by induction k <;> simp [takeK, *]
theorem takeK_get (l c : List Int) (k i : Nat) (hi : i < l.length) : (takeK l c k)[i]? = some (if i < k then upd (l[i]?.getD 0) (c[i + 2]?.getD (-2)) else l[i]?.getD 0) := by
  induction k with
  | zero => simp [takeK, hi]
  | succ k ih =>
    simp only [takeK, List.getElem?_set, takeK_len]
    by_cases hik : k = i
    · subst hik; simp [hi]
    · rw [if_neg hik, ih]
      congr 1
      by_cases h : i < k
      · rw [if_pos h, if_pos (by omega)]
      · rw [if_neg h, if_neg (by omega)]
theorem takeK_skip (l c : List Int) (k : Nat) (hk : k < l.length) (h : upd (l[k]?.getD 0) (c[k + 2]?.getD (-2)) = l[k]?.getD 0) : takeK l c (k + 1) = takeK l c k := by
  apply List.ext_getElem?
  intro i
  rcases Nat.lt_or_ge i l.length with hi | hi
  · rw [takeK_get l c _ i hi, takeK_get l c _ i hi]
    by_cases hik : i = k
    · subst hik; rw [if_pos (by omega), if_neg (by omega), h]
    · by_cases h2 : i < k
      · rw [if_pos (by omega), if_pos h2]
      · rw [if_neg (by omega), if_neg h2]
  · rw [List.getElem?_eq_none (by rw [takeK_len]; exact hi), List.getElem?_eq_none (by rw [takeK_len]; exact hi)]
theorem upd_ge (h d : Int) (hh : -1 ≤ h) : -1 ≤ upd h d := by unfold upd; split <;> omega

/-- below block B all but the row is as it was -/
def Keep (B : Nat) (row : Option Nat) (w w' : World) : Prop := Below 0 w w' ∧ ∀ k, k < B → row ≠ some k → w'.heap[k]? = w.heap[k]?
theorem Keep.refl (B : Nat) (row : Option Nat) (w : World) : Keep B row w w := ⟨Below.refl _ _, fun _ _ _ => rfl⟩
theorem keep_cell {B : Nat} {row : Option Nat} {w w' : World} {p : Addr} {v : Value} (hb : Keep B row w w') (h : w.cell? p = some v) (hB : w.heap.size ≤ B) (hp : row ≠ some p.block) : w'.cell? p = some v := by
  rw [World.cell?_of_block (w := w) (hb.2 p.block (by have := cell_lt h; omega) hp)]; exact h

set_option maxHeartbeats 1000000 in
theorem take_any (ac a : Option Addr) (cc cap t B : Nat) (c l : List Int) (w : World) (hc : Row w 1 ac c.length (c.map (Value.int .i64))) (hl : Own w B 3 1 a l.length cap (l.map (Value.int .i64)))
    (ha : 0 < l.length → ∃ g, a = some ⟨g, 0, none⟩) (hac : ∀ k, blockOf ac = some k → rowOf a cap ≠ some k) (ht : w.cell? ⟨t, 0, none⟩ = some (.slice a l.length cap)) (hta : rowOf a cap ≠ some t)
    (hlc : l.length + 2 ≤ c.length) (hcm : c.length ≤ 65536) (hm : ∀ x ∈ l, -1 ≤ x) :
    Calls Try.prog 24 #[.slice ac c.length cc, .pointer (some ⟨t, 0, none⟩)] w (fun e w' => ∃ v, e = .returned v ∧ Keep w.heap.size (rowOf a cap) w w' ∧ Own w' B 3 1 a l.length cap ((takeK l c l.length).map (Value.int .i64))) := by
  have Hc := Lib.hid hc
  have Hl := Lib.hid hl
  have Hm := Lib.hid hm
  have Hac := Lib.hid hac
  have Ha := Lib.hid ha
  have hlm : l.length ≤ 65534 := by omega
  have Hta := Lib.hid hta
  have Ht := Lib.hid ht
  clear hc hl hm hac ha hta ht
  have ht := Ht.out
  go_enter Try.func24, Try.ntmps24
  go_wp2_with fail
  clear ht
  go_loopw [7] (fun i wr => ∃ k : Nat, k ≤ l.length ∧ i = .int .i64 k ∧ Hid (Keep w.heap.size (rowOf a cap) w wr) ∧ Hid (Own wr B 3 1 a l.length cap ((takeK l c k).map (Value.int .i64)))) (fun i _ => l.length - (intOf i).toNat)
  case atStart => exact ⟨0, Nat.zero_le _, rfl, Keep.refl _ _ _, Hl⟩
  case round =>
    obtain ⟨k, hk, rfl, hkp, hown⟩ := hrel
    have ht := keep_cell hkp.out Ht.out (Nat.le_refl _) Hta.out
    by_cases hlt : k < l.length
    · obtain ⟨d, hd⟩ := get_some (l := c) (i := k + 2) (by omega)
      obtain ⟨g, hg⟩ := Ha.out (by omega)
      obtain ⟨ab, ao, rfl, v0⟩ := Hc.out.elem1 hd
      have v1 := keep_cell hkp.out v0 (Nat.le_refl _) (Hac.out ab rfl)
      subst hg
      obtain ⟨m1, m2, m3, m4⟩ := hown.out.at0 (j := k) hlt
      rw [List.getElem?_map, takeK_get l c k k hlt, if_neg (by omega)] at m2
      simp only [Option.map_some] at m2
      have hset := hown.out.set0 (j := k) hlt (.int .i64 (upd (l[k]?.getD 0) d))
      rw [← List.map_set] at hset
      have hrow : rowOf (some (⟨g, 0, none⟩ : Addr)) cap = some g := by have := hown.out.le; simp only [rowOf, if_neg (by omega : ¬ cap = 0)]; rfl
      have hks : Keep w.heap.size (rowOf (some ⟨g, 0, none⟩) cap) w (wr.setCell ⟨g, k, none⟩ (.int .i64 (upd (l[k]?.getD 0) d))) :=
        ⟨hkp.out.1.setCell (Nat.zero_le _) _, fun j h1 h2 => (Below.heap_setCell wr _ _ j (fun he => h2 (by rw [hrow, he]))).trans (hkp.out.2 j h1 h2)⟩
      have hnext : takeK l c (k + 1) = (takeK l c k).set k (upd (l[k]?.getD 0) d) := by simp [takeK, hd]
      have hge : -1 ≤ l[k]?.getD 0 := by rw [List.getElem?_eq_getElem hlt]; exact Hm.out _ (List.getElem_mem _)
      rw [← hnext] at hset
      have hskip : upd (l[k]?.getD 0) d = l[k]?.getD 0 → takeK l c (k + 1) = takeK l c k := fun he => takeK_skip l c k hlt (by rw [hd]; exact he)
      generalize l[k]?.getD 0 = h at *
      have hck : (k : Int) + 2 < c.length := by omega
      have hck2 : 2 + (k : Int) < c.length := by omega
      have hk0 : (0 : Int) ≤ 2 + (k : Int) := by omega
      have hk3 : (2 + (k : Int)).toNat = k + 2 := by omega
      have hmx : max d 0 = if d < 0 then 0 else d := by split <;> omega
      clear hrow hnext hd v0
      by_cases hd2 : d = -2
      · have e2 : takeK l c (k + 1) = takeK l c k := hskip (by simp [upd, hd2])
        subst hd2
        clear hset hks hskip hmx
        go_wp2
        go_roundw
        case rel => exact ⟨k + 1, by omega, by go_num, hkp, by rw [e2]; exact hown⟩
        case measure => simp [intOf]; omega
      · have g1 : (d != -2) = true := by simpa using hd2
        by_cases hh : h = -1
        · have e2 : upd h d = if d < 0 then 0 else d := by rw [← hmx]; simp [upd, hd2, hh]
          rw [e2] at hset hks
          have g2 : (h == -1) = true := by simpa using hh
          have Hset := Lib.hid hset
          have Hks := Lib.hid hks
          clear hset hks hskip hmx hh hd2 e2
          go_wp2
          go_roundw
          case rel => exact ⟨k + 1, by omega, by go_num, Hks, Hset⟩
          case measure => simp [intOf]; omega
        · have g2 : (h == -1) = false := by simpa using hh
          by_cases hm : max d 0 < h
          · have g3 : decide ((if d < 0 then 0 else d) < h) = true := by rw [← hmx]; simpa using hm
            have e2 : upd h d = if d < 0 then 0 else d := by rw [← hmx]; simp [upd, hd2, hm]
            rw [e2] at hset hks
            have Hset := Lib.hid hset
            have Hks := Lib.hid hks
            clear hset hks hskip hmx hh hd2 e2 hm
            go_wp2
            go_roundw
            case rel => exact ⟨k + 1, by omega, by go_num, Hks, Hset⟩
            case measure => simp [intOf]; omega
          · have g3 : decide ((if d < 0 then 0 else d) < h) = false := by rw [← hmx]; simpa using hm
            have e2 : takeK l c (k + 1) = takeK l c k := hskip (by rw [upd, if_neg]; rintro ⟨_, q | q⟩ <;> omega)
            clear hset hks hskip hmx hh hd2 hm
            go_wp2
            go_roundw
            case rel => exact ⟨k + 1, by omega, by go_num, hkp, by rw [e2]; exact hown⟩
            case measure => simp [intOf]; omega
    · obtain rfl : k = l.length := by omega
      go_wp2
      exact bodyPost_end (results_none rfl _ _ _) rfl ⟨_, rfl, hkp.out, hown.out⟩
end Go.Proofs.Ytlpmpgocecmfbaa
