/- Strings: are two lists one; fits: are bodies few and short; walked. -/
import Derived.Test.YtgfkgcnnjehmlaaDoorAlive
namespace Go.Proofs.YtgfkgcnnjehmlaaDoor
open Go Go.RowKit

set_option maxHeartbeats 400000 in
theorem strings_any (a b : Option Addr) (ca cb : Nat) (la lb : List (List UInt8)) (w : World) (ha : Row w 1 a la.length (la.map strV)) (hb : Row w 1 b lb.length (lb.map strV)) (hl : la.length ≤ 1099511627776) :
    Calls Tryd.prog 15 #[.slice a la.length ca, .slice b lb.length cb] w (Ret w (IsB (la = lb))) := by
  have HA := Lib.hid ha
  have HB := Lib.hid hb
  clear ha hb
  go_enter Tryd.func15, Tryd.ntmps15
  by_cases hn : la.length = lb.length
  · have hn2 : ((la.length : Int) != lb.length) = false := by simp [hn]
    go_wp2
    go_loopw [5] (fun i wq => ∃ k : Nat, k ≤ la.length ∧ i = .int .i64 k ∧ Hid (Below w.heap.size w wq ∧ ∀ j, j < k → la[j]? = lb[j]?)) (fun i _ => la.length - (intOf i).toNat)
    case atStart => exact ⟨0, Nat.zero_le _, rfl, Below.refl _ _, fun j h => by omega⟩
    case round =>
      obtain ⟨k, hk, rfl, hq⟩ := hrel
      by_cases hlt : k < la.length
      · obtain ⟨x, hx⟩ := get_some hlt
        obtain ⟨y, hy⟩ := get_some (l := lb) (i := k) (by omega)
        obtain ⟨ab, ao, rfl, v1⟩ := (HA.out.ext hq.out.1).elem1 hx
        obtain ⟨bb, bo, rfl, v2⟩ := (HB.out.ext hq.out.1).elem1 hy
        have Hx := Lib.hid hx
        have Hy := Lib.hid hy
        have hkl : (k : Int) < la.length := by omega
        have hkl2 : (k : Int) < lb.length := by omega
        have u1 : wr.cell? ⟨ab, ao + k, none⟩ = some (.string ⟨x.toArray⟩) := v1
        have u2 : wr.cell? ⟨bb, bo + k, none⟩ = some (.string ⟨y.toArray⟩) := v2
        clear hx hy v1 v2
        by_cases hxy : x = y
        · have hne : (x == y) = true := by simpa using hxy
          have Hxy := Lib.hid hxy
          clear hxy
          go_wp2_with fail
          go_quiet (fail)
          go_wp2
          go_roundw
          case rel =>
            refine ⟨k + 1, by omega, by go_num, below_drew hq.out.1 _, fun j hj => ?_⟩
            rcases Nat.lt_or_ge j k with h | h
            · exact hq.out.2 j h
            · obtain rfl : j = k := by omega
              rw [Hx.out, Hy.out, Hxy.out]
          case measure => simp [intOf]; omega
        · have hne : (x == y) = false := by simpa using hxy
          have Hxy := Lib.hid hxy
          clear hxy
          go_wp2_with fail
          go_quiet (fail)
          go_wp2
          go_ret
          exact ⟨_, rfl, below_drew hq.out.1 _, isB_false fun h => Hxy.out (by have := Hx.out; rw [h, Hy.out] at this; simpa using this.symm)⟩
      · obtain rfl : k = la.length := by omega
        go_wp2
        go_ret
        exact ⟨_, rfl, hq.out.1, isB_true (List.ext_getElem? fun i => by rcases Nat.lt_or_ge i la.length with h | h; exact hq.out.2 i h; rw [List.getElem?_eq_none h, List.getElem?_eq_none (by omega)])⟩
  · have hn2 : ((la.length : Int) != lb.length) = true := by simp; omega
    go_wp2
    go_ret
    exact ⟨_, rfl, Below.refl _ _, isB_false fun h => hn (by rw [h])⟩

/-- how many bytes -/
def total : List (List UInt8) → Nat
  | [] => 0
  | x :: l => x.length + total l
theorem total_app (l m : List (List UInt8)) : total (l ++ m) = total l + total m := by
  induction l with
  | nil => simp [total]
  | cons x l ih => simp only [List.cons_append, total, ih]; omega
theorem total_mem {l : List (List UInt8)} {x : List UInt8} (h : x ∈ l) : x.length ≤ total l := by
  induction l with
  | nil => cases h
  | cons y l ih =>
    rcases List.mem_cons.1 h with rfl | h
    · simp [total]
    · have := ih h; simp only [total]; omega

theorem total_take {l : List (List UInt8)} (h : ∀ x ∈ l, x.length ≤ 140737488355328) (k : Nat) : total (l.take k) ≤ k * 140737488355328 := by
  induction l generalizing k with
  | nil => simp [total]
  | cons x l ih =>
    cases k with
    | zero => simp [total]
    | succ k =>
      have h1 := h x (by simp)
      have h2 := ih (fun y hy => h y (by simp [hy])) k
      simp only [List.take_succ_cons, total, Nat.add_mul]; omega

def FitsR (l : List (List UInt8)) (e : Ending) : Prop := ∃ b, e = .returned (.bool b) ∧ (b = true → l.length ≤ 60 ∧ total l ≤ 2000)

set_option maxHeartbeats 400000 in
theorem fits_any (a : Option Addr) (c : Nat) (l : List (List UInt8)) (w : World) (hr : Row w 1 a l.length (l.map strV)) (hl : l.length ≤ maxLen) (hs : ∀ x ∈ l, x.length ≤ 140737488355328) :
    Calls Tryd.prog 8 #[.slice a l.length c] w (fun e w' => FitsR l e ∧ w' = w) := by
  unfold maxLen at hl
  have HR := Lib.hid hr
  have HS := Lib.hid hs
  clear hr hs
  go_enter Tryd.func8, Tryd.ntmps8
  go_wp2_with fail
  go_loop [3, 4] (fun n i => ∃ k : Nat, k ≤ l.length ∧ k ≤ 61 ∧ i = .int .i64 k ∧ n = .int .i64 (total (l.take k) : Nat)) (fun _ i => 100 - (intOf i).toNat)
  case atStart => exact ⟨0, Nat.zero_le _, by omega, rfl, rfl⟩
  case round =>
    obtain ⟨k, hk, hk61, rfl, rfl⟩ := hrel
    have htk := total_take HS.out k
    by_cases hlt : k < l.length
    · by_cases h60 : k ≤ 60
      · obtain ⟨x, hx⟩ := get_some hlt
        obtain ⟨ab, ao, rfl, v1⟩ := HR.out.elem1 hx
        have u1 : w.cell? ⟨ab, ao + k, none⟩ = some (.string ⟨x.toArray⟩) := v1
        have hxl := HS.out x (List.mem_of_getElem? hx)
        have hxs : (⟨x.toArray⟩ : ByteArray).size = x.length := by simp [ByteArray.size]
        have hnext : total (l.take (k + 1)) = total (l.take k) + x.length := by
          rw [List.take_add_one, hx, total_app]; simp [total]
        have Hn := Lib.hid hnext
        have hkl : (k : Int) < l.length := by omega
        have h602 : (k : Int) ≤ 60 := by omega
        have htk2 : total (l.take k) ≤ 60 * 140737488355328 := Nat.le_trans htk (Nat.mul_le_mul_right _ h60)
        clear hnext v1 hx htk
        generalize total (l.take k) = m at *
        go_wp2
        go_round
        case rel => exact ⟨k + 1, by omega, by omega, by go_num, by rw [Hn.out]; simp⟩
        case measure => simp [intOf]; omega
      · have h602 : decide ((k : Int) ≤ 60) = false := by simp; omega
        have hl60 : (60 : Int) < l.length := by omega
        go_wp2
        all_goals (go_ret; exact ⟨⟨_, rfl, fun h => by simp at h <;> omega⟩, rfl⟩)
    · obtain rfl : k = l.length := by omega
      rw [List.take_of_length_le (Nat.le_refl _)] at *
      have htk2 : total l ≤ 61 * 140737488355328 := Nat.le_trans htk (Nat.mul_le_mul_right _ hk61)
      go_wp2
      all_goals (go_ret; exact ⟨⟨_, rfl, fun h => by simp at h <;> omega⟩, rfl⟩)
end Go.Proofs.YtgfkgcnnjehmlaaDoor
