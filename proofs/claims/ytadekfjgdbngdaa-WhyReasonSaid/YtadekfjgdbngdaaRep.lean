/- slices.Repeat of one number. -/
import Derived.Test.YtadekfjgdbngdaaG1
import Derived.Test.YtadekfjgdbngdaaShelf
import Derived.StillTailTactics
import Derived.Laws.CopyOwn
namespace Go.Proofs.Ytadekfjgdbngdaa
open Go Go.RowKit

/-- a new slice of ints that the call hands over: its own, from block B on -/
def NewInts (B : Nat) (l : List Int) (v : Value) (w' : World) : Prop := ∃ a cap, v = .slice a l.length cap ∧ Own w' B 3 1 a l.length cap (l.map (Value.int .i64)) ∧ (0 < l.length → ∃ g, a = some ⟨g, 0, none⟩)

theorem Try.infoInt : (Try.prog.info? 3).map (fun i => (i.zero, i.size, i.bytes)) = some (some (.int .i64 0), 1, 8) := by kernel_rfl

theorem splice_rep {α : Type} (c z : α) (k m r : Nat) : splice (List.replicate k c ++ List.replicate r z) k (List.replicate m c) = List.replicate (k + m) c ++ List.replicate (r - m) z := by
  unfold splice
  rw [List.take_append_of_le_length (by simp), List.take_of_length_le (by simp), ← List.append_assoc, List.replicate_append_replicate, List.length_replicate, List.drop_append]
  congr 1
  simp [Nat.add_sub_cancel_left]

theorem Try.sizeInt : (Try.prog.info? 3).map (·.size) = some 1 := by kernel_rfl

theorem mul_one (n : Nat) (w : World) (hn : n ≤ 1099511627776) : Calls Try.prog 41 #[.int .u64 1, .int .u64 n] w fun e w' => e = .returned (.tuple #[.int .u64 0, .int .u64 n]) ∧ w = w' := by
  have h := Try.bits_Mul 1 n (by omega) (by omega) w
  have e1 : 1 * n / 18446744073709551616 = 0 := by omega
  have e2 : 1 * n % 18446744073709551616 = n := by omega
  rw [e1, e2] at h
  exact h.mono fun e w' ⟨h1, h2⟩ => ⟨h1, h2.symm⟩

set_option maxRecDepth 20000 in
set_option maxHeartbeats 1000000 in
theorem repeat_any (a : Option Addr) (cx : Nat) (c : Int) (n : Nat) (w : World) (hx : Row w 1 a 1 [.int .i64 c]) (hn : n ≤ 1099511627776) :
    Calls Try.prog 20 #[.slice a 1 cx, .int .i64 n] w (Ret w (NewInts w.heap.size (List.replicate n c))) := by
  obtain ⟨b, off, rfl, hc⟩ := hx.2 (by decide)
  have hc0 := hc 0 (by decide)
  simp only [Nat.add_zero, List.getElem?_cons_zero] at hc0
  clear hx hc
  obtain ⟨i0, hi, hz0, hz1, hz2⟩ := info_parts Try.infoInt
  have Hi := Lib.hid hi
  clear hi
  go_enter Try.func20, Try.ntmps20
  go_wp2_with fail
  refine (mul_one n w hn).mono ?_
  rintro e w1 ⟨rfl, rfl⟩
  go_wp2_with (at_make; go_loud (refine wpList_make_full _ rfl _ _ 28 rfl w.heap.size 3 i0 (.int .i64 0) 1 Try.underlying28 Hi.out hz0 hz1 _ _ _ _ n rfl rfl rfl rfl ?b1 ?b2 (Nat.le_refl _) ?_))
  case b1 => rw [hz2]; omega
  case b2 => unfold maxLen; omega
  · intro w1 hown hg
    simp only [toList_madeCells_one] at hown
    have hblk := owns_full hown
    have hbel : Below w.heap.size w w1 := (Below.refl _ _).grown hg (Nat.le_refl _) (fun k h => by cases h)
    have hc1 := below_ext hbel hc0
    have Hbel := Lib.hid hbel
    clear hown hg hbel hc0
    have Hblk := Lib.hid hblk
    clear hblk
    rcases Nat.eq_zero_or_pos n with h0 | h0
    · subst h0
      go_wp2_with ((with_reducible show wpList _ _ _ _ _ _); refine wpList_copy_nothing (o := ⟨some 33, _, _, _, _, _⟩) rfl _ _ _ _ rfl 3 Try.underlying28 (by kernel_rfl) _ _ 0 0 1 cx rfl rfl rfl ?_)
      refine wp_loop_rounds 1 ?_
      rw [rounds_succ]
      go_wp2
      go_ret
      exact ⟨_, rfl, Hbel.out, _, _, rfl, ⟨rfl, .inl ⟨rfl, rfl, fun g hg => by simp [blockOf] at hg; omega⟩⟩, fun h => by simp at h⟩
    · have hcopy : ∀ j v, [Value.int .i64 c][j]? = some v → w1.cell? ((⟨b, off, none⟩ : Addr).add j) = some v := fun j v hj => by
        match j, hj with
        | 0, hj => simp at hj; subst hj; rw [Addr.add_lit]; exact hc1
      have Hcopy := Lib.hid hcopy
      clear hcopy
      go_wp2_with ((with_reducible show wpList _ _ _ _ _ _); go_loud (refine wpList_copy_splice (o := ⟨some 33, _, _, _, _, _⟩) rfl _ _ _ _ rfl 3 Try.underlying28 (by kernel_rfl) _ _ n n 1 cx rfl rfl w.heap.size 0 _ 3 Hblk.out [.int .i64 c] (by show 1 = min 1 n; omega) (fun _ => ⟨rfl, _, rfl, Hcopy.out⟩) (by simp; omega) (by simp [Value.oneCell']) w.heap.size w Hbel.out (Nat.le_refl _) ?_); intro w2 hrow hbel2)
      have hrow' := hrow.out
      rw [show splice (List.replicate n (Value.int .i64 0)) 0 [Value.int .i64 c] = List.replicate 1 (Value.int .i64 c) ++ List.replicate (n - 1) (Value.int .i64 0) from by simp [splice]] at hrow'
      have Hrow := Lib.hid hrow'
      have Hbel2 := Lib.hid hbel2
      clear hrow hrow' hbel2 Hblk hc1
      go_loopw [8] (fun i wr => ∃ k : Nat, 1 ≤ k ∧ k ≤ n ∧ i = .int .i64 k ∧ Hid (wr.heap[w.heap.size]? = some (.cells (List.replicate k (Value.int .i64 c) ++ List.replicate (n - k) (Value.int .i64 0)).toArray 3 (0, 0))) ∧ Hid (Below w.heap.size w wr)) (fun i _ => n - (intOf i).toNat)
      case atStart => exact ⟨1, Nat.le_refl _, h0, rfl, Hrow, Hbel2⟩
      case round =>
        obtain ⟨k, hk1, hk, rfl, hr, hb⟩ := hrel
        by_cases hlt : k < n
        · obtain ⟨m, hm⟩ : ∃ m, m = Nat.min k (n - k) := ⟨_, rfl⟩
          have hm' : m = min k (n - k) := hm
          have hmk : m ≤ k := by omega
          have hmn : m ≤ n - k := by omega
          have hm0 : 0 < m := by omega
          have Hcs : Hid ((List.replicate m (Value.int .i64 c)).length = Nat.min k (n - k)) := List.length_replicate.trans hm
          have ew : IntKind.i64.wrap ((k : Int) + (m : Int)) = ((k + m : Nat) : Int) := by rw [IntWalk.i64_in _ (by omega)]; omega
          have Hew := Lib.hid ew
          clear ew hm hm'
          have Hsrc : Hid (∀ j v, (List.replicate (m) (Value.int .i64 c))[j]? = some v → wr.cell? ((⟨w.heap.size, 0, none⟩ : Addr).add j) = some v) := fun j v hj => by
            have h1 := get_lt hj
            simp at h1
            rw [Addr.add_lit, cell_of_row wr _ _ _ _ _ hr.out, Nat.zero_add]
            simp [List.getElem?_replicate] at hj
            simp [List.getElem?_append, show j < k from by omega, hj.2]
          have hbd := Lib.hid hb.out.drew
          have hnk : ¬ n = k := by omega
          go_wp2_with fail
          have Hpos : Hid (0 < (List.replicate (m) (Value.int .i64 c)).length → (some ⟨w.heap.size, k, none⟩ : Option Addr) = some ⟨w.heap.size, k, none⟩ ∧ ∃ ad, (some ⟨w.heap.size, 0, none⟩ : Option Addr) = some ad ∧ ∀ j v, (List.replicate (m) (Value.int .i64 c))[j]? = some v → wr.drew.cell? ((ad : Addr).add j) = some v) := fun _ => ⟨rfl, _, rfl, Hsrc.out⟩
          have Hfit : Hid (k + (List.replicate (m) (Value.int .i64 c)).length ≤ (List.replicate k (Value.int .i64 c) ++ List.replicate (n - k) (Value.int .i64 0)).length) := by show _ ≤ _; simp; omega
          have Hone : Hid (∀ v ∈ List.replicate (m) (Value.int .i64 c), v.oneCell' = true) := by intro v hv; rw [List.mem_replicate] at hv; rw [hv.2]; rfl
          go_region_law ((refine step_copy_splice rfl (.tmp 41) (.tmp 44) 28 28 rfl 3 Try.underlying28 Try.sizeInt (some ⟨w.heap.size, k, none⟩) (some ⟨w.heap.size, 0, none⟩) (n - k) (n - k) k n ?_ ?_ w.heap.size k (List.replicate k (Value.int .i64 c) ++ List.replicate (n - k) (Value.int .i64 0)) 3 hr.out (List.replicate (m) (Value.int .i64 c)) Hcs.out Hpos.out Hfit.out Hone.out w.heap.size w hbd.out (Nat.le_refl _) ?_); (simp [Act.put, go_sem]); (simp [Act.put, go_sem]); intro w2 hrow hbel2)
          have hrow' := hrow.out
          have Hrow' := Lib.hid hrow'
          have Hbel' := Lib.hid hbel2
          clear hrow hrow' hbel2 Hfit Hone Hpos Hsrc
          simp [Act.put]
          go_wp2
          go_roundw
          case rel =>
            refine ⟨k + m, by omega, by omega, ?_, ?_, Hbel'⟩
            · rw [Hew.out]
            · have h := Hrow'.out
              rw [splice_rep, Nat.sub_sub] at h; exact h
          case measure => simp only [intOf, Hew.out]; omega
        · go_wp2
          go_ret
          obtain rfl : k = n := by omega
          have this := hr.out
          rw [Nat.sub_self, List.replicate_zero, List.append_nil] at this
          exact ⟨_, rfl, hb.out, some ⟨w.heap.size, 0, none⟩, k, by rw [List.length_replicate]; rfl, by rw [List.length_replicate, List.map_replicate]; exact Own.ofBlock (Nat.le_refl _) this (by simp) (by unfold maxLen; omega), fun _ => ⟨_, rfl⟩⟩

end Go.Proofs.Ytadekfjgdbngdaa
