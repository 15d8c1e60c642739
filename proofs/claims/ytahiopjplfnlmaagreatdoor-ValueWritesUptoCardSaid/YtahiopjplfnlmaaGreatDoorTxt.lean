/- A text between quotes: walked. -/
import Derived.Test.YtahiopjplfnlmaaGreatDoorSame
import Derived.Lib.SlBytesRow
namespace Go.Proofs.YtahiopjplfnlmaaGreatDoor
open Go Go.RowKit

theorem byteCells_app (l : Nm) (m : Nm) : Lib.byteCells (l ++ m) = Lib.byteCells l ++ Lib.byteCells m := by simp [Lib.byteCells]
/-- what a byte becomes between quotes -/
theorem quoteB_low {c : UInt8} (h : c.toNat < 32) : quoteB c = [92, 117, 48, 48, hexFig (c.toNat / 16), hexFig (c.toNat % 16)] := by
  unfold quoteB; rw [if_pos (UInt8.lt_iff_toNat_lt.2 h)]
theorem quoteB_two {c : UInt8} (h : ¬ c.toNat < 32) (h2 : c.toNat = 34 ∨ c.toNat = 92) : quoteB c = [92, c] := by
  unfold quoteB
  rw [if_neg (fun e => h (UInt8.lt_iff_toNat_lt.1 e)), if_pos (h2.imp (fun e => UInt8.toNat_inj.1 e) (fun e => UInt8.toNat_inj.1 e))]
theorem quoteB_one {c : UInt8} (h : ¬ c.toNat < 32) (h2 : ¬ c.toNat = 34) (h3 : ¬ c.toNat = 92) : quoteB c = [c] := by
  unfold quoteB
  rw [if_neg (fun e => h (UInt8.lt_iff_toNat_lt.1 e)), if_neg]
  rintro (rfl | rfl)
  · exact h2 rfl
  · exact h3 rfl
/-- the builder while a text is put between quotes -/
structure QB (w W : World) (acc : Nm) : Prop where
  bld : Lib.IsBuilder 74 5 w.heap.size w.heap.size (Lib.byteCells acc) W
  below : Below w.heap.size w W
  lt : w.heap.size < W.heap.size
theorem QB.byte {w W W' : World} {acc : Nm} {c : UInt8} (h : QB w W acc) (hb : Lib.BuilderAt 74 5 w.heap.size w.heap.size (.pointer (some ⟨w.heap.size, 0, none⟩)) (Lib.byteCells acc ++ [.int .u8 (c.toNat : Int)]) W') (hk : Below w.heap.size W W') : QB w W' (acc ++ [c]) :=
  ⟨by rw [byteCells_app]; exact .inr hb, h.below.trans hk, Nat.lt_of_lt_of_le h.lt hk.size⟩
theorem QB.str {w W W' : World} {acc : Nm} {s : Nm} (h : QB w W acc) (hb : Lib.BuilderAt 74 5 w.heap.size w.heap.size (.pointer (some ⟨w.heap.size, 0, none⟩)) (Lib.byteCells acc ++ Lib.strCells ⟨s.toArray⟩) W') (hk : Below w.heap.size W W') : QB w W' (acc ++ s) :=
  ⟨by rw [byteCells_app]; exact .inr hb, h.below.trans hk, Nat.lt_of_lt_of_le h.lt hk.size⟩
theorem QB.ext {w W W' : World} {acc : Nm} (h : QB w W acc) (hk : Below W.heap.size W W') : QB w W' acc :=
  ⟨builder_ext h.bld hk, h.below.trans (hk.mono h.below.size), Nat.lt_of_lt_of_le h.lt hk.size⟩
theorem cat_nm (a b : Nm) : (⟨a.toArray⟩ : ByteArray) ++ (⟨b.toArray⟩ : ByteArray) = ⟨(a ++ b).toArray⟩ := by
  apply ba_eq
  rw [ByteArray.data_append]
  simp
theorem cat6 (A B : UInt8) : (⟨#[92, 117, 48, 48]⟩ : ByteArray) ++ (⟨#[A, B]⟩ : ByteArray) = ⟨([92, 117, 48, 48, A, B] : Nm).toArray⟩ := cat_nm [92, 117, 48, 48] [A, B]
theorem cat2 (c : UInt8) : (⟨#[92]⟩ : ByteArray) ++ (⟨#[c]⟩ : ByteArray) = ⟨([92, c] : Nm).toArray⟩ := cat_nm [92] [c]
theorem quotes_take {s : Nm} {k : Nat} {c : UInt8} (h : s[k]? = some c) : (s.take (k + 1)).flatMap quoteB = (s.take k).flatMap quoteB ++ quoteB c := by
  rw [take_one h, List.flatMap_append]; simp
theorem index_nm (s : Nm) {k : Nat} {c : UInt8} (h : s[k]? = some c) : ∃ hk : k < (⟨s.toArray⟩ : ByteArray).size, (⟨s.toArray⟩ : ByteArray)[k] = c := by
  have hk : k < s.length := (List.getElem?_eq_some_iff.1 h).1
  refine ⟨by rw [size_nm]; exact hk, ?_⟩
  have h2 := (List.getElem?_eq_some_iff.1 h).2
  rw [← h2]
  rfl
theorem conv_blk {w : World} {g : Nat} (l : Nm) (n : Nat) (hn : l.length = n) (hb : Blk w g (l.map fun c => Value.int .u8 (c.toNat : Int)).toArray 5) : Sem.run Tryz.prog (convert 72 9 (.slice (some ⟨g, 0, none⟩) n n)) w = .ok (.string ⟨l.toArray⟩) w := by
  have h := Lib.run_convert_whole (P := Tryz.prog) w 72 5 9 Tryz.underlying72 Tryz.underlying5 Tryz.underlying9 g 0 ⟨l.toArray⟩ (by
    intro i hi
    rw [size_nm] at hi
    have hc := hb.cell i
    rw [List.getElem?_toArray, List.getElem?_map, List.getElem?_eq_getElem hi] at hc
    rw [Nat.zero_add]
    exact hc) n
  rw [size_nm, hn] at h
  exact h
theorem conv_any (w : World) (l : Nm) (n : Nat) (hn : l.length = n) : Sem.run Tryz.prog (convert 72 9 (.slice (some ⟨w.heap.size, 0, none⟩) n n)) (w.alloc (.cells (l.map fun c => Value.int .u8 (c.toNat : Int)).toArray 5)) = .ok (.string ⟨l.toArray⟩) (w.alloc (.cells (l.map fun c => Value.int .u8 (c.toNat : Int)).toArray 5)) :=
  conv_blk l n hn (Blk.new rfl)
theorem conv_drew (w : World) (l : Nm) (n : Nat) (hn : l.length = n) : Sem.run Tryz.prog (convert 72 9 (.slice (some ⟨w.heap.size, 0, none⟩) n n)) (w.alloc (.cells (l.map fun c => Value.int .u8 (c.toNat : Int)).toArray 5)).drew = .ok (.string ⟨l.toArray⟩) (w.alloc (.cells (l.map fun c => Value.int .u8 (c.toNat : Int)).toArray 5)).drew :=
  conv_blk l n hn (by exact (Blk.new rfl : Blk (w.alloc _) _ _ _))
theorem and15 : ∀ n : Fin 32, bits BinOp.and IntKind.u8 (n.val : Int) 15 = ((n.val % 16 : Nat) : Int) := by decide
theorem bits15 {m : Int} (h0 : 0 ≤ m) (h1 : m < 32) : bits BinOp.and IntKind.u8 m 15 = m % 16 := by
  obtain ⟨n, rfl⟩ := Int.eq_ofNat_of_zero_le h0
  have := and15 ⟨n, by omega⟩
  simpa using this
theorem hexs : ∀ (n : Nat) (h : n < (⟨#[48, 49, 50, 51, 52, 53, 54, 55, 56, 57, 97, 98, 99, 100, 101, 102]⟩ : ByteArray).size), (⟨#[48, 49, 50, 51, 52, 53, 54, 55, 56, 57, 97, 98, 99, 100, 101, 102]⟩ : ByteArray)[n]'h = hexFig n
  | 0, _ => rfl | 1, _ => rfl | 2, _ => rfl | 3, _ => rfl | 4, _ => rfl | 5, _ => rfl | 6, _ => rfl | 7, _ => rfl | 8, _ => rfl | 9, _ => rfl | 10, _ => rfl | 11, _ => rfl | 12, _ => rfl | 13, _ => rfl | 14, _ => rfl | 15, _ => rfl
  | n + 16, h => absurd (show n + 16 < 16 from h) (by omega)
set_option maxHeartbeats 2000000 in
theorem quoted_any (s : Nm) (w : World) (hs : s.length ≤ 16777216) : Calls Tryz.prog 33 #[.string ⟨s.toArray⟩] w (fun e w' => e = .returned (.string ⟨(quoted s).toArray⟩) ∧ Below w.heap.size w w') := by
  obtain ⟨z, hz⟩ : ∃ z : ByteArray, z = ⟨s.toArray⟩ := ⟨_, rfl⟩
  have hzs : z.size = s.length := by rw [hz]; exact size_nm s
  rw [← hz]
  have H0 : Hid (Lib.IsBuilder 74 5 w.heap.size w.heap.size (Lib.byteCells []) (w.alloc (.cells #[.pointer none, .slice none 0 0] 74))) := Lib.hid (Lib.fresh_isBuilder _ _ _)
  have HZ := Lib.hid hz
  have HS := Lib.hid hs
  clear hz hs
  go_enter Tryz.func33, Tryz.ntmps33
  go_wp2_with fail
  refine (writeB_any _ _ _ 34 _ H0.out (by simp [Lib.byteCells]) (by simp)).mono ?_
  rintro e W1 ⟨rfl, hb, hk⟩
  have hq1 : QB w W1 [34] := ⟨.inr hb, (below_a1 w _).trans hk, by have := hk.size; simp at this; omega⟩
  have HQ1 := Lib.hid hq1
  clear hb hk hq1 H0
  go_wp2_with fail
  go_loopw [9] (fun i wr => ∃ k : Nat, k ≤ s.length ∧ i = .int .i64 k ∧ Hid (QB w wr (34 :: (s.take k).flatMap quoteB))) (fun i _ => s.length - (intOf i).toNat)
  case atStart => exact ⟨0, Nat.zero_le _, rfl, HQ1⟩
  case round =>
    obtain ⟨k, hk, rfl, hq⟩ := hrel
    by_cases hlt : k < s.length
    · obtain ⟨c, hc⟩ := get_some hlt
      have hzk : ∃ hk : k < z.size, z[k] = c := by rw [HZ.out]; exact index_nm s hc
      obtain ⟨hkz, hzc⟩ := hzk
      have hkn : (k : Int) < z.size := by omega
      have hki : (k : Int) + 1 ≤ 16777216 := by have := HS.out; omega
      have hcc : ((z[k].toNat : Nat) : Int) = (c.toNat : Int) := by rw [hzc]
      have hlen : (34 :: (s.take k).flatMap quoteB).length ≤ 6 * k + 1 := by
        have := quotes_len (s.take k)
        rw [List.length_take] at this
        simp only [List.length_cons]; omega
      have Hlen := Lib.hid hlen
      have Htk := Lib.hid (quotes_take hc)
      clear hlen hc hzc
      obtain ⟨m, hm⟩ : ∃ m : Int, m = (c.toNat : Int) := ⟨_, rfl⟩
      rw [← hm] at hcc
      have HM := Lib.hid hm
      have hm0 : 0 ≤ m := by omega
      clear hm
      by_cases h32 : m < 32
      · go_wp2_with fail
        have Hq6 : Hid (quoteB c = [92, 117, 48, 48, hexFig (m / 16).toNat, hexFig (m % 16).toNat]) := Lib.hid (by rw [quoteB_low (by have := HM.out; omega)]; have := HM.out; subst this; rfl)
        have hx0 : 0 ≤ m / 16 := by omega
        have hx1 : m / 16 < 16 := by omega
        have hx2 : 0 ≤ m % 16 := by omega
        have hx3 : m % 16 < 16 := by omega
        have hx4 : bits BinOp.and IntKind.u8 m 15 = m % 16 := bits15 hm0 h32
        refine wp_region_held_drew (S := fun _ => True) (by kernel_rfl) ?_ (fun hHeld => ?_)
        · trivial
        refine wpAnyH_take (i := 0) (oi := ⟨some 20, _, _, _, _, _⟩) (v := ?_) rfl (by kernel_rfl) (by kernel_rfl) (by kernel_rfl) (fun _ _ _ h => h) (Or.inl ⟨by rfl, ?_⟩) (by assumption) ?_; rotate_left; focus (intro w hSw; (try dsimp only at hSw); first | (go_simp; done) | (go_simp; with_reducible rfl))
        try simp only [Act.put]
        try simp only [List.setIfInBounds_toArray]
        try simp only [List.set_cons_succ, List.set_cons_zero]
        refine wpAnyH_take (i := 1) (oi := ⟨some 21, _, _, _, _, _⟩) (v := ?_) rfl (by kernel_rfl) (by kernel_rfl) (by kernel_rfl) (fun _ _ _ h => h) (Or.inl ⟨by rfl, ?_⟩) (by assumption) ?_; rotate_left; focus (intro w hSw; (try dsimp only at hSw); first | (go_simp; done) | (go_simp; with_reducible rfl))
        try simp only [Act.put]
        try simp only [List.setIfInBounds_toArray]
        try simp only [List.set_cons_succ, List.set_cons_zero]
        refine wpAnyH_take (i := 2) (oi := ⟨some 22, _, _, _, _, _⟩) (v := ?_) rfl (by kernel_rfl) (by kernel_rfl) (by kernel_rfl) (fun _ _ _ h => h) (Or.inl ⟨by rfl, ?_⟩) (by assumption) ?_; rotate_left; focus (intro w hSw; (try dsimp only at hSw); first | (go_simp; done) | (go_simp; with_reducible rfl))
        try simp only [Act.put]
        try simp only [List.setIfInBounds_toArray]
        try simp only [List.set_cons_succ, List.set_cons_zero]
        refine wpAnyH_take (i := 3) (oi := ⟨some 23, _, _, _, _, _⟩) (v := ?_) rfl (by kernel_rfl) (by kernel_rfl) (by kernel_rfl) (fun _ _ _ h => h) (Or.inl ⟨by rfl, ?_⟩) (by assumption) ?_; rotate_left; focus (intro w hSw; (try dsimp only at hSw); first | (go_simp; done) | (go_simp; with_reducible rfl))
        try simp only [Act.put]
        try simp only [List.setIfInBounds_toArray]
        try simp only [List.set_cons_succ, List.set_cons_zero]
        refine wpAnyH_take (i := 4) (oi := ⟨some 24, _, _, _, _, _⟩) (v := ?_) rfl (by kernel_rfl) (by kernel_rfl) (by kernel_rfl) (fun _ _ _ h => h) (Or.inl ⟨by rfl, ?_⟩) (by assumption) ?_; rotate_left; focus (intro w hSw; (try dsimp only at hSw); first | (go_simp; done) | (go_simp; with_reducible rfl))
        try simp only [Act.put]
        try simp only [List.setIfInBounds_toArray]
        try simp only [List.set_cons_succ, List.set_cons_zero]
        refine wpAnyH_take (i := 5) (oi := ⟨some 25, _, _, _, _, _⟩) (v := ?_) rfl (by kernel_rfl) (by kernel_rfl) (by kernel_rfl) (fun _ _ _ h => h) (Or.inl ⟨by rfl, ?_⟩) (by assumption) ?_; rotate_left; focus (intro w hSw; (try dsimp only at hSw); first | (go_simp; done) | (go_simp; with_reducible rfl))
        try simp only [Act.put]
        try simp only [List.setIfInBounds_toArray]
        try simp only [List.set_cons_succ, List.set_cons_zero]
        refine wpAnyH_ready (rs := [6]) (by kernel_rfl) (by simp) ?_
        refine AllReadyH.cons (i := 6) (o := ⟨some 26, _, _, _, _, _⟩) rfl (fun K hK => ?_) ?_
        · rw [hexs, hexs]
          generalize hA : hexFig (m / 16).toNat = A at *
          generalize hB : hexFig (m % 16).toNat = B at *
          have HA := Lib.hid hA
          have HB := Lib.hid hB
          clear hA hB
          have hcv := conv_drew wr [A, B] 2 rfl
          simp only [List.map_cons, List.map_nil] at hcv
          go_simp
          refine hK.out _ _ ?_ (fun hHeld => ?_)
          · trivial
          try simp only [Act.put]
          try simp only [List.setIfInBounds_toArray]
          try simp only [List.set_cons_succ, List.set_cons_zero]
          refine wpAnyH_ready (rs := [7]) (by kernel_rfl) (by simp) ?_
          refine AllReadyH.cons (i := 7) (o := ⟨some 27, _, _, _, _, _⟩) rfl (fun K hK => ?_) ?_
          · simp [go_sem, hcv]
            refine hK.out _ _ ?_ (fun hHeld => ?_)
            · trivial
            try simp only [Act.put]
            try simp only [List.setIfInBounds_toArray]
            try simp only [List.set_cons_succ, List.set_cons_zero]
            refine wpAnyH_take (i := 8) (oi := ⟨some 28, _, _, _, _, _⟩) (v := ?_) rfl (by kernel_rfl) (by kernel_rfl) (by kernel_rfl) (fun _ _ _ h => h) (Or.inl ⟨by rfl, ?_⟩) (by assumption) ?_; rotate_left; focus (intro w hSw; (try dsimp only at hSw); first | (go_simp; done) | (go_simp; with_reducible rfl))
            try simp only [Act.put]
            try simp only [List.setIfInBounds_toArray]
            try simp only [List.set_cons_succ, List.set_cons_zero]
            refine wpAnyH_ready (rs := [9]) (by kernel_rfl) (by simp) ?_
            refine AllReadyH.cons (i := 9) (o := ⟨some 29, _, _, _, _, _⟩) rfl (fun K hK => ?_) ?_
            · go_simp
              rw [cat6]
              have hqa : QB w (wr.alloc (.cells #[.int .u8 (A.toNat : Int), .int .u8 (B.toNat : Int)] 5)).drew (34 :: (s.take k).flatMap quoteB) := hq.out.ext (below_drew (below_a1 _ _) 1)
              have HQA := Lib.hid hqa
              clear hqa
              refine (write_any w.heap.size w.heap.size _ _ _ HQA.out.bld (by have := Hlen.out; have := HS.out; rw [size_nm]; simp [Lib.byteCells] at *; omega) HQA.out.below.size).mono ?_
              rintro e w2 ⟨rfl, hbld, hbel⟩
              have HQ2 := Lib.hid (HQA.out.str hbld hbel)
              clear hbld hbel hcv
              refine hK.out _ _ ?_ (fun hHeld => ?_)
              · trivial
              try simp only [Act.put]
              try simp only [List.setIfInBounds_toArray]
              try simp only [List.set_cons_succ, List.set_cons_zero]
              refine wpAnyH_done (by kernel_rfl) ?_ _
              go_wp2
              go_roundw
              case rel => exact ⟨k + 1, by omega, by go_num, Lib.hid (by rw [Htk.out, Hq6.out]; exact HQ2.out)⟩
              case measure => simp [intOf]; omega
            exact AllReadyH.nil
          exact AllReadyH.nil
        exact AllReadyH.nil
      · have two : ∀ q : Int, m = q → (q = 34 ∨ q = 92) → quoteB c = [92, c] := fun q h h2 => quoteB_two (by have := HM.out; omega) (by have := HM.out; omega)
        have Two := Lib.hid two
        clear two
        by_cases h34 : m = 34
        · have h34' : (m == 34) = true := by simpa using h34
          have Hq2 := Lib.hid (Two.out 34 h34 (.inl rfl))
          have hcv := conv_any wr [c] 1 rfl
          simp only [List.map_cons, List.map_nil] at hcv
          rw [← HM.out, h34] at hcv
          go_wp2_with fail
          rw [cat2]
          refine (write_any w.heap.size w.heap.size _ _ _ (hq.out.ext (below_a1 _ _)).bld (by have := Hlen.out; have := HS.out; rw [size_nm]; simp [Lib.byteCells] at *; omega) (by have := hq.out.below.size; simp; omega)).mono ?_
          rintro e w2 ⟨rfl, hbld, hbel⟩
          have HQ2 := Lib.hid ((hq.out.ext (below_a1 _ _)).str hbld hbel)
          clear hbld hbel hcv
          go_wp2
          go_roundw
          case rel => exact ⟨k + 1, by omega, by go_num, Lib.hid (by rw [Htk.out, Hq2.out]; exact HQ2.out)⟩
          case measure => simp [intOf]; omega
        · by_cases h92 : m = 92
          · have h34' : (m == 34) = false := by simpa using h34
            have h92' : (m == 92) = true := by simpa using h92
            have Hq2 := Lib.hid (Two.out 92 h92 (.inr rfl))
            have hcv := conv_any wr [c] 1 rfl
            simp only [List.map_cons, List.map_nil] at hcv
            rw [← HM.out, h92] at hcv
            go_wp2_with fail
            rw [cat2]
            refine (write_any w.heap.size w.heap.size _ _ _ (hq.out.ext (below_a1 _ _)).bld (by have := Hlen.out; have := HS.out; rw [size_nm]; simp [Lib.byteCells] at *; omega) (by have := hq.out.below.size; simp; omega)).mono ?_
            rintro e w2 ⟨rfl, hbld, hbel⟩
            have HQ2 := Lib.hid ((hq.out.ext (below_a1 _ _)).str hbld hbel)
            clear hbld hbel hcv
            go_wp2
            go_roundw
            case rel => exact ⟨k + 1, by omega, by go_num, Lib.hid (by rw [Htk.out, Hq2.out]; exact HQ2.out)⟩
            case measure => simp [intOf]; omega
          · have Hq1 : Hid (quoteB c = [c]) := Lib.hid (quoteB_one (by have := HM.out; omega) (by have := HM.out; omega) (by have := HM.out; omega))
            have h34' : (m == 34) = false := by simpa using h34
            have h92' : (m == 92) = false := by simpa using h92
            go_wp2_with fail
            rw [HM.out]
            refine (writeB_any w.heap.size w.heap.size _ _ _ hq.out.bld (by have := Hlen.out; have := HS.out; simp [Lib.byteCells] at *; omega) hq.out.below.size).mono ?_
            rintro e w2 ⟨rfl, hbld, hbel⟩
            have HQ2 := Lib.hid (hq.out.byte hbld hbel)
            clear hbld hbel
            go_wp2
            go_roundw
            case rel => exact ⟨k + 1, by omega, by go_num, Lib.hid (by rw [Htk.out, Hq1.out]; exact HQ2.out)⟩
            case measure => simp [intOf]; omega
    · obtain rfl : k = s.length := by omega
      go_wp2_with fail
      refine (writeB_any w.heap.size w.heap.size _ 34 _ hq.out.bld (by have := quotes_len (s.take s.length); have := HS.out; rw [List.length_take] at *; simp [Lib.byteCells] at *; omega) hq.out.below.size).mono ?_
      rintro e w2 ⟨rfl, hbld, hbel⟩
      have hq2 := hq.out.byte (c := 34) hbld hbel
      rw [List.take_length] at hq2
      have HQ2 := Lib.hid hq2
      clear hbld hbel hq2
      go_wp2_with fail
      refine (Tryz.Builder_String_any w.heap.size w.heap.size _ _ HQ2.out.bld (HQ2.out.below.size)).mono ?_
      rintro e w3 ⟨rfl, hb3⟩
      have HB3 := Lib.hid (HQ2.out.below.trans hb3)
      clear hb3
      go_wp2
      go_ret
      exact ⟨rfl, HB3.out⟩
end Go.Proofs.YtahiopjplfnlmaaGreatDoor
