/- Small functions of the documents: Strings, Right; walked. -/
import Derived.Test.YtahiopjplfnlmaaGreatDoorRead
import Derived.Test.YtahiopjplfnlmaaGreatDoorR2
namespace Go.Proofs.YtahiopjplfnlmaaGreatDoor
open Go Go.RowKit

/-- it is true just if -/
def IsB (p : Prop) (v : Value) (_ : World) : Prop := ∃ b, v = .bool b ∧ (b = true ↔ p)
theorem isB_true {p : Prop} {w : World} (h : p) : IsB p (.bool true) w := ⟨true, rfl, by simp [h]⟩
theorem isB_false {p : Prop} {w : World} (h : ¬ p) : IsB p (.bool false) w := ⟨false, rfl, by simp [h]⟩
set_option maxHeartbeats 400000 in
theorem strings_any (a b : Option Addr) (ca cb : Nat) (la lb : List (List UInt8)) (w : World) (ha : Row w 1 a la.length (la.map strV)) (hb : Row w 1 b lb.length (lb.map strV)) (hl : la.length ≤ 1099511627776) :
    Calls Tryz.prog 23 #[.slice a la.length ca, .slice b lb.length cb] w (Ret w (IsB (la = lb))) := by
  have HA := Lib.hid ha
  have HB := Lib.hid hb
  clear ha hb
  go_enter Tryz.func23, Tryz.ntmps23
  by_cases hn : la.length = lb.length
  · have hn2 : ((la.length : Int) != lb.length) = false := by simp [hn]
    go_wp2
    go_loopw [5] (fun i wq => ∃ k : Nat, k ≤ la.length ∧ i = .int .i64 k ∧ Hid (Below w.heap.size w wq ∧ ∀ j, j < k → la[j]? = lb[j]?)) (fun i _ => la.length - (intOf i).toNat)
    case atStart => exact ⟨0, Nat.zero_le _, rfl, Below.refl _ _, fun j h => by omega⟩
    case round =>
      obtain ⟨k, hk, rfl, hq⟩ := hrel
      by_cases hlt : k < la.length
      · obtain ⟨x, hx⟩ := get_some hlt
        obtain ⟨y, hy⟩ := get_some (l := lb) (i := k) (by omega)
        obtain ⟨ab, ao, rfl, v1⟩ := (HA.out.ext hq.out.1).elem1 hx
        obtain ⟨bb, bo, rfl, v2⟩ := (HB.out.ext hq.out.1).elem1 hy
        have Hx := Lib.hid hx
        have Hy := Lib.hid hy
        have hkl : (k : Int) < la.length := by omega
        have hkl2 : (k : Int) < lb.length := by omega
        have u1 : wr.cell? ⟨ab, ao + k, none⟩ = some (.string ⟨x.toArray⟩) := v1
        have u2 : wr.cell? ⟨bb, bo + k, none⟩ = some (.string ⟨y.toArray⟩) := v2
        clear hx hy v1 v2
        by_cases hxy : x = y
        · have hne : (x == y) = true := by simpa using hxy
          have Hxy := Lib.hid hxy
          clear hxy
          go_wp2_with fail
          go_quiet (fail)
          go_wp2
          go_roundw
          case rel =>
            refine ⟨k + 1, by omega, by go_num, below_drew hq.out.1 _, fun j hj => ?_⟩
            rcases Nat.lt_or_ge j k with h | h
            · exact hq.out.2 j h
            · obtain rfl : j = k := by omega
              rw [Hx.out, Hy.out, Hxy.out]
          case measure => simp [intOf]; omega
        · have hne : (x == y) = false := by simpa using hxy
          have Hxy := Lib.hid hxy
          clear hxy
          go_wp2_with fail
          go_quiet (fail)
          go_wp2
          go_ret
          exact ⟨_, rfl, below_drew hq.out.1 _, isB_false fun h => Hxy.out (by have := Hx.out; rw [h, Hy.out] at this; simpa using this.symm)⟩
      · obtain rfl : k = la.length := by omega
        go_wp2
        go_ret
        exact ⟨_, rfl, hq.out.1, isB_true (List.ext_getElem? fun i => by rcases Nat.lt_or_ge i la.length with h | h; exact hq.out.2 i h; rw [List.getElem?_eq_none h, List.getElem?_eq_none (by omega)])⟩
  · have hn2 : ((la.length : Int) != lb.length) = true := by simp; omega
    go_wp2
    go_ret
    exact ⟨_, rfl, Below.refl _ _, isB_false fun h => hn (by rw [h])⟩

theorem Tryz.infoInt : (Tryz.prog.info? 3).map (fun i => (i.zero, i.size, i.bytes)) = some (some (.int .i64 0), 1, 8) := by kernel_rfl
/-- rows of numbers -/
def intsV (x : List Int) : List Value := x.map fun n => .int .i64 n
structure TwoR (w wr : World) (a5 a6 : Option Addr) (x5 x6 : List Int) (c5 c6 : Nat) : Prop where
  o5 : Own wr w.heap.size 3 1 a5 x5.length c5 (intsV x5)
  o6 : Own wr w.heap.size 3 1 a6 x6.length c6 (intsV x6)
  ne : blockOf a5 ≠ blockOf a6
  below : Below w.heap.size w wr
  p5 : 0 < x5.length
  p6 : 0 < x6.length
theorem TwoR.push5 {w wr w' : World} {a5 a6 a' : Option Addr} {x5 x6 : List Int} {c5 c6 c' : Nat} (h : TwoR w wr a5 a6 x5 x6 c5 c6) {n : Int} (ho : Own w' w.heap.size 3 1 a' (x5.length + 1) c' (intsV x5 ++ [.int .i64 n])) {o : Obj} (hg : (wr.alloc o).grownBy w' (rowOf a5 c5)) (hb : rowOf a' c' = rowOf a5 c5 ∨ rowOf a' c' = some (wr.alloc o).heap.size) :
    TwoR w w' a' a6 (x5 ++ [n]) x6 c' c6 := by
  have hc5 := h.o5.le
  have hp5 := h.p5
  have hp6 := h.p6
  have hc6 := h.o6.le
  have hc' := ho.le
  rw [rowOf_pos (by omega), rowOf_pos (by omega)] at hb
  rw [rowOf_pos (by omega)] at hg
  refine ⟨by simpa [intsV] using ho, (h.o6.alloc o).kept hg (.inr fun e => h.ne e.symm), ?_, (h.below.alloc h.below.size o).grown hg (by have := h.below.size; simp; omega) (fun k hk => ?_), by simp, hp6⟩
  · rcases hb with hb | hb
    · rw [hb]; exact h.ne
    · rw [hb]; intro e
      have := (h.o6.size (by omega) e.symm).2
      simp at this
      omega
  · exact h.o5.base hk
theorem TwoR.push6 {w wr w' : World} {a5 a6 a' : Option Addr} {x5 x6 : List Int} {c5 c6 c' : Nat} (h : TwoR w wr a5 a6 x5 x6 c5 c6) {n : Int} (ho : Own w' w.heap.size 3 1 a' (x6.length + 1) c' (intsV x6 ++ [.int .i64 n])) {o : Obj} (hg : (wr.alloc o).grownBy w' (rowOf a6 c6)) (hb : rowOf a' c' = rowOf a6 c6 ∨ rowOf a' c' = some (wr.alloc o).heap.size) :
    TwoR w w' a5 a' x5 (x6 ++ [n]) c5 c' := by
  have hc5 := h.o5.le
  have hp5 := h.p5
  have hp6 := h.p6
  have hc6 := h.o6.le
  have hc' := ho.le
  rw [rowOf_pos (by omega), rowOf_pos (by omega)] at hb
  rw [rowOf_pos (by omega)] at hg
  refine ⟨(h.o5.alloc o).kept hg (.inr h.ne), by simpa [intsV] using ho, ?_, (h.below.alloc h.below.size o).grown hg (by have := h.below.size; simp; omega) (fun k hk => ?_), hp5, by simp⟩
  · rcases hb with hb | hb
    · rw [hb]; exact h.ne
    · rw [hb]; intro e
      have := (h.o5.size (by omega) e).2
      simp at this
      omega
  · exact h.o6.base hk
/-- the last number of a row -/
theorem TwoR.last {w wr : World} {a5 a6 : Option Addr} {x5 x6 : List Int} {c5 c6 : Nat} (h : TwoR w wr a5 a6 x5 x6 c5 c6) : ∃ g off m, a6 = some ⟨g, off, none⟩ ∧ wr.cell? ⟨g, off + (x6.length - 1), none⟩ = some (.int .i64 m) := by
  obtain ⟨m, hm⟩ := get_some (l := x6) (i := x6.length - 1) (by have := h.p6; omega)
  obtain ⟨g, off, ha, hc⟩ := h.o6.row.elem1 hm
  exact ⟨g, off, m, ha, hc⟩
theorem valid_at (s : Nm) {k : Nat} (hk : k < s.length) : Lib.validD (s.drop k) = if (headR (s.drop k)).2 = 0 then false else Lib.validD (s.drop (k + (headR (s.drop k)).2)) := by
  rw [headR_valid _ (fun h => by have := congrArg List.length h; simp at this; omega), List.drop_drop]
theorem head_at (s : Nm) {k : Nat} (hk : k < s.length) : k + (headR (s.drop k)).2 ≤ s.length := by
  have := headR_le (s.drop k) (fun h => by have := congrArg List.length h; simp at this; omega)
  rw [List.length_drop] at this; omega

set_option maxHeartbeats 2000000 in
theorem places_any (s : Nm) (w : World) (hs : s.length ≤ 1048576) :
    Calls Tryz.prog 54 #[.string ⟨s.toArray⟩] w (Ret w fun v _ => ∃ x y, v = .tuple #[x, y, .bool (Lib.validD s)]) := by
  obtain ⟨W0, hW0⟩ : ∃ W0, W0 = (w.alloc (.cells #[.int .i64 0] 3)).alloc (.cells #[.int .i64 0] 3) := ⟨_, rfl⟩
  have h0 : TwoR w W0 (some ⟨w.heap.size, 0, none⟩) (some ⟨w.heap.size + 1, 0, none⟩) [0] [0] 1 1 := by
    rw [hW0]
    exact ⟨Own.ofBlock (Nat.le_refl _) (by exact (Blk.new rfl).alloc _) rfl (by decide), Own.ofBlock (Nat.le_succ _) (by exact Blk.new (by simp)) rfl (by decide), by simp [blockOf], (below_a1 w _).alloc (by simp) _, by simp, by simp⟩
  have H0 := Lib.hid h0
  clear h0
  have hsz := size_nm s
  go_enter Tryz.func54, Tryz.ntmps54
  go_upto_region 3 with (fail)
  rw [← hW0]
  clear hW0
  go_wp2_with fail
  go_loopw [2, 3, 4, 5, 6, 7] (fun _ _ _ t5 t6 i wr => ∃ (k : Nat) (a5 a6 : Option Addr) (x5 x6 : List Int) (c5 c6 : Nat), k ≤ s.length ∧ x5.length ≤ k + 1 ∧ x6.length ≤ k + 1 ∧ i = .int .i64 k ∧ t5 = .slice a5 x5.length c5 ∧ t6 = .slice a6 x6.length c6 ∧ Hid (TwoR w wr a5 a6 x5 x6 c5 c6) ∧ Hid (Lib.validD s = Lib.validD (s.drop k))) (fun _ _ _ _ _ i _ => s.length - (intOf i).toNat)
  case atStart => exact ⟨0, _, _, [0], [0], 1, 1, Nat.zero_le _, by simp, by simp, rfl, rfl, rfl, H0, Lib.hid rfl⟩
  case round =>
    obtain ⟨k, a5, a6, x5, x6, c5, c6, hk, hl5, hl6, rfl, rfl, rfl, HT, HV⟩ := hrel
    by_cases hlt : k < s.length
    · have hve := valid_at s hlt
      have hle := head_at s hlt
      have hsc : Calls Tryz.prog 67 #[.string ((⟨s.toArray⟩ : ByteArray).extract k (⟨s.toArray⟩ : ByteArray).size)] wr (fun e w' => ScalR (headR (s.drop k)) e ∧ w' = wr) := by
        rw [ext_from]
        exact scalar_any (⟨(s.drop k).toArray⟩ : ByteArray) wr (by rw [size_nm, List.length_drop]; omega) (by rw [size_nm, List.length_drop]; omega)
      unfold ScalR at hsc
      generalize headR (s.drop k) = p at *
      obtain ⟨p1, p2⟩ := p
      simp only at hve hle hsc
      have HS := Lib.hid hsc
      clear hsc
      go_wp2_with fail
      refine HS.out.mono ?_
      rintro e w' ⟨rfl, rfl⟩
      have HT2 : Hid (∃ g off m, a6 = some ⟨g, off, none⟩ ∧ w'.cell? ⟨g, off + (x6.length - 1), none⟩ = some (.int .i64 m)) := Lib.hid HT.out.last
      by_cases hp : p2 = 0
      · subst hp
        have hv : Lib.validD s = false := by rw [HV.out, hve, if_pos rfl]
        clear hve
        go_wp2
        exact bodyPost_ret (by simp [results, Tryz.results54, go_sem]; rfl) rfl ⟨_, rfl, HT.out.below, _, _, by rw [hv]⟩
      · have hpi : ((p2 : Int) == 0) = false := by simpa using hp
        have HV2 : Hid (Lib.validD s = Lib.validD (s.drop (k + p2))) := Lib.hid (by rw [HV.out, hve, if_neg hp])
        clear hve HV
        have hp5 := HT.out.p5
        have hp6 := HT.out.p6
        have h1i : ((x6.length : Int) - 1) = ((x6.length - 1 : Nat) : Int) := by omega
        clear HS
        generalize (p1 : Int) = q at *
        by_cases hb : (65536 : Int) ≤ q
        · go_wp2_with (first | (at_builtin; refine wpList_append_Own rfl _ _ 85 rfl w.heap.size 3 _ 1 8 Tryz.underlying85 Tryz.infoInt rfl (by decide) a5 x5.length c5 _ rfl (by exact HT.out.o5.alloc _) _ 1 1 [.int .i64 ((k : Int) + p2)] rfl (Row.new1 (by simp) rfl rfl) (by intro u hu; simp at hu; subst hu; rfl) (by unfold maxLen; omega) (by omega) (by have := HT.out.below.size; simp; omega) ?_; intro a5' c5' w5 ho5 hg5 hb5; have ht5 := HT.out.push5 ho5 hg5 hb5; obtain ⟨g, off, m, ha6, hm⟩ := ht5.last; subst ha6; have HT5 := Lib.hid ht5; clear ht5 ho5 hg5 hb5) | (at_builtin; refine wpList_append_Own rfl _ _ 85 rfl w.heap.size 3 _ 1 8 Tryz.underlying85 Tryz.infoInt rfl (by decide) (some ⟨g, off, none⟩) x6.length c6 _ rfl (by exact HT5.out.o6.alloc _) _ 1 1 [.int .i64 (wrap64 (m + 2))] rfl (Row.new1 (by simp) rfl rfl) (by intro u hu; simp at hu; subst hu; rfl) (by unfold maxLen; omega) (by omega) (by have := HT5.out.below.size; simp; omega) ?_; intro a6' c6' w6 ho6 hg6 hb6; have HT6 := Lib.hid (HT5.out.push6 ho6 hg6 hb6); clear ho6 hg6 hb6))
          go_roundw
          case rel => exact ⟨k + p2, a5', a6', _, _, c5', c6', hle, by simp; omega, by simp; omega, by go_num, by simp, by simp, HT6, HV2⟩
          case measure => simp [intOf]; omega
        · have hbi : q < (65536 : Int) := by omega
          clear hb
          go_wp2_with (first | (at_builtin; refine wpList_append_Own rfl _ _ 85 rfl w.heap.size 3 _ 1 8 Tryz.underlying85 Tryz.infoInt rfl (by decide) a5 x5.length c5 _ rfl (by exact HT.out.o5.alloc _) _ 1 1 [.int .i64 ((k : Int) + p2)] rfl (Row.new1 (by simp) rfl rfl) (by intro u hu; simp at hu; subst hu; rfl) (by unfold maxLen; omega) (by omega) (by have := HT.out.below.size; simp; omega) ?_; intro a5' c5' w5 ho5 hg5 hb5; have ht5 := HT.out.push5 ho5 hg5 hb5; obtain ⟨g, off, m, ha6, hm⟩ := ht5.last; subst ha6; have HT5 := Lib.hid ht5; clear ht5 ho5 hg5 hb5) | (at_builtin; refine wpList_append_Own rfl _ _ 85 rfl w.heap.size 3 _ 1 8 Tryz.underlying85 Tryz.infoInt rfl (by decide) (some ⟨g, off, none⟩) x6.length c6 _ rfl (by exact HT5.out.o6.alloc _) _ 1 1 [.int .i64 (wrap64 (m + 1))] rfl (Row.new1 (by simp) rfl rfl) (by intro u hu; simp at hu; subst hu; rfl) (by unfold maxLen; omega) (by omega) (by have := HT5.out.below.size; simp; omega) ?_; intro a6' c6' w6 ho6 hg6 hb6; have HT6 := Lib.hid (HT5.out.push6 ho6 hg6 hb6); clear ho6 hg6 hb6))
          go_roundw
          case rel => exact ⟨k + p2, a5', a6', _, _, c5', c6', hle, by simp; omega, by simp; omega, by go_num, by simp, by simp, HT6, HV2⟩
          case measure => simp [intOf]; omega
    · obtain rfl : k = s.length := by omega
      have hv : Lib.validD s = true := by rw [HV.out, List.drop_length]; rfl
      go_wp2
      exact bodyPost_ret (by simp [results, Tryz.results54, go_sem]; rfl) rfl ⟨_, rfl, HT.out.below, _, _, by rw [hv]⟩

theorem ref_right_any (s : Nm) (w : World) (hs : s.length ≤ 1048576) :
    Calls Tryz.prog 41 #[.string ⟨s.toArray⟩] w (fun e w' => e = .returned (.bool (Lib.validD s)) ∧ Below w.heap.size w w') := by
  have h1 := places_any s w hs
  have H1 := Lib.hid h1
  clear h1
  go_enter Tryz.func41, Tryz.ntmps41
  go_wp2_with fail
  refine H1.out.mono ?_
  rintro e w1 ⟨v, rfl, hb, x, y, rfl⟩
  go_wp2
  exact bodyPost_ret (by simp [results, Tryz.results41, go_sem]) rfl ⟨rfl, hb⟩
end Go.Proofs.YtahiopjplfnlmaaGreatDoor
