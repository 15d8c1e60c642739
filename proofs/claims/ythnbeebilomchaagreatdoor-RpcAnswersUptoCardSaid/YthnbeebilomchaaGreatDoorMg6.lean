/- RpcAnswers, where what it reads is of bulk at most 1048576: the law answers true, and its arguments read as they did. Conditions: none but what the card ties. Ahead of it: rpc.Write: walked. The live question of layer 4: walked. The document's Fail: walked. rpc.Reply, with what its rows are: walked. A value is copied into the program's type; walked. A value is copied into the document's type; walked. RpcAnswers: the law, walked. From the row's condition on the package-level variables to what the walks ask. -/
import Derived.Test.YthnbeebilomchaaGreatDoorMg5
import Derived.Deep.CutRange
import Derived.Test.YthnbeebilomchaaGreatDoorMg3
import Derived.Deep.RegionHeld3
import Derived.Test.YthnbeebilomchaaGreatDoorMg1
import Derived.Test.YthnbeebilomchaaGreatDoorRows
import Derived.Lib.LaidU8T
import Derived.ProofKit
import Derived.OpenShut
import Derived.LaidMore
import Derived.Lay
import Derived.Stop.Joined
import Derived.Stop.LaidErr
import Derived.Lib.LaidTab
import Derived.Test.YthnbeebilomchaaGreatDoorTie
import Derived.Test.YthnbeebilomchaaGreatDoorCards
import Derived.SevenTiedAt
import Derived.Deep.DeepHandedRow
namespace Go.Proofs.YthnbeebilomchaaGreatDoor
open Go Go.RowKit

theorem params_any (P : Nat → Prop) (c : CD) (w : World) (hP : ∀ g, w.heap.size ≤ g → P g) (h4 : 4 ≤ c.kind) (h9 : c.kind ≤ 9) (hc : ValAt w P c.other) (hrow : Row w 6 c.a c.changes.length (c.changes.flatMap E.cells)) (hn : c.changes.length ≤ 1048576) :
    Calls Tryz.prog 31 #[.agg (cdC c)] w (DocP w P (paramsW c.k)) := by
  rcases (show c.kind = 4 ∨ c.kind = 5 ∨ c.kind = 6 ∨ c.kind = 7 ∨ c.kind = 8 ∨ c.kind = 9 by omega) with h | h | h | h | h | h
  · exact params_4 P c w hP h hc
  · exact params_5 P c w hP h hc hrow hn
  · exact params_6 P c w hP h hc
  · exact params_7 P c w hP h hc
  · exact params_8 P c w hP h hc
  · exact params_9 P c w hP h hc
theorem same_k {a b : CD} (ha : 0 ≤ a.kind) (hb : 0 ≤ b.kind) : SameP a b ↔ a.k = b.k := by
  unfold SameP CD.k
  rw [C.mk.injEq]
  have e : a.kind.toNat = b.kind.toNat ↔ a.kind = b.kind := by omega
  rw [e]
  constructor
  · rintro ⟨h1, h2, h3, h4, h5, h6, ⟨h7, h8⟩, h9⟩; exact ⟨h1, h2, h3, h4, h5, h6, h7, h8, h9⟩
  · rintro ⟨h1, h2, h3, h4, h5, h6, h7, h8, h9⟩; exact ⟨h1, h2, h3, h4, h5, h6, ⟨h7, h8⟩, h9⟩
/-- a call is one that is written -/
def wrOk (c : CD) : Prop := 1 ≤ c.kind ∧ c.kind ≤ 9 ∧ readC (msgW c.k) = (0, c.k)
/-- what a call is written to -/
def WriE (w : World) (c : CD) (e : Ending) (w' : World) : Prop := ∃ (d : VD) (n : Int), e = .returned (.tuple #[.agg #[.int .i64 d.sort, .bool d.on, .int .i64 d.n, .string ⟨d.text.toArray⟩, .slice d.a d.list.length d.c, .slice d.ka d.keys.length d.kc], .int .i64 n]) ∧ (wrOk c → n = 0 ∧ d.v = msgW c.k) ∧ (¬ wrOk c → n = 42 ∧ d.v = .null) ∧ ValAt w' (fun _ => True) d ∧ Below w.heap.size w w'
theorem null_size (v : V) : sizeV V.null ≤ sizeV v := by cases v; simp [V.null, sizeV, sizesV]; omega
theorem getD_size (v : V) (p : List Nm) : sizeV ((getV v p).getD .null) ≤ sizeV v := by
  cases h : getV v p with
  | none => exact null_size v
  | some y => exact getV_size p h
theorem chsL_len : ∀ {l : List V} {m : List E}, chsL l = some m → m.length = l.length
  | [], m, h => by rw [chsL] at h; cases h; rfl
  | v :: l, m, h => by
    rw [chsL] at h
    cases ha : chL v with
    | none => rw [ha] at h; cases h
    | some e =>
      rw [ha, Option.bind_some] at h
      cases hb : chsL l with
      | none => rw [hb] at h; cases h
      | some m' => rw [hb] at h; cases h; simp [chsL_len hb]
/-- what a message is read to is no greater than it -/
theorem tell_size {k : Nat} {x p : V} {y : C} (h : tellL k x p = some y) : y.id = x ∧ sizeV y.other ≤ sizeV p ∧ y.changes.length ≤ sizeV p := by
  refine ⟨(tell_kind h).2, ?_⟩
  have hz : sizeV V.null ≤ sizeV p := null_size p
  have h0 : ([] : List E).length ≤ sizeV p := Nat.zero_le _
  unfold tellL at h
  split at h
  · cases h; exact ⟨hz, h0⟩
  split at h
  · split at h
    · rename_i y' hy
      split at h
      · cases h; exact ⟨getV_size _ hy, h0⟩
      · cases h
    · cases h
  cases hn : gText p [kDoc, kUri] with
  | none => rw [hn] at h; cases h
  | some name =>
    rw [hn, Option.bind_some] at h
    split at h
    · cases ha : gNum p [kDoc, kVersion] with
      | none => rw [ha] at h; cases h
      | some a =>
        rw [ha, Option.bind_some] at h
        cases hb : gText p [kDoc, kText] with
        | none => rw [hb] at h; cases h
        | some b => rw [hb] at h; cases h; exact ⟨hz, h0⟩
    split at h
    · cases ha : gNum p [kDoc, kVersion] with
      | none => rw [ha] at h; cases h
      | some a =>
        rw [ha, Option.bind_some, gList_S] at h
        cases hg : getS p 4 [kChanges] with
        | none => rw [hg] at h; cases h
        | some z =>
          rw [hg, Option.map_some, Option.bind_some] at h
          cases hb : chsL z.list with
          | none => rw [hb] at h; cases h
          | some b =>
            rw [hb] at h; cases h
            refine ⟨hz, ?_⟩
            show b.length ≤ _
            rw [chsL_len hb]
            have h1 := list_len z
            have h2 := getS_size (v := p) (s := 4) (p := [kChanges])
            rw [hg] at h2
            exact Nat.le_trans h1 h2
    split at h
    · cases ha : gPlace p [kPosition] with
      | none => rw [ha] at h; cases h
      | some a => rw [ha] at h; cases h; exact ⟨hz, h0⟩
    · cases h; exact ⟨hz, h0⟩
theorem readC_size {v : V} {y : C} (h : readC v = (0, y)) : sizeV y.id ≤ sizeV v ∧ sizeV y.other ≤ sizeV v ∧ y.changes.length ≤ sizeV v := by
  unfold readC at h
  split at h
  · split at h
    · cases h
    · split at h
      · cases h
      · split at h
        · cases h
        · split at h
          · cases h
          · rename_i c' ht
            cases h
            obtain ⟨h1, h2, h3⟩ := tell_size ht
            have hp := getD_size v [kParams]
            exact ⟨by rw [h1]; exact getD_size v [kId], Nat.le_trans h2 hp, Nat.le_trans h3 hp⟩
  · cases h
/-- what stands between two steps -/
structure WrS (w : World) (c : CD) (W : World) : Prop where
  below : Below w.heap.size w W
  cblk : Blk W w.heap.size (cdC c) 43
  rblk : Blk W (w.heap.size + 1) #[.int .i64 0, .bool false, .int .i64 0, .string { data := #[] }, .slice none 0 0, .slice none 0 0] 36
  cat : CallP W (fun g => g < w.heap.size) c
theorem WrS.ext {w : World} {c : CD} {W W' : World} (h : WrS w c W) (hb : Below W.heap.size W W') : WrS w c W' := ⟨h.below.trans (hb.mono h.below.size), h.cblk.ext hb, h.rblk.ext hb, ⟨h.cat.id.ext hb, h.cat.other.ext hb, h.cat.row.ext hb, h.cat.blk⟩⟩
theorem WrS.grow {w : World} {c : CD} {W W' : World} (h : WrS w c W) {row : Option Nat} (hg : W.grownBy W' row) (hr : ∀ k, row = some k → w.heap.size + 2 ≤ k) : WrS w c W' := by
  have hlo : ∀ k, k < w.heap.size + 2 → some k ≠ row := fun k hk e => by have := hr k e.symm; omega
  exact ⟨⟨hg.os.trans h.below.os, hg.tape.trans h.below.tape, hg.output.trans h.below.output, Nat.le_trans h.below.size hg.size, fun k hk => (hg.block k (by have := h.below.size; omega) (hlo k (by omega))).trans (h.below.block k hk)⟩, h.cblk.grown hg (hlo _ (by omega)), h.rblk.grown hg (hlo _ (by omega)),
    ⟨h.cat.id.congr fun g h1 h2 => hg.block g h2 (hlo g (by omega)), h.cat.other.congr fun g h1 h2 => hg.block g h2 (hlo g (by omega)), h.cat.row.congr fun g h0 h1 h2 => hg.block g h2 (hlo g (by have := h.cat.blk g (Nat.pos_of_mul_pos_right h0) h1; omega)), h.cat.blk⟩⟩
theorem WrS.sz {w : World} {c : CD} {W : World} (h : WrS w c W) : w.heap.size + 2 ≤ W.heap.size := h.rblk.lt
/-- a message's members -/
def msgL (c : C) : List (Nm × V) := (kJson, strW v20) :: ((if c.id.sort = 0 then [] else [(kId, c.id)]) ++ (kMethod, strW (methodN c.kind)) :: if 3 < c.kind then [(kParams, paramsW c)] else [])
theorem msg_map {c : CD} {L1 L : List Pt} {mn : Nm} {kd : Int} (h1 : L1 = (kJson, strD v20) :: (if c.id.sort = 0 then [] else [(kId, c.id)])) (hm : mn = methodN kd.toNat) (hk : kd = c.kind) (h : L.map (fun p => (p.1, p.2.v)) = if 3 < c.kind then [(kParams, paramsW c.k)] else []) :
    ((L1 ++ [(kMethod, strD mn)]) ++ L).map (fun p => (p.1, p.2.v)) = msgL c.k := by
  rw [List.map_append, h, h1, hm, hk]
  have e : (3 < c.kind) = (3 < c.k.kind) := by unfold CD.k; simp only [eq_iff_iff]; omega
  have e2 : (c.id.sort = 0) = (c.k.id.sort = 0) := by unfold CD.k; cases hd : c.id; rfl
  simp only [e, e2]
  unfold msgL
  split <;> split <;> rfl
theorem msg_vals {W : World} {P : Nat → Prop} {c : CD} {L1 : List Pt} {mn : Nm} (h1 : L1 = (kJson, strD v20) :: (if c.id.sort = 0 then [] else [(kId, c.id)])) (h : ValAt W P c.id) : ∀ p ∈ L1 ++ [(kMethod, strD mn)], ValAt W P p.2 := by
  intro p hp
  rw [h1] at hp
  split at hp
  · simp only [List.cons_append, List.nil_append, List.mem_cons, List.mem_nil_iff, or_false] at hp
    rcases hp with rfl | rfl
    · exact .leaf
    · exact .leaf
  · simp only [List.cons_append, List.nil_append, List.mem_cons, List.mem_nil_iff, or_false] at hp
    rcases hp with rfl | rfl | rfl
    · exact .leaf
    · exact h
    · exact .leaf
theorem msg_len {c : C} {L : List Pt} (h : L.map (fun p => (p.1, p.2.v)) = msgL c) : L.length ≤ 1000 := by
  have := congrArg List.length h
  rw [List.length_map] at this
  rw [this]
  unfold msgL
  split <;> split <;> simp
theorem load_call_g {ops : Array Oper} {rest : List Oper} {o : Oper} {a : Act} {w : World} {Q : Exit → Act → World → Prop} (hw : Region.wanted o (yielded ops a.tmps) = true) (x : Operand) (ho : o.op = .load 43 x) (g : Nat) (hx : a.eval x = .pointer (some ⟨g, 0, none⟩)) (c : CD) (hg : Blk w g (cdC c) 43)
    (h : wpList Tryz.prog ops Q rest (a.put o.dst (.agg (cdC c))) w) : wpList Tryz.prog ops Q (o :: rest) a w := by
  obtain ⟨fs, h1⟩ := call_under
  exact wpList_step fun K hK => by rw [if_pos hw]; exact wp_load_row _ x ho g hx _ _ _ _ hg h1 rfl call_size (hK _ _ h)
theorem index_method_at (k : Int) (h1 : 1 ≤ k) (h9 : k ≤ 9) (w : World) : Sem.run Tryz.prog (Instr.index 76 (.agg #[.string { data := #[] }, .string { data := #[105, 110, 105, 116, 105, 97, 108, 105, 122, 101] }, .string { data := #[115, 104, 117, 116, 100, 111, 119, 110] }, .string { data := #[101, 120, 105, 116] }, .string { data := #[116, 101, 120, 116, 68, 111, 99, 117, 109, 101, 110, 116, 47, 100, 105, 100, 79, 112, 101, 110] }, .string { data := #[116, 101, 120, 116, 68, 111, 99, 117, 109, 101, 110, 116, 47, 100, 105, 100, 67, 104, 97, 110, 103, 101] }, .string { data := #[116, 101, 120, 116, 68, 111, 99, 117, 109, 101, 110, 116, 47, 100, 105, 100, 67, 108, 111, 115, 101] }, .string { data := #[116, 101, 120, 116, 68, 111, 99, 117, 109, 101, 110, 116, 47, 104, 111, 118, 101, 114] }, .string { data := #[116, 101, 120, 116, 68, 111, 99, 117, 109, 101, 110, 116, 47, 100, 105, 97, 103, 110, 111, 115, 116, 105, 99] }, .string { data := #[36, 47, 99, 97, 110, 99, 101, 108, 82, 101, 113, 117, 101, 115, 116] }]) (.int .i64 k)) w = .ok (.string ⟨(methodN k.toNat).toArray⟩) w := by
  rcases (show k = 1 ∨ k = 2 ∨ k = 3 ∨ k = 4 ∨ k = 5 ∨ k = 6 ∨ k = 7 ∨ k = 8 ∨ k = 9 by omega) with rfl | rfl | rfl | rfl | rfl | rfl | rfl | rfl | rfl <;> kernel_rfl
theorem write_end {W : World} {tm : Array Value} {R : Ending → World → Prop} {g : Nat} {u0 u1 u2 u3 u4 u5 : Value} (h2 : tm.getD 2 undef = .pointer (some ⟨g, 0, none⟩)) {q : Int} (h3 : tm.getD 3 undef = .int .i64 q) (hB : Blk W g #[u0, u1, u2, u3, u4, u5] 36)
    (hR : R (.returned (.tuple #[.agg #[u0, u1, u2, u3, u4, u5], .int .i64 q])) W) : bodyPost Tryz.prog Tryz.f8 R .ret { tmps := tm, defers := [] } W := by
  have d0 := hB.cell 0
  have d1 := hB.cell 1
  have d2 := hB.cell 2
  have d3 := hB.cell 3
  have d4 := hB.cell 4
  have d5 := hB.cell 5
  simp only [List.getElem?_toArray, List.getElem?_cons_zero, List.getElem?_cons_succ] at d0 d1 d2 d3 d4 d5
  rw [Array.getD_eq_getD_getElem?] at h2 h3
  refine bodyPost_ret (v := .tuple #[.agg #[u0, u1, u2, u3, u4, u5], .int .i64 q]) ?_ rfl hR
  simp [results, Tryz.results8, go_sem, h2, h3, d0, d1, d2, d3, d4, d5]
theorem WrS.none {w : World} {c : CD} {W : World} (h : WrS w c W) (hn : ¬ wrOk c) : WriE w c (.returned (.tuple #[.agg #[.int .i64 0, .bool false, .int .i64 0, .string { data := #[] }, .slice none 0 0, .slice none 0 0], .int .i64 42])) (put6 W (w.heap.size + 1) 0 (.int .i64 0) (.bool false) (.int .i64 0) (.string { data := #[] }) (.slice none 0 0) (.slice none 0 0)) :=
  ⟨zeroD, 42, rfl, fun h => absurd h hn, fun _ => ⟨rfl, rfl⟩, .leaf, put6_below h.below (by omega)⟩
set_option maxHeartbeats 4000000 in
set_option maxRecDepth 20000 in
theorem write_call (c : CD) (w : World) (hc : CallAt w c) (hs : sizeV (msgW c.k) ≤ 1048576) (hs1 : sizeV c.id.v ≤ 1048576) (hs2 : sizeV c.other.v ≤ 1048576) (hn : c.changes.length ≤ 1048576) : Calls Tryz.prog 8 #[.agg (cdC c)] w (WriE w c) := by
  obtain ⟨W0, hW0⟩ : ∃ W0, W0 = (w.alloc (.cells (cdC c) 43)).alloc (.cells #[.int .i64 0, .bool false, .int .i64 0, .string { data := #[] }, .slice none 0 0, .slice none 0 0] 36) := ⟨_, rfl⟩
  have hb0 : Below w.heap.size w W0 := by rw [hW0]; exact (below_a1 w _).alloc (by simp) _
  have hcp : CallP w (fun g => g < w.heap.size) c := ⟨hc.id.mono fun _ _ h => h, hc.other.mono fun _ _ h => h, hc.row, fun g h1 h2 => hc.row.lt (by omega) h2⟩
  have HS : Hid (WrS w c W0) := Lib.hid ⟨hb0, by rw [hW0]; exact (Blk.new rfl).alloc _, by rw [hW0]; exact Blk.new (by simp), ⟨hcp.id.ext hb0, hcp.other.ext hb0, hcp.row.ext hb0, hcp.blk⟩⟩
  have HSM := Lib.hid hs
  have HSI := Lib.hid hs1
  have HSO := Lib.hid hs2
  have HNC := Lib.hid hn
  clear hc hcp hs hs1 hs2 hn hb0
  go_enter Tryz.func8, Tryz.ntmps8
  go_upto_region 1 with (fail)
  rw [← hW0]
  clear hW0
  obtain ⟨kd, hkd⟩ : ∃ q, q = c.kind := ⟨_, rfl⟩
  have c0 : W0.cell? ⟨w.heap.size, 0, none⟩ = some (.int .i64 kd) := by rw [hkd]; exact HS.out.cblk.cell 0
  have HKD := Lib.hid hkd
  clear hkd
  by_cases hr : 1 ≤ kd
  case neg =>
    have d1 : decide (kd ≤ 0) = true := by simp; omega
    have HN : Hid (¬ wrOk c) := Lib.hid (fun h => by have := h.1; rw [← HKD.out] at this; exact hr this)
    have f0 := HS.out.rblk.free 0
    have f1 := HS.out.rblk.free 1
    have f2 := HS.out.rblk.free 2
    have f3 := HS.out.rblk.free 3
    have f4 := HS.out.rblk.free 4
    have f5 := HS.out.rblk.free 5
    obtain ⟨z0, z1, z2, z3, z4, z5⟩ := HS.out.rblk.sixT
    clear hr
    go_wp2
    exact write_end (g := w.heap.size + 1) rfl rfl (store6 HS.out.rblk) (HS.out.none HN.out)
  by_cases hr2 : kd ≤ 9
  case neg =>
    have d1 : decide (kd ≤ 0) = false := by simp; omega
    have d2 : decide (10 ≤ kd) = true := by simp; omega
    have HN : Hid (¬ wrOk c) := Lib.hid (fun h => by have := h.2.1; rw [← HKD.out] at this; exact hr2 this)
    have f0 := HS.out.rblk.free 0
    have f1 := HS.out.rblk.free 1
    have f2 := HS.out.rblk.free 2
    have f3 := HS.out.rblk.free 3
    have f4 := HS.out.rblk.free 4
    have f5 := HS.out.rblk.free 5
    obtain ⟨z0, z1, z2, z3, z4, z5⟩ := HS.out.rblk.sixT
    clear hr hr2
    go_wp2
    exact write_end (g := w.heap.size + 1) rfl rfl (store6 HS.out.rblk) (HS.out.none HN.out)
  have d1 : decide (kd ≤ 0) = false := by simp; omega
  have d2 : decide (10 ≤ kd) = false := by simp; omega
  have HRG := Lib.hid (And.intro hr hr2)
  clear hr hr2
  go_wp2_with fail
  clear d1 d2 c0
  refine (str_any v20 W0).mono ?_
  rintro e w1 ⟨rfl, hb⟩
  have HSn := Lib.hid (HS.out.ext hb)
  clear hb HS
  have HS := HSn
  clear HSn
  obtain ⟨g0, hg0⟩ : ∃ g0, g0 = w1.heap.size := ⟨_, rfl⟩
  obtain ⟨w2, hw2⟩ : ∃ w2, w2 = w1.alloc (.cells ([(kJson, strD v20)].flatMap ptC).toArray 74) := ⟨_, rfl⟩
  have hb : Below w1.heap.size w1 w2 := by rw [hw2]; exact below_a1 _ _
  have HPg0 : Hid (PtsAt w2 (fun g => g ≠ w.heap.size + 1) (some ⟨g0, 0, none⟩) [(kJson, strD v20)]) := Lib.hid ⟨by rw [hw2, hg0]; exact row_blk (Blk.new rfl) (flat_length ptC 7 ptC_len _), fun p hp => by
    simp only [List.mem_cons, List.mem_nil_iff, or_false] at hp
    rcases hp with rfl
    exact .leaf⟩
  have HOg0 : Hid (Own w2 (w.heap.size + 2) 74 7 (some ⟨g0, 0, none⟩) [(kJson, strD v20)].length [(kJson, strD v20)].length ([(kJson, strD v20)].flatMap ptC)) := Lib.hid (by have := HS.out.sz; rw [hw2, hg0]; exact own_blk (cs := ([(kJson, strD v20)].flatMap ptC).toArray) (Blk.new rfl) (by omega) (by rw [List.size_toArray]; exact flat_length ptC 7 ptC_len _) (by simp [maxLen]))
  have HSn := Lib.hid (HS.out.ext hb)
  clear hb HS
  have HS := HSn
  clear HSn
  simp only [List.flatMap_cons, List.flatMap_nil] at hw2
  try simp only [ptC_str] at hw2
  try simp only [ptC_num] at hw2
  try simp only [ptC_of] at hw2
  try simp only [List.cons_append, List.nil_append] at hw2
  simp only [List.append_nil, kJson] at hw2
  have c1 := HS.out.cblk.cell 1
  unfold cdC at c1
  simp only [List.getElem?_toArray, List.getElem?_cons_zero, List.getElem?_cons_succ] at c1
  rw [hw2] at c1
  go_upto_if 23 with (fail)
  rw [← hw2, ← hg0]
  clear hw2 hg0 c1
  obtain ⟨L1, hL1⟩ : ∃ L : List Pt, L = (kJson, strD v20) :: (if c.id.sort = 0 then [] else [(kId, c.id)]) := ⟨_, rfl⟩
  have HL1 := Lib.hid hL1
  clear hL1
  go_cut [4] from 23 to 29 (fun l W => ∃ a n, l = .slice a L1.length n ∧ Hid (Own W (w.heap.size + 2) 74 7 a L1.length n (L1.flatMap ptC)) ∧ Hid (WrS w c W))
  case first =>
    by_cases hz : c.id.sort = 0
    case pos =>
      have hzb : (c.id.sort != 0) = false := by simpa using hz
      have HLE : Hid (L1 = [(kJson, strD v20)]) := Lib.hid (by rw [HL1.out, if_pos hz])
      clear hz
      go_wp2
      go_meet
      exact ⟨some ⟨g0, 0, none⟩, 1, by rw [HLE.out]; rfl, Lib.hid (by rw [HLE.out]; exact HOg0.out), HS⟩
    case neg =>
      have hzb : (c.id.sort != 0) = true := by simpa using hz
      have HLE : Hid (L1 = [(kJson, strD v20), (kId, c.id)]) := Lib.hid (by rw [HL1.out, if_neg hz])
      clear hz
      have c1 := HS.out.cblk.cell 1
      have c2 := HS.out.cblk.cell 2
      have c3 := HS.out.cblk.cell 3
      have c4 := HS.out.cblk.cell 4
      have c5 := HS.out.cblk.cell 5
      have c6 := HS.out.cblk.cell 6
      unfold cdC at c1 c2 c3 c4 c5 c6
      simp only [List.getElem?_toArray, List.getElem?_cons_zero, List.getElem?_cons_succ] at c1 c2 c3 c4 c5 c6
      go_wp2_with (at_builtin; refine wpList_append_Own rfl _ _ 75 rfl (w.heap.size + 2) 74 _ 7 104 Tryz.underlying75 Tryz.infoPart rfl (by decide) (some ⟨g0, 0, none⟩) 1 1 _ rfl (HOg0.out.alloc _) _ 1 1 [.string ⟨kId.toArray⟩, .int .i64 c.id.sort, .bool c.id.on, .int .i64 c.id.n, .string ⟨c.id.text.toArray⟩, .slice c.id.a c.id.list.length c.id.c, .slice c.id.ka c.id.keys.length c.id.kc] rfl (Row.new1 (by simp) rfl rfl) (by intro u hu; simp at hu; rcases hu with rfl | rfl | rfl | rfl | rfl | rfl | rfl <;> rfl) (by simp [maxLen]) (by simp) (by have := HS.out.sz; simp; omega) ?_; intro a7 c7 w4 ho7 hg7 hb7)
      have HSn := Lib.hid ((HS.out.ext (below_a1 _ _)).grow hg7 (HOg0.out.rowBase (Nat.le_refl _)))
      have HO7 : Hid (Own w4 (w.heap.size + 2) 74 7 a7 L1.length c7 (L1.flatMap ptC)) := Lib.hid (by rw [HLE.out]; simp only [List.flatMap_cons, List.flatMap_nil, ptC_of, List.append_nil]; exact ho7)
      clear HS ho7 hg7 hb7 c1 c2 c3 c4 c5 c6
      go_meet
      exact ⟨a7, c7, by rw [HLE.out]; rfl, HO7, HSn⟩
  case rest =>
    obtain ⟨a1, n1, rfl, HO1, HS1⟩ := hcut
    clear HS HPg0 HOg0
    have HS := HS1
    clear HS1
    have HKS : Hid (∀ W, WrS w c W → W.cell? ⟨w.heap.size, 0, none⟩ = some (.int .i64 kd)) := Lib.hid fun W h => by rw [HKD.out]; exact h.cblk.cell 0
    have HLN : Hid (L1.length ≤ 2) := Lib.hid (by rw [HL1.out]; split <;> simp)
    obtain ⟨mn, hmn⟩ : ∃ q, q = methodN kd.toNat := ⟨_, rfl⟩
    have HMN := Lib.hid hmn
    have HIX : Hid (∀ W : World, Sem.run Tryz.prog (Instr.index 76 (.agg methodVs.toArray) (.int .i64 kd)) W = .ok (.string ⟨mn.toArray⟩) W) := Lib.hid (by rw [hmn]; exact index_method_at kd HRG.out.1 HRG.out.2)
    clear hmn
    go_upto_region 6 with (fail)
    obtain ⟨Wd, hWd⟩ : ∃ Wd, Wd = wc.drew := ⟨_, rfl⟩
    have hb : Below wc.heap.size wc Wd := by rw [hWd]; exact (Below.refl _ _).drew
    have HSn := Lib.hid (HS.out.ext hb)
    have HO1n := Lib.hid (HO1.out.ext hb)
    clear HO1
    have HO1 := HO1n
    clear HO1n
    clear hb HS
    have HS := HSn
    clear HSn
    refine wp_region_held_drew (S := (fun w' => w'.cell? ⟨w.heap.size, 0, none⟩ = some (.int .i64 kd))) (by kernel_rfl) ?_ (fun hHeld => ?_)
    · rw [← hWd]; exact HKS.out _ HS.out
    rw [← hWd] at hHeld ⊢
    clear hWd
    refine wpAnyH_take (i := 0) (oi := ⟨some 30, _, _, _, _, _⟩) (v := ?_) rfl (by kernel_rfl) (by kernel_rfl) (by kernel_rfl) (fun _ _ _ h => h) (Or.inl ⟨by rfl, ?_⟩) (by assumption) ?_; rotate_left; focus (intro w hSw; (try dsimp only at hSw); first | (go_simp; done) | (go_simp; with_reducible rfl))
    try simp only [Act.put]
    try simp only [List.setIfInBounds_toArray]
    try simp only [List.set_cons_succ, List.set_cons_zero]
    refine wpAnyH_take (i := 2) (oi := ⟨some 32, _, _, _, _, _⟩) (v := ?_) rfl (by kernel_rfl) (by kernel_rfl) (by kernel_rfl) (fun _ _ _ h => h) (Or.inl ⟨by rfl, ?_⟩) (by assumption) ?_; rotate_left; focus (intro w hSw; (try dsimp only at hSw); first | (go_simp; done) | (go_simp; with_reducible rfl))
    try simp only [Act.put]
    try simp only [List.setIfInBounds_toArray]
    try simp only [List.set_cons_succ, List.set_cons_zero]
    refine wpAnyH_take (i := 3) (oi := ⟨some 33, _, _, _, _, _⟩) (v := ?_) rfl (by kernel_rfl) (by kernel_rfl) (by kernel_rfl) (fun _ _ _ h => h) (Or.inl ⟨by rfl, ?_⟩) (by assumption) ?_; rotate_left; focus (intro w hSw; (try dsimp only at hSw); first | (go_simp; done) | (go_simp; with_reducible rfl))
    try simp only [Act.put]
    try simp only [List.setIfInBounds_toArray]
    try simp only [List.set_cons_succ, List.set_cons_zero]
    refine wpAnyH_ready (rs := [1]) (by kernel_rfl) (by simp) ?_
    refine AllReadyH.cons (i := 1) (o := ⟨some 31, _, _, _, _, _⟩) rfl (fun K hK => ?_) ?_
    · go_simp
      refine (methods_any _).mono ?_
      rintro e wm ⟨rfl, hb⟩
      have HSn := Lib.hid (HS.out.ext hb)
      have HO1n := Lib.hid (HO1.out.ext hb)
      clear HO1
      have HO1 := HO1n
      clear HO1n
      clear hb HS
      have HS := HSn
      clear HSn
      refine hK.out _ _ ?_ (fun hHeld => ?_)
      · exact HKS.out _ HS.out
      try simp only [Act.put]
      try simp only [List.setIfInBounds_toArray]
      try simp only [List.set_cons_succ, List.set_cons_zero]
      refine wpAnyH_take (i := 4) (oi := ⟨some 34, _, _, _, _, _⟩) (v := ?_) rfl (by kernel_rfl) (by kernel_rfl) (by kernel_rfl) (fun _ _ _ h => h) (Or.inl ⟨by rfl, ?_⟩) (by assumption) ?_; rotate_left; focus (intro w hSw; (try dsimp only at hSw); go_simp; rw [HIX.out]; rfl)
      try simp only [Act.put]
      try simp only [List.setIfInBounds_toArray]
      try simp only [List.set_cons_succ, List.set_cons_zero]
      refine wpAnyH_ready (rs := [5]) (by kernel_rfl) (by simp) ?_
      refine AllReadyH.cons (i := 5) (o := ⟨some 35, _, _, _, _, _⟩) rfl (fun K hK => ?_) ?_
      · go_simp
        refine (str_any mn _).mono ?_
        rintro e wt ⟨rfl, hb⟩
        have HSn := Lib.hid (HS.out.ext hb)
        have HO1n := Lib.hid (HO1.out.ext hb)
        clear HO1
        have HO1 := HO1n
        clear HO1n
        clear hb HS
        have HS := HSn
        clear HSn
        refine hK.out _ _ ?_ (fun hHeld => ?_)
        · exact HKS.out _ HS.out
        try simp only [Act.put]
        try simp only [List.setIfInBounds_toArray]
        try simp only [List.set_cons_succ, List.set_cons_zero]
        refine wpAnyH_take (i := 6) (oi := ⟨some 36, _, _, _, _, _⟩) (v := ?_) rfl (by kernel_rfl) (by kernel_rfl) (by kernel_rfl) (fun _ _ _ h => h) (Or.inl ⟨by rfl, ?_⟩) (by assumption) ?_; rotate_left; focus (intro w hSw; (try dsimp only at hSw); first | (go_simp; done) | (go_simp; with_reducible rfl))
        try simp only [Act.put]
        try simp only [List.setIfInBounds_toArray]
        try simp only [List.set_cons_succ, List.set_cons_zero]
        refine wpAnyH_ready (rs := [7]) (by kernel_rfl) (by simp) ?_
        refine AllReadyH.cons (i := 7) (o := ⟨some 37, _, _, _, _, _⟩) rfl (fun K hK => ?_) ?_
        · obtain ⟨gv, hgv⟩ : ∃ gv, gv = wt.heap.size := ⟨_, rfl⟩
          obtain ⟨wv, hwv⟩ : ∃ wv, wv = wt.alloc (.cells ([(kMethod, strD mn)].flatMap ptC).toArray 74) := ⟨_, rfl⟩
          have hb : Below wt.heap.size wt wv := by rw [hwv]; exact below_a1 _ _
          have HPgv : Hid (PtsAt wv (fun g => g ≠ w.heap.size + 1) (some ⟨gv, 0, none⟩) [(kMethod, strD mn)]) := Lib.hid ⟨by rw [hwv, hgv]; exact row_blk (Blk.new rfl) (flat_length ptC 7 ptC_len _), fun p hp => by
            simp only [List.mem_cons, List.mem_nil_iff, or_false] at hp
            rcases hp with rfl
            exact .leaf⟩
          have HOgv : Hid (Own wv (w.heap.size + 2) 74 7 (some ⟨gv, 0, none⟩) [(kMethod, strD mn)].length [(kMethod, strD mn)].length ([(kMethod, strD mn)].flatMap ptC)) := Lib.hid (by have := HS.out.sz; rw [hwv, hgv]; exact own_blk (cs := ([(kMethod, strD mn)].flatMap ptC).toArray) (Blk.new rfl) (by omega) (by rw [List.size_toArray]; exact flat_length ptC 7 ptC_len _) (by simp [maxLen]))
          have HSn := Lib.hid (HS.out.ext hb)
          have HO1n := Lib.hid (HO1.out.ext hb)
          clear HO1
          have HO1 := HO1n
          clear HO1n
          clear hb HS
          have HS := HSn
          clear HSn
          simp only [List.flatMap_cons, List.flatMap_nil] at hwv
          try simp only [ptC_str] at hwv
          try simp only [ptC_num] at hwv
          try simp only [ptC_of] at hwv
          try simp only [List.cons_append, List.nil_append] at hwv
          simp only [List.append_nil, kMethod] at hwv
          go_simp
          rw [← hwv, ← hgv]
          clear hwv hgv
          refine hK.out _ _ ?_ (fun hHeld => ?_)
          · exact HKS.out _ HS.out
          try simp only [Act.put]
          try simp only [List.setIfInBounds_toArray]
          try simp only [List.set_cons_succ, List.set_cons_zero]
          refine wpAnyH_ready (rs := [8]) (by kernel_rfl) (by simp) ?_
          refine AllReadyH.cons (i := 8) (o := ⟨some 38, _, _, _, _, _⟩) rfl (fun K hK => ?_) ?_
          · refine step_append_Own (act := ⟨_, []⟩) rfl (.tmp 30) (.tmp 37) 75 rfl (w.heap.size + 2) 74 _ 7 104 Tryz.underlying75 Tryz.infoPart rfl (by decide) a1 L1.length n1 _ (by simp [go_sem]) HO1.out (some ⟨gv, 0, none⟩) 1 1 _ (by simp [go_sem]) HPgv.out.row ptC_one (by have := HLN.out; simp [maxLen]; omega) (by have := HLN.out; simp; omega) HS.out.sz ?_
            intro a7 c7 w7 ho7 hg7 hb7
            simp only [Act.put, List.setIfInBounds_toArray, List.set_cons_succ, List.set_cons_zero]
            have HSn := Lib.hid (HS.out.grow hg7 (HO1.out.rowBase (Nat.le_refl _)))
            have HO2 := Lib.hid ho7
            clear HS ho7 hg7 hb7 HO1 HPgv HOgv
            have HS := HSn
            clear HSn
            refine hK.out _ _ ?_ (fun hHeld => ?_)
            · exact HKS.out _ HS.out
            try simp only [Act.put]
            try simp only [List.setIfInBounds_toArray]
            try simp only [List.set_cons_succ, List.set_cons_zero]
            refine wpAnyH_take (i := 9) (oi := ⟨some 4, _, _, _, _, _⟩) (v := ?_) rfl (by kernel_rfl) (by kernel_rfl) (by kernel_rfl) (fun _ _ _ h => h) (Or.inl ⟨by rfl, ?_⟩) (by assumption) ?_; rotate_left; focus (intro w hSw; (try dsimp only at hSw); first | (go_simp; done) | (go_simp; with_reducible rfl))
            try simp only [Act.put]
            try simp only [List.setIfInBounds_toArray]
            try simp only [List.set_cons_succ, List.set_cons_zero]
            refine wpAnyH_done (by kernel_rfl) ?_ _
            clear hHeld
            obtain ⟨L2, hL2⟩ : ∃ L, L = L1 ++ [(kMethod, strD mn)] := ⟨_, rfl⟩
            have hln : L1.length + 1 = L2.length := by rw [hL2]; simp
            have HP2 : Hid (Own w7 (w.heap.size + 2) 74 7 a7 L2.length c7 (L2.flatMap ptC)) := Lib.hid (by rw [← hln, hL2, List.flatMap_append]; exact HO2.out)
            have HL2 := Lib.hid hL2
            have HLN2 : Hid (L2.length ≤ 3) := Lib.hid (by have := HLN.out; omega)
            rw [hln]
            clear hL2 hln HO2
            have HVS : Hid (∀ W, WrS w c W → ∀ p ∈ L2, ValAt W (fun g => g ≠ w.heap.size + 1) p.2) := Lib.hid fun W h => by rw [HL2.out]; exact msg_vals HL1.out (h.cat.id.mono fun g h _ => by show _ ≠ _; omega)
            have HMM : Hid (∀ L : List Pt, L.map (fun p => (p.1, p.2.v)) = (if 3 < c.kind then [(kParams, paramsW c.k)] else []) → (L2 ++ L).map (fun p => (p.1, p.2.v)) = msgL c.k) := Lib.hid fun L h => by rw [HL2.out]; exact msg_map HL1.out HMN.out HKD.out h
            have c0 : w7.cell? ⟨w.heap.size, 0, none⟩ = some (.int .i64 kd) := HKS.out _ HS.out
            go_upto_if 41 with (fail)
            clear c0 HL1 HL2 HMN HLN HIX
            go_cut [4] from 41 to 47 (fun l W => ∃ L3 a n, l = .slice a (List.length L3) n ∧ Hid (PtsAt W (fun g => g ≠ w.heap.size + 1) a L3) ∧ Hid (L3.map (fun p => (p.1, p.2.v)) = msgL c.k) ∧ Hid (WrS w c W))
            case first =>
              by_cases hk3 : 3 < kd
              case neg =>
                have d4 : decide (3 < kd) = false := by simpa using hk3
                have HM3 : Hid (L2.map (fun p => (p.1, p.2.v)) = msgL c.k) := Lib.hid (by have := HMM.out [] (by rw [if_neg (by rw [← HKD.out]; exact hk3)]; rfl); rwa [List.append_nil] at this)
                rw [d4]
                clear hk3 d4
                go_wp2
                go_meet
                exact ⟨L2, a7, c7, rfl, Lib.hid ⟨HP2.out.row, HVS.out _ HS.out⟩, HM3, HS⟩
              case pos =>
                have d4 : decide (3 < kd) = true := by simpa using hk3
                have HK3 := Lib.hid hk3
                rw [d4]
                clear hk3 d4
                go_wp2_with ((with_reducible show wpList _ _ _ (⟨some 43, _, _, _, _, _⟩ :: _) _ _); refine load_call rfl _ rfl w.heap.size rfl c HS.out.cblk ?_)
                refine (params_any (fun g => g ≠ w.heap.size + 1 ∧ rowOf a7 c7 ≠ some g) c w7 (fun g hg => ⟨by have := HS.out.sz; omega, own_lt2 HP2.out hg⟩) (by have := HK3.out; have := HKD.out; omega) (by have := HRG.out.2; have := HKD.out; omega) (HS.out.cat.other.mono fun g h _ => ⟨by omega, fun e => by have := HP2.out.rowBase (Nat.le_refl _) _ e; omega⟩) HS.out.cat.row HNC.out).mono ?_
                rintro e w8 ⟨dp, rfl, hvp, hdp, hb⟩
                have HVP := Lib.hid hvp
                have HDP := Lib.hid hdp
                clear hvp hdp
                have HSn := Lib.hid (HS.out.ext hb)
                have HP2n := Lib.hid (HP2.out.ext hb)
                clear HP2
                have HP2 := HP2n
                clear HP2n
                clear hb HS
                have HS := HSn
                clear HSn
                go_wp2_with (at_builtin; refine wpList_append_Own rfl _ _ 75 rfl (w.heap.size + 2) 74 _ 7 104 Tryz.underlying75 Tryz.infoPart rfl (by decide) a7 L2.length c7 _ rfl (HP2.out.alloc _) _ 1 1 [.string ⟨kParams.toArray⟩, .int .i64 dp.sort, .bool dp.on, .int .i64 dp.n, .string ⟨dp.text.toArray⟩, .slice dp.a dp.list.length dp.c, .slice dp.ka dp.keys.length dp.kc] rfl (Row.new1 (by simp) rfl rfl) (by intro u hu; simp at hu; rcases hu with rfl | rfl | rfl | rfl | rfl | rfl | rfl <;> rfl) (by have := HLN2.out; simp [maxLen]; omega) (by have := HLN2.out; simp; omega) (by have := HS.out.sz; simp; omega) ?_; intro a9 c9 w9 ho9 hg9 hb9)
                have HSn := Lib.hid ((HS.out.ext (below_a1 _ _)).grow hg9 (HP2.out.rowBase (Nat.le_refl _)))
                have HD9 : Hid (ValAt w9 (fun g => g ≠ w.heap.size + 1) dp) := Lib.hid (((HDP.out.ext (below_a1 _ _)).congr fun g h1 h2 => hg9.block g h2 (fun e => h1.2 e.symm)).mono fun g h1 _ => h1.1)
                have HP9 : Hid (Row w9 7 a9 (L2.length + 1) ((L2 ++ [(kParams, dp)]).flatMap ptC)) := Lib.hid (by rw [List.flatMap_append]; simp only [List.flatMap_cons, List.flatMap_nil, ptC_of, List.append_nil]; exact ho9.row)
                clear HS ho9 hg9 hb9
                go_meet
                exact ⟨L2 ++ [(kParams, dp)], a9, c9, by rw [List.length_append]; rfl, Lib.hid ⟨by rw [List.length_append]; exact HP9.out, fun p hp => by
                  rcases List.mem_append.1 hp with h | h
                  · exact HVS.out _ HSn.out p h
                  · rw [List.mem_singleton] at h; rw [h]; exact HD9.out⟩, Lib.hid (HMM.out _ (by rw [if_pos (by rw [← HKD.out]; exact HK3.out), ← HVP.out]; rfl)), HSn⟩
            case rest =>
              obtain ⟨L3, a3, n3, rfl, HP3, HM3, HS3⟩ := hcut
              clear HS HP2 HLN2 HVS HMM HKS
              have HS := HS3
              clear HS3
              go_wp2_with fail
              refine (record_any (fun g => g ≠ w.heap.size + 1) a3 n3 L3 wc (fun g hg => by have := HS.out.sz; show _ ≠ _; omega) HP3.out (msg_len HM3.out)).mono ?_
              rintro e w10 ⟨d, rfl, hvd, hdd, hb⟩
              have HV : Hid (d.v = msgW c.k) := Lib.hid (hvd.trans (congrArg recW HM3.out))
              have HD := Lib.hid hdd
              clear hvd hdd HP3 HM3
              have HSn := Lib.hid (HS.out.ext hb)
              clear hb HS
              have HS := HSn
              clear HSn
              go_upto_region 10 with (fail)
              obtain ⟨g5, hg5⟩ : ∃ g5, g5 = w10.heap.size := ⟨_, rfl⟩
              obtain ⟨w11, hw11⟩ : ∃ w11, w11 = w10.alloc (.cells #[.int .i64 d.sort, .bool d.on, .int .i64 d.n, .string ⟨d.text.toArray⟩, .slice d.a d.list.length d.c, .slice d.ka d.keys.length d.kc] 36) := ⟨_, rfl⟩
              have hb : Below w10.heap.size w10 w11 := by rw [hw11]; exact below_a1 _ _
              have HB5 : Hid (Blk w11 g5 #[.int .i64 d.sort, .bool d.on, .int .i64 d.n, .string ⟨d.text.toArray⟩, .slice d.a d.list.length d.c, .slice d.ka d.keys.length d.kc] 36) := Lib.hid (by rw [hw11, hg5]; exact Blk.new rfl)
              have HSn := Lib.hid (HS.out.ext hb)
              have HDn := Lib.hid (HD.out.ext hb)
              clear HD
              have HD := HDn
              clear HDn
              clear hb HS
              have HS := HSn
              clear HSn
              rw [← hw11, ← hg5]
              clear hw11 hg5
              obtain ⟨b0, b1, b2, b3, b4, b5⟩ := HB5.out.sixT
              go_wp2_with fail
              have hm := msg_any d w11 (HD.out.mono fun _ _ _ => trivial) (by rw [HV.out]; exact HSM.out)
              rw [VD.val6, HV.out] at hm
              refine hm.mono ?_
              clear hm b0 b1 b2 b3 b4 b5
              rintro e w12 ⟨c6, rfl, hc6, hk6, hkk, hb⟩
              have HC6 := Lib.hid hc6
              have HK6 := Lib.hid hk6
              have HKK := Lib.hid hkk
              clear hc6 hk6 hkk
              have HSn := Lib.hid (HS.out.ext hb)
              have HDn := Lib.hid (HD.out.ext hb)
              clear HD
              have HD := HDn
              clear HDn
              have HB5n := Lib.hid (HB5.out.ext hb)
              clear HB5
              have HB5 := HB5n
              clear HB5n
              clear hb HS
              have HS := HSn
              clear HSn
              obtain ⟨r, hr⟩ : ∃ r, r = (readC (msgW c.k)).1 := ⟨_, rfl⟩
              rw [← hr]
              have HR := Lib.hid hr
              clear hr
              obtain ⟨W6, hW6⟩ : ∃ q, q = (w12.alloc (.cells #[.int .i64 0, .int .i64 0, .bool false, .int .i64 0, .string { data := #[] }, .slice none 0 0, .slice none 0 0, .string { data := #[] }, .int .i64 0, .string { data := #[] }, .slice none 0 0, .int .i64 0, .int .i64 0, .int .i64 0, .bool false, .int .i64 0, .string { data := #[] }, .slice none 0 0, .slice none 0 0] 43)).setRow w12.heap.size (cdC c6) := ⟨_, rfl⟩
              have hb : Below w12.heap.size w12 W6 := by rw [hW6]; exact below_row (below_a1 _ _) (Nat.le_refl _) _
              have HBC : Hid (Blk W6 w12.heap.size (cdC c6) 43) := Lib.hid (by rw [hW6]; exact setRow_blk (cur := #[.int .i64 0, .int .i64 0, .bool false, .int .i64 0, .string { data := #[] }, .slice none 0 0, .slice none 0 0, .string { data := #[] }, .int .i64 0, .string { data := #[] }, .slice none 0 0, .int .i64 0, .int .i64 0, .int .i64 0, .bool false, .int .i64 0, .string { data := #[] }, .slice none 0 0, .slice none 0 0]) (Blk.new rfl))
              have HSn := Lib.hid (HS.out.ext hb)
              have HDn := Lib.hid (HD.out.ext hb)
              clear HD
              have HD := HDn
              clear HDn
              have HB5n := Lib.hid (HB5.out.ext hb)
              clear HB5
              have HB5 := HB5n
              clear HB5n
              have HC6n := Lib.hid (HC6.out.ext hb)
              clear HC6
              have HC6 := HC6n
              clear HC6n
              clear hb HS
              have HS := HSn
              clear HSn
              go_upto_region 11 with ((with_reducible show wpList _ _ _ (⟨none, Op.store 43 (Operand.tmp 6) _, _, _, _, _⟩ :: _) _ _); refine store_call rfl _ _ rfl w12.heap.size c6 zeroCD rfl rfl (Blk.new rfl) ?_; rw [← hW6]; clear hW6)
              by_cases hr0 : r = 0
              case neg =>
                have hrb : (r != 0) = true := by simpa using hr0
                have HN : Hid (¬ wrOk c) := Lib.hid fun h => hr0 (by rw [HR.out, h.2.2])
                clear hr0
                have f0 := HS.out.rblk.free 0
                have f1 := HS.out.rblk.free 1
                have f2 := HS.out.rblk.free 2
                have f3 := HS.out.rblk.free 3
                have f4 := HS.out.rblk.free 4
                have f5 := HS.out.rblk.free 5
                obtain ⟨z0, z1, z2, z3, z4, z5⟩ := HS.out.rblk.sixT
                go_wp2
                exact write_end (g := w.heap.size + 1) rfl rfl (store6 HS.out.rblk) (HS.out.none HN.out)
              case pos =>
                have hrb : (r != 0) = false := by simpa using hr0
                have HE : Hid (readC (msgW c.k) = (0, c6.k)) := Lib.hid (by rw [HKK.out, ← hr0, HR.out])
                clear hr0
                go_wp2_with (first | ((with_reducible show wpList _ _ _ (⟨some 58, _, _, _, _, _⟩ :: _) _ _); refine load_call_g rfl _ rfl w12.heap.size rfl c6 HBC.out ?_) | ((with_reducible show wpList _ _ _ (⟨some 59, _, _, _, _, _⟩ :: _) _ _); refine load_call_g rfl _ rfl w.heap.size rfl c HS.out.cblk ?_))
                have hz := readC_size HE.out
                refine (same_call c6 c W6 HC6.out ⟨HS.out.cat.id.mono fun _ _ _ => trivial, HS.out.cat.other.mono fun _ _ _ => trivial, HS.out.cat.row⟩ (Nat.le_trans hz.1 HSM.out) (Nat.le_trans hz.2.1 HSM.out) (Nat.le_trans hz.2.2 HSM.out) HNC.out).mono ?_
                clear hz
                rintro e w14 ⟨u, rfl, hb, b, rfl, hbb⟩
                have HQ : Hid (b = true ↔ c6.k = c.k) := Lib.hid (hbb.trans (same_k HK6.out (by have := HRG.out.1; have := HKD.out; omega)))
                clear hbb
                have HSn := Lib.hid (HS.out.ext hb)
                have HDn := Lib.hid (HD.out.ext hb)
                clear HD
                have HD := HDn
                clear HDn
                have HB5n := Lib.hid (HB5.out.ext hb)
                clear HB5
                have HB5 := HB5n
                clear HB5n
                clear hb HS
                have HS := HSn
                clear HSn
                cases b with
                | false =>
                  have HN : Hid (¬ wrOk c) := Lib.hid fun h => by have h3 := HE.out.symm.trans h.2.2; exact absurd (HQ.out.2 (Prod.mk.inj h3).2) (by decide)
                  have f0 := HS.out.rblk.free 0
                  have f1 := HS.out.rblk.free 1
                  have f2 := HS.out.rblk.free 2
                  have f3 := HS.out.rblk.free 3
                  have f4 := HS.out.rblk.free 4
                  have f5 := HS.out.rblk.free 5
                  obtain ⟨z0, z1, z2, z3, z4, z5⟩ := HS.out.rblk.sixT
                  go_wp2
                  exact write_end (g := w.heap.size + 1) rfl rfl (store6 HS.out.rblk) (HS.out.none HN.out)
                | true =>
                  have HY : Hid (wrOk c) := Lib.hid ⟨by have := HRG.out.1; have := HKD.out; omega, by have := HRG.out.2; have := HKD.out; omega, by rw [HE.out, HQ.out.1 rfl]⟩
                  obtain ⟨b0, b1, b2, b3, b4, b5⟩ := HB5.out.sixT
                  have f0 := HS.out.rblk.free 0
                  have f1 := HS.out.rblk.free 1
                  have f2 := HS.out.rblk.free 2
                  have f3 := HS.out.rblk.free 3
                  have f4 := HS.out.rblk.free 4
                  have f5 := HS.out.rblk.free 5
                  obtain ⟨z0, z1, z2, z3, z4, z5⟩ := HS.out.rblk.sixT
                  go_wp2
                  refine write_end (g := w.heap.size + 1) rfl rfl (store6 HS.out.rblk) ?_
                  exact ⟨d, 0, rfl, fun _ => ⟨rfl, HV.out⟩, fun h => absurd HY.out h, (HD.out.congr fun g h _ => put6_other h).mono fun _ _ _ => trivial, put6_below HS.out.below (by omega)⟩
          exact AllReadyH.nil
        exact AllReadyH.nil
      exact AllReadyH.nil
    exact AllReadyH.nil
end Go.Proofs.YthnbeebilomchaaGreatDoor

namespace Go.Proofs.YthnbeebilomchaaGreatDoor
open Go Go.RowKit

def liveL : Nm := [123, 34, 106, 115, 111, 110, 114, 112, 99, 34, 58, 34, 50, 46, 48, 34, 44, 34, 105, 100, 34, 58, 55, 44, 34, 109, 101, 116, 104, 111, 100, 34, 58, 34, 116, 101, 120, 116, 68, 111, 99, 117, 109, 101, 110, 116, 47, 104, 111, 118, 101, 114, 34, 44, 34, 112, 97, 114, 97, 109, 115, 34, 58, 123, 34, 116, 101, 120, 116, 68, 111, 99, 117, 109, 101, 110, 116, 34, 58, 123, 34, 117, 114, 105, 34, 58, 34, 97, 34, 125, 44, 34, 112, 111, 115, 105, 116, 105, 111, 110, 34, 58, 123, 34, 108, 105, 110, 101, 34, 58, 51, 44, 34, 99, 104, 97, 114, 97, 99, 116, 101, 114, 34, 58, 52, 125, 125, 125]
def liveC : C := { C.zero with kind := 7, id := numW 7, name := [97], pl := 3, pu := 4 }
def liveV : V := msgW liveC
theorem live_msg : msgW liveC = liveV := rfl
theorem live_read : readL liveL = .ok liveV [] := by kernel_rfl
theorem live_call : readC liveV = (0, liveC) := by kernel_rfl
theorem live_null : (readC zeroD.v).1 = 42 := by kernel_rfl
theorem live_size : sizeV liveV ≤ 1048576 := by decide +kernel
set_option maxHeartbeats 4000000 in
set_option maxRecDepth 20000 in
theorem live_any (w : World) (hG : Glob w) : Calls Tryz.prog 7 #[] w (BoE w true) := by
  have h1 := read_any liveL w hG (by decide)
  rw [live_read] at h1
  have H1 := Lib.hid h1
  have HG := Lib.hid hG
  unfold liveL at H1
  clear h1 hG
  go_enter Tryz.func7, Tryz.ntmps7
  go_wp2_with fail
  refine H1.out.mono ?_
  intro e w1 h
  obtain ⟨d, rfl, hdv, hva, hb⟩ := readE_ok h
  have HB : Hid (Below w.heap.size w w1) := Lib.hid hb
  have HV := Lib.hid hdv
  have HD := Lib.hid hva
  clear h hdv hva hb H1
  obtain ⟨g1, hg1⟩ : ∃ q, q = w1.heap.size := ⟨_, rfl⟩
  obtain ⟨w2, hw2⟩ : ∃ q, q = w1.alloc (.cells #[.int .i64 d.sort, .bool d.on, .int .i64 d.n, .string ⟨d.text.toArray⟩, .slice d.a d.list.length d.c, .slice d.ka d.keys.length d.kc] 36) := ⟨_, rfl⟩
  have hb : Below w1.heap.size w1 w2 := by rw [hw2]; exact below_a1 _ _
  have H1 : Hid (Blk w2 g1 #[.int .i64 d.sort, .bool d.on, .int .i64 d.n, .string ⟨d.text.toArray⟩, .slice d.a d.list.length d.c, .slice d.ka d.keys.length d.kc] 36) := Lib.hid (by rw [hw2, hg1]; exact Blk.new rfl)
  have HBn := Lib.hid (HB.out.trans (hb.mono HB.out.size))
  have HDn := Lib.hid (HD.out.ext hb)
  clear HD
  have HD := HDn
  clear HDn
  clear hb HB
  have HB := HBn
  clear HBn
  go_upto_region 2 with (fail)
  rw [← hw2, ← hg1]
  clear hw2 hg1
  obtain ⟨b0, b1, b2, b3, b4, b5⟩ := H1.out.sixT
  go_wp2_with fail
  have hm := msg_any d w2 HD.out (by rw [HV.out]; exact live_size)
  rw [VD.val6, HV.out, live_call] at hm
  refine hm.mono ?_
  clear hm b0 b1 b2 b3 b4 b5
  rintro e w3 ⟨c, rfl, hc, hk, hkk, hb⟩
  have HC := Lib.hid hc
  have HK : Hid (c.kind = 7) := Lib.hid (by have := congrArg C.kind hkk; change c.kind.toNat = 7 at this; omega)
  have HKK : Hid (c.k = liveC) := Lib.hid hkk
  clear hc hk hkk
  have HBn := Lib.hid (HB.out.trans (hb.mono HB.out.size))
  have HDn := Lib.hid (HD.out.ext hb)
  clear HD
  have HD := HDn
  clear HDn
  have H1n := Lib.hid (H1.out.ext hb)
  clear H1
  have H1 := H1n
  clear H1n
  clear hb HB
  have HB := HBn
  clear HBn
  obtain ⟨g3, hg3⟩ : ∃ q, q = w3.heap.size := ⟨_, rfl⟩
  obtain ⟨w4, hw4⟩ : ∃ q, q = (w3.alloc (.cells #[.int .i64 0, .int .i64 0, .bool false, .int .i64 0, .string { data := #[] }, .slice none 0 0, .slice none 0 0, .string { data := #[] }, .int .i64 0, .string { data := #[] }, .slice none 0 0, .int .i64 0, .int .i64 0, .int .i64 0, .bool false, .int .i64 0, .string { data := #[] }, .slice none 0 0, .slice none 0 0] 43)).setRow w3.heap.size (cdC c) := ⟨_, rfl⟩
  have hb : Below w3.heap.size w3 w4 := by rw [hw4]; exact below_row (below_a1 _ _) (Nat.le_refl _) _
  have H3 : Hid (Blk w4 g3 (cdC c) 43) := Lib.hid (by rw [hw4, hg3]; exact setRow_blk (cur := #[.int .i64 0, .int .i64 0, .bool false, .int .i64 0, .string { data := #[] }, .slice none 0 0, .slice none 0 0, .string { data := #[] }, .int .i64 0, .string { data := #[] }, .slice none 0 0, .int .i64 0, .int .i64 0, .int .i64 0, .bool false, .int .i64 0, .string { data := #[] }, .slice none 0 0, .slice none 0 0]) (Blk.new rfl))
  have HBn := Lib.hid (HB.out.trans (hb.mono HB.out.size))
  have HDn := Lib.hid (HD.out.ext hb)
  clear HD
  have HD := HDn
  clear HDn
  have H1n := Lib.hid (H1.out.ext hb)
  clear H1
  have H1 := H1n
  clear H1n
  have HCn := Lib.hid (HC.out.ext hb)
  clear HC
  have HC := HCn
  clear HCn
  clear hb HB
  have HB := HBn
  clear HBn
  go_upto_region 3 with (((with_reducible show wpList _ _ _ (⟨none, Op.store 43 (Operand.tmp 3) _, _, _, _, _⟩ :: _) _ _); refine store_call rfl _ _ rfl w3.heap.size c zeroCD rfl rfl (Blk.new rfl) ?_; rw [← hw4, ← hg3]; clear hw4 hg3))
  go_wp2_with ((with_reducible show wpList _ _ _ (⟨some 19, _, _, _, _, _⟩ :: _) _ _); refine load_call rfl _ rfl g3 rfl c H3.out ?_)
  refine (write_call c w4 HC.out (by rw [HKK.out, live_msg]; exact live_size) (by have := congrArg C.id HKK.out; change c.id.v = _ at this; rw [this]; decide) (by have := congrArg C.other HKK.out; change c.other.v = _ at this; rw [this]; decide) (by have := congrArg C.changes HKK.out; change c.changes = _ at this; rw [this]; decide)).mono ?_
  rintro e w5 ⟨d2, n2, rfl, hok, -, hd2, hb⟩
  obtain ⟨rfl, hv2⟩ := hok ⟨by rw [HK.out]; decide, by rw [HK.out]; decide, by rw [HKK.out, live_msg, live_call]⟩
  have HV2 : Hid (d2.v = liveV) := Lib.hid (by rw [hv2, HKK.out, live_msg])
  have HD2 := Lib.hid hd2
  clear hok hv2 hd2
  have HBn := Lib.hid (HB.out.trans (hb.mono HB.out.size))
  have HDn := Lib.hid (HD.out.ext hb)
  clear HD
  have HD := HDn
  clear HDn
  have H1n := Lib.hid (H1.out.ext hb)
  clear H1
  have H1 := H1n
  clear H1n
  have HCn := Lib.hid (HC.out.ext hb)
  clear HC
  have HC := HCn
  clear HCn
  have H3n := Lib.hid (H3.out.ext hb)
  clear H3
  have H3 := H3n
  clear H3n
  clear hb HB
  have HB := HBn
  clear HBn
  obtain ⟨g5, hg5⟩ : ∃ q, q = w5.heap.size := ⟨_, rfl⟩
  obtain ⟨w6, hw6⟩ : ∃ q, q = w5.alloc (.cells #[.int .i64 d2.sort, .bool d2.on, .int .i64 d2.n, .string ⟨d2.text.toArray⟩, .slice d2.a d2.list.length d2.c, .slice d2.ka d2.keys.length d2.kc] 36) := ⟨_, rfl⟩
  have hb : Below w5.heap.size w5 w6 := by rw [hw6]; exact below_a1 _ _
  have H5 : Hid (Blk w6 g5 #[.int .i64 d2.sort, .bool d2.on, .int .i64 d2.n, .string ⟨d2.text.toArray⟩, .slice d2.a d2.list.length d2.c, .slice d2.ka d2.keys.length d2.kc] 36) := Lib.hid (by rw [hw6, hg5]; exact Blk.new rfl)
  have HBn := Lib.hid (HB.out.trans (hb.mono HB.out.size))
  have HDn := Lib.hid (HD.out.ext hb)
  clear HD
  have HD := HDn
  clear HDn
  have H1n := Lib.hid (H1.out.ext hb)
  clear H1
  have H1 := H1n
  clear H1n
  have HCn := Lib.hid (HC.out.ext hb)
  clear HC
  have HC := HCn
  clear HCn
  have H3n := Lib.hid (H3.out.ext hb)
  clear H3
  have H3 := H3n
  clear H3n
  have HD2n := Lib.hid (HD2.out.ext hb)
  clear HD2
  have HD2 := HD2n
  clear HD2n
  clear hb HB
  have HB := HBn
  clear HBn
  go_upto_region 4 with (fail)
  rw [← hw6, ← hg5]
  clear hw6 hg5
  go_wp2_with fail
  have hm := msg_any zeroD w6 .leaf (by decide)
  rw [VD.val6] at hm
  refine hm.mono ?_
  clear hm
  rintro e w7 ⟨c7, rfl, -, -, -, hb⟩
  rw [show (readC zeroD.v).1 = 42 from live_null]
  have HBn := Lib.hid (HB.out.trans (hb.mono HB.out.size))
  have HDn := Lib.hid (HD.out.ext hb)
  clear HD
  have HD := HDn
  clear HDn
  have H1n := Lib.hid (H1.out.ext hb)
  clear H1
  have H1 := H1n
  clear H1n
  have HCn := Lib.hid (HC.out.ext hb)
  clear HC
  have HC := HCn
  clear HCn
  have H3n := Lib.hid (H3.out.ext hb)
  clear H3
  have H3 := H3n
  clear H3n
  have HD2n := Lib.hid (HD2.out.ext hb)
  clear HD2
  have HD2 := HD2n
  clear HD2n
  have H5n := Lib.hid (H5.out.ext hb)
  clear H5
  have H5 := H5n
  clear H5n
  clear hb HB
  have HB := HBn
  clear HBn
  obtain ⟨g7, hg7⟩ : ∃ q, q = w7.heap.size := ⟨_, rfl⟩
  obtain ⟨w8, hw8⟩ : ∃ q, q = (w7.alloc (.cells #[.int .i64 0, .int .i64 0, .bool false, .int .i64 0, .string { data := #[] }, .slice none 0 0, .slice none 0 0, .string { data := #[] }, .int .i64 0, .string { data := #[] }, .slice none 0 0, .int .i64 0, .int .i64 0, .int .i64 0, .bool false, .int .i64 0, .string { data := #[] }, .slice none 0 0, .slice none 0 0] 43)).setRow w7.heap.size (cdC c7) := ⟨_, rfl⟩
  have hb : Below w7.heap.size w7 w8 := by rw [hw8]; exact below_row (below_a1 _ _) (Nat.le_refl _) _
  have H7 : Hid (Blk w8 g7 (cdC c7) 43) := Lib.hid (by rw [hw8, hg7]; exact setRow_blk (cur := #[.int .i64 0, .int .i64 0, .bool false, .int .i64 0, .string { data := #[] }, .slice none 0 0, .slice none 0 0, .string { data := #[] }, .int .i64 0, .string { data := #[] }, .slice none 0 0, .int .i64 0, .int .i64 0, .int .i64 0, .bool false, .int .i64 0, .string { data := #[] }, .slice none 0 0, .slice none 0 0]) (Blk.new rfl))
  have HBn := Lib.hid (HB.out.trans (hb.mono HB.out.size))
  have HDn := Lib.hid (HD.out.ext hb)
  clear HD
  have HD := HDn
  clear HDn
  have H1n := Lib.hid (H1.out.ext hb)
  clear H1
  have H1 := H1n
  clear H1n
  have HCn := Lib.hid (HC.out.ext hb)
  clear HC
  have HC := HCn
  clear HCn
  have H3n := Lib.hid (H3.out.ext hb)
  clear H3
  have H3 := H3n
  clear H3n
  have HD2n := Lib.hid (HD2.out.ext hb)
  clear HD2
  have HD2 := HD2n
  clear HD2n
  have H5n := Lib.hid (H5.out.ext hb)
  clear H5
  have H5 := H5n
  clear H5n
  clear hb HB
  have HB := HBn
  clear HBn
  go_upto_region 5 with (((with_reducible show wpList _ _ _ (⟨none, Op.store 43 (Operand.tmp 7) _, _, _, _, _⟩ :: _) _ _); refine store_call rfl _ _ rfl w7.heap.size c7 zeroCD rfl rfl (Blk.new rfl) ?_; rw [← hw8, ← hg7]; clear hw8 hg7))
  have f0 : w8.cell? ⟨g3, 0, none⟩ = some (.int .i64 7) := by rw [← HK.out]; exact H3.out.cell 0
  have f3 : w8.cell? ⟨g3, 3, none⟩ = some (.int .i64 7) := by
    have h : c.id.n = 7 := by have := congrArg C.id HKK.out; change c.id.v = _ at this; rw [VD.v_eq] at this; injection this
    rw [← h]; exact H3.out.cell 3
  have f11 : w8.cell? ⟨g3, 11, none⟩ = some (.int .i64 3) := by
    have h : c.pl = 3 := congrArg C.pl HKK.out
    rw [← h]; exact H3.out.cell 11
  obtain ⟨b0, b1, b2, b3, b4, b5⟩ := H1.out.sixT
  obtain ⟨a0, a1, a2, a3, a4, a5⟩ := H5.out.sixT
  go_wp2_with fail
  clear b0 b1 b2 b3 b4 b5 a0 a1 a2 a3 a4 a5 f0 f3 f11
  have hs := same_any d d2 w8 HD.out HD2.out (by rw [HV.out]; exact live_size)
  rw [VD.val6, VD.val6] at hs
  refine hs.mono ?_
  clear hs
  rintro e w9 ⟨u, rfl, hb, b, rfl, hbb⟩
  obtain rfl : b = true := hbb.2 (by rw [HV.out, HV2.out])
  clear hbb
  have HBn := Lib.hid (HB.out.trans (hb.mono HB.out.size))
  clear hb HB
  have HB := HBn
  clear HBn
  go_wp2_with fail
  refine (code_any 233 w9).mono ?_
  rintro e w10 ⟨rfl, hb⟩
  rw [show codeN 233 = -32800 from rfl]
  have HBn := Lib.hid (HB.out.trans (hb.mono HB.out.size))
  clear hb HB
  have HB := HBn
  clear HBn
  go_wp2
  go_ret
  exact ⟨rfl, HB.out⟩
end Go.Proofs.YthnbeebilomchaaGreatDoor

namespace Go.Proofs.YthnbeebilomchaaGreatDoor
open Go Go.RowKit

theorem failR_end {W : World} {tm : Array Value} {R : Ending → World → Prop} {g : Nat} {u0 u1 u2 u3 u4 u5 : Value} (h2 : tm.getD 4 undef = .pointer (some ⟨g, 0, none⟩)) (hB : Blk W g #[u0, u1, u2, u3, u4, u5] 26)
    (hR : R (.returned (.agg #[u0, u1, u2, u3, u4, u5])) W) : bodyPost Tryz.prog Tryz.f19 R .ret { tmps := tm, defers := [] } W := by
  have d0 := hB.cell 0
  have d1 := hB.cell 1
  have d2 := hB.cell 2
  have d3 := hB.cell 3
  have d4 := hB.cell 4
  have d5 := hB.cell 5
  simp only [List.getElem?_toArray, List.getElem?_cons_zero, List.getElem?_cons_succ] at d0 d1 d2 d3 d4 d5
  rw [Array.getD_eq_getD_getElem?] at h2
  refine bodyPost_ret (v := .agg #[u0, u1, u2, u3, u4, u5]) ?_ rfl hR
  simp [results, Tryz.results19, go_sem, h2, d0, d1, d2, d3, d4, d5]
theorem doc3e {w W0 wr : World} {i r : VD} {gk gv gr o : Nat} (hi : ValAt w (fun _ => True) i) (hr : ValAt W0 (fun g => g ≠ gr) r) (hw : Below w.heap.size w W0) (hb : Below W0.heap.size W0 wr) (hk : Blk wr gk #[.string ⟨#[106, 115, 111, 110, 114, 112, 99]⟩, .string ⟨#[105, 100]⟩, .string ⟨#[101, 114, 114, 111, 114]⟩] 9) (hv : Blk wr gv #[.int .i64 3, .bool false, .int .i64 0, .string ⟨v20.toArray⟩, .slice none 0 0, .slice none 0 0, .int .i64 i.sort, .bool i.on, .int .i64 i.n, .string ⟨i.text.toArray⟩, .slice i.a i.list.length i.c, .slice i.ka i.keys.length i.kc, .int .i64 r.sort, .bool r.on, .int .i64 r.n, .string ⟨r.text.toArray⟩, .slice r.a r.list.length r.c, .slice r.ka r.keys.length r.kc] 26) (h0 : gr < W0.heap.size) (h1 : w.heap.size ≤ gr) (hgk : W0.heap.size ≤ gk) (hgv : W0.heap.size ≤ gv) :
    DocE w (recW [(kJson, strW v20), (kId, i.v), (kError, r.v)]) (.returned (.agg #[.int .i64 5, .bool false, .int .i64 0, .string { data := #[] }, .slice (some ⟨gv, 0, none⟩) 3 3, .slice (some ⟨gk, 0, none⟩) 3 3]))
      (put6 wr gr o (.int .i64 5) (.bool false) (.int .i64 0) (.string { data := #[] }) (.slice (some ⟨gv, 0, none⟩) 3 3) (.slice (some ⟨gk, 0, none⟩) 3 3)) := by
  have hbw : Below w.heap.size w (put6 wr gr o (.int .i64 5) (.bool false) (.int .i64 0) (.string { data := #[] }) (.slice (some ⟨gv, 0, none⟩) 3 3) (.slice (some ⟨gk, 0, none⟩) 3 3)) := put6_below (hw.trans (hb.mono hw.size)) (by omega)
  refine ⟨VD.mk 5 false 0 [] (some ⟨gv, 0, none⟩) 3 [VD.mk 3 false 0 v20 none 0 [] none 0 [], i, r] (some ⟨gk, 0, none⟩) 3 [kJson, kId, kError], rfl, rfl, ?_, hbw⟩
  have hvo : Blk (put6 wr gr o (.int .i64 5) (.bool false) (.int .i64 0) (.string { data := #[] }) (.slice (some ⟨gv, 0, none⟩) 3 3) (.slice (some ⟨gk, 0, none⟩) 3 3)) gv #[.int .i64 3, .bool false, .int .i64 0, .string ⟨v20.toArray⟩, .slice none 0 0, .slice none 0 0, .int .i64 i.sort, .bool i.on, .int .i64 i.n, .string ⟨i.text.toArray⟩, .slice i.a i.list.length i.c, .slice i.ka i.keys.length i.kc, .int .i64 r.sort, .bool r.on, .int .i64 r.n, .string ⟨r.text.toArray⟩, .slice r.a r.list.length r.c, .slice r.ka r.keys.length r.kc] 26 := (put6_other (by omega)).trans hv
  have hko : Blk (put6 wr gr o (.int .i64 5) (.bool false) (.int .i64 0) (.string { data := #[] }) (.slice (some ⟨gv, 0, none⟩) 3 3) (.slice (some ⟨gk, 0, none⟩) 3 3)) gk #[.string ⟨#[106, 115, 111, 110, 114, 112, 99]⟩, .string ⟨#[105, 100]⟩, .string ⟨#[101, 114, 114, 111, 114]⟩] 9 := (put6_other (by omega)).trans hk
  refine .mk (row_blk (T := 26) (by obtain ⟨_, _, _, _, _, _, _, _, _, _⟩ := i; obtain ⟨_, _, _, _, _, _, _, _, _, _⟩ := r; exact hvo) (by obtain ⟨_, _, _, _, _, _, _, _, _, _⟩ := i; obtain ⟨_, _, _, _, _, _, _, _, _, _⟩ := r; rfl)) (row_blk (T := 9) hko rfl) (fun _ _ _ => trivial) (fun _ _ _ => trivial) (fun x hx => ?_)
  simp only [List.mem_cons, List.mem_nil_iff, or_false] at hx
  rcases hx with rfl | rfl | rfl
  · exact .leaf
  · exact hi.ext hbw
  · exact ((hr.ext hb).congr fun g h _ => put6_other h).mono fun _ _ _ => trivial
set_option maxHeartbeats 4000000 in
set_option maxRecDepth 20000 in
theorem failR_any (i : VD) (e : Int) (w : World) (hi : ValAt w (fun _ => True) i) : Calls Tryz.prog 19 #[i.val, .int .i64 e] w (DocE w (failW i.v e)) := by
  obtain ⟨n, hn⟩ : ∃ n, n = codeN e := ⟨_, rfl⟩
  obtain ⟨s, hs⟩ : ∃ s, s = codeNm n := ⟨_, rfl⟩
  have h1 : ∀ w, Calls Tryz.prog 23 #[.int .i64 e] w (fun r w' => r = .returned (.int .i64 n) ∧ Below w.heap.size w w') := fun w => by rw [hn]; exact codeR_any e w
  have h2 : ∀ w, Calls Tryz.prog 42 #[.int .i64 n] w (fun r w' => r = .returned (.string ⟨s.toArray⟩) ∧ Below w.heap.size w w') := fun w => by rw [hs]; exact nameR_any n w
  have HFW0 : Hid (∀ x : V, x = recW [(kCode, numW n), (kMessage, strW s)] → failW i.v e = recW [(kJson, strW v20), (kId, i.v), (kError, x)]) := Lib.hid fun x hx => by unfold failW; rw [hx, hs, hn]
  have HC := Lib.hid h1
  have HN := Lib.hid h2
  clear h1 h2 hs hn
  obtain ⟨A, hA⟩ : ∃ A, A = (w.alloc (.cells #[.int .i64 i.sort, .bool i.on, .int .i64 i.n, .string ⟨i.text.toArray⟩, .slice i.a i.list.length i.c, .slice i.ka i.keys.length i.kc] 26)).alloc (.cells #[.int .i64 0, .bool false, .int .i64 0, .string { data := #[] }, .slice none 0 0, .slice none 0 0] 26) := ⟨_, rfl⟩
  have HI : Hid (Blk A w.heap.size #[.int .i64 i.sort, .bool i.on, .int .i64 i.n, .string ⟨i.text.toArray⟩, .slice i.a i.list.length i.c, .slice i.ka i.keys.length i.kc] 26) := Lib.hid (by rw [hA]; exact (Blk.new rfl).alloc _)
  have HZ : Hid (Blk A (w.heap.size + 1) #[.int .i64 0, .bool false, .int .i64 0, .string { data := #[] }, .slice none 0 0, .slice none 0 0] 26) := Lib.hid (by rw [hA]; exact Blk.new (by simp))
  have HB : Hid (Below w.heap.size w A) := Lib.hid (by rw [hA]; exact (below_a1 w _).alloc (by simp) _)
  have HVI := Lib.hid hi
  rw [VD.val6]
  clear hi
  go_enter Tryz.func19, Tryz.ntmps19
  go_upto_region 1 with (fail)
  rw [← hA]
  clear hA
  go_wp2_with fail
  refine (HC.out A).mono ?_
  rintro e w1 ⟨rfl, hb⟩
  have HB2 := Lib.hid (HB.out.trans (hb.mono HB.out.size))
  clear HB
  have HB := HB2
  clear HB2
  have HIn := Lib.hid (HI.out.ext hb)
  clear HI
  have HI := HIn
  clear HIn
  have HZn := Lib.hid (HZ.out.ext hb)
  clear HZ
  have HZ := HZn
  clear HZn
  clear hb
  go_upto_region 2 with (fail)
  obtain ⟨gc, hgc⟩ : ∃ q, q = w1.heap.size := ⟨_, rfl⟩
  obtain ⟨w2, hw2⟩ : ∃ q, q = w1.alloc (.cells #[.string ⟨#[99, 111, 100, 101]⟩, .string ⟨#[109, 101, 115, 115, 97, 103, 101]⟩] 9) := ⟨_, rfl⟩
  have hb : Below w1.heap.size w1 w2 := by rw [hw2]; exact below_a1 _ _
  have HKK : Hid (Blk w2 gc #[.string ⟨#[99, 111, 100, 101]⟩, .string ⟨#[109, 101, 115, 115, 97, 103, 101]⟩] 9) := Lib.hid (by rw [hw2, hgc]; exact Blk.new rfl)
  have HGC : Hid (w.heap.size + 1 < gc) := Lib.hid (by have := HZ.out.lt; omega)
  have HB2 := Lib.hid (HB.out.trans (hb.mono HB.out.size))
  clear HB
  have HB := HB2
  clear HB2
  have HIn := Lib.hid (HI.out.ext hb)
  clear HI
  have HI := HIn
  clear HIn
  have HZn := Lib.hid (HZ.out.ext hb)
  clear HZ
  have HZ := HZn
  clear HZn
  clear hb
  go_wp2_with fail
  rw [← hw2, ← hgc]
  clear hw2 hgc
  refine (numR_any n w2).mono ?_
  rintro e w3 ⟨rfl, hb⟩
  have HB2 := Lib.hid (HB.out.trans (hb.mono HB.out.size))
  clear HB
  have HB := HB2
  clear HB2
  have HIn := Lib.hid (HI.out.ext hb)
  clear HI
  have HI := HIn
  clear HIn
  have HZn := Lib.hid (HZ.out.ext hb)
  clear HZ
  have HZ := HZn
  clear HZn
  have HKKn := Lib.hid (HKK.out.ext hb)
  clear HKK
  have HKK := HKKn
  clear HKKn
  clear hb
  go_wp2_with fail
  refine (HN.out w3).mono ?_
  rintro e w4 ⟨rfl, hb⟩
  have HB2 := Lib.hid (HB.out.trans (hb.mono HB.out.size))
  clear HB
  have HB := HB2
  clear HB2
  have HIn := Lib.hid (HI.out.ext hb)
  clear HI
  have HI := HIn
  clear HIn
  have HZn := Lib.hid (HZ.out.ext hb)
  clear HZ
  have HZ := HZn
  clear HZn
  have HKKn := Lib.hid (HKK.out.ext hb)
  clear HKK
  have HKK := HKKn
  clear HKKn
  clear hb
  go_wp2_with fail
  refine (strR_any s w4).mono ?_
  rintro e w5 ⟨rfl, hb⟩
  have HB2 := Lib.hid (HB.out.trans (hb.mono HB.out.size))
  clear HB
  have HB := HB2
  clear HB2
  have HIn := Lib.hid (HI.out.ext hb)
  clear HI
  have HI := HIn
  clear HIn
  have HZn := Lib.hid (HZ.out.ext hb)
  clear HZ
  have HZ := HZn
  clear HZn
  have HKKn := Lib.hid (HKK.out.ext hb)
  clear HKK
  have HKK := HKKn
  clear HKKn
  clear hb
  obtain ⟨gu, hgu⟩ : ∃ q, q = w5.heap.size := ⟨_, rfl⟩
  obtain ⟨w6, hw6⟩ : ∃ q, q = w5.alloc (.cells #[.int .i64 2, .bool false, .int .i64 n, .string { data := #[] }, .slice none 0 0, .slice none 0 0, .int .i64 3, .bool false, .int .i64 0, .string ⟨s.toArray⟩, .slice none 0 0, .slice none 0 0] 26) := ⟨_, rfl⟩
  have hb : Below w5.heap.size w5 w6 := by rw [hw6]; exact below_a1 _ _
  have HVV : Hid (Blk w6 gu #[.int .i64 2, .bool false, .int .i64 n, .string { data := #[] }, .slice none 0 0, .slice none 0 0, .int .i64 3, .bool false, .int .i64 0, .string ⟨s.toArray⟩, .slice none 0 0, .slice none 0 0] 26) := Lib.hid (by rw [hw6, hgu]; exact Blk.new rfl)
  have HGU : Hid (w.heap.size + 1 < gu) := Lib.hid (by have := HZ.out.lt; omega)
  have HB2 := Lib.hid (HB.out.trans (hb.mono HB.out.size))
  clear HB
  have HB := HB2
  clear HB2
  have HIn := Lib.hid (HI.out.ext hb)
  clear HI
  have HI := HIn
  clear HIn
  have HZn := Lib.hid (HZ.out.ext hb)
  clear HZ
  have HZ := HZn
  clear HZn
  have HKKn := Lib.hid (HKK.out.ext hb)
  clear HKK
  have HKK := HKKn
  clear HKKn
  clear hb
  go_wp2_with fail
  rw [← hw6, ← hgu]
  clear hw6 hgu
  refine (recR_any (some ⟨gc, 0, none⟩) (some ⟨gu, 0, none⟩) 2 2 2 2 w6).mono ?_
  rintro e w7 ⟨rfl, hb⟩
  have HB2 := Lib.hid (HB.out.trans (hb.mono HB.out.size))
  clear HB
  have HB := HB2
  clear HB2
  have HIn := Lib.hid (HI.out.ext hb)
  clear HI
  have HI := HIn
  clear HIn
  have HZn := Lib.hid (HZ.out.ext hb)
  clear HZ
  have HZ := HZn
  clear HZn
  have HKKn := Lib.hid (HKK.out.ext hb)
  clear HKK
  have HKK := HKKn
  clear HKKn
  have HVVn := Lib.hid (HVV.out.ext hb)
  clear HVV
  have HVV := HVVn
  clear HVVn
  clear hb
  obtain ⟨r, hr⟩ : ∃ r : VD, r = VD.mk 5 false 0 [] (some ⟨gu, 0, none⟩) 2 [numD n, strD s] (some ⟨gc, 0, none⟩) 2 [kCode, kMessage] := ⟨_, rfl⟩
  have q1 : ∀ g, blockOf (some (⟨gu, 0, none⟩ : Addr)) = some g → g ≠ w.heap.size + 1 := fun g hg => by simp [blockOf] at hg; have := HGU.out; omega
  have q2 : ∀ g, blockOf (some (⟨gc, 0, none⟩ : Addr)) = some g → g ≠ w.heap.size + 1 := fun g hg => by simp [blockOf] at hg; have := HGC.out; omega
  have HVR : Hid (ValAt w7 (fun g => g ≠ w.heap.size + 1) r) := Lib.hid (by
    rw [hr]
    refine .mk (row_blk (T := 26) HVV.out rfl) (row_blk (T := 9) HKK.out rfl) (fun g _ hg => q1 g hg) (fun g _ hg => q2 g hg) (fun x hx => ?_)
    simp only [List.mem_cons, List.mem_nil_iff, or_false] at hx
    rcases hx with rfl | rfl
    · exact .leaf
    · exact .leaf)
  clear q1 q2
  have HFW : Hid (failW i.v _ = recW [(kJson, strW v20), (kId, i.v), (kError, r.v)]) := Lib.hid (HFW0.out _ (by rw [hr]; rfl))
  obtain ⟨g6, hg6⟩ : ∃ q, q = w7.heap.size := ⟨_, rfl⟩
  obtain ⟨W0, hW0⟩ : ∃ q, q = w7.alloc (.cells #[.int .i64 r.sort, .bool r.on, .int .i64 r.n, .string ⟨r.text.toArray⟩, .slice r.a r.list.length r.c, .slice r.ka r.keys.length r.kc] 26) := ⟨_, rfl⟩
  have hb : Below w7.heap.size w7 W0 := by rw [hW0]; exact below_a1 _ _
  have HR : Hid (Blk W0 g6 #[.int .i64 r.sort, .bool r.on, .int .i64 r.n, .string ⟨r.text.toArray⟩, .slice r.a r.list.length r.c, .slice r.ka r.keys.length r.kc] 26) := Lib.hid (by rw [hW0, hg6]; exact Blk.new rfl)
  have HB2 := Lib.hid (HB.out.trans (hb.mono HB.out.size))
  clear HB
  have HB := HB2
  clear HB2
  have HIn := Lib.hid (HI.out.ext hb)
  clear HI
  have HI := HIn
  clear HIn
  have HZn := Lib.hid (HZ.out.ext hb)
  clear HZ
  have HZ := HZn
  clear HZn
  have HVRn := Lib.hid (HVR.out.ext hb)
  clear HVR
  have HVR := HVRn
  clear HVRn
  clear hb
  have HW := HB
  clear HB
  have hr6 : (Value.agg #[.int .i64 5, .bool false, .int .i64 0, .string { data := #[] }, .slice (some ⟨gu, 0, none⟩) 2 2, .slice (some ⟨gc, 0, none⟩) 2 2]) = .agg #[.int .i64 r.sort, .bool r.on, .int .i64 r.n, .string ⟨r.text.toArray⟩, .slice r.a r.list.length r.c, .slice r.ka r.keys.length r.kc] := by first | (rw [hr]; done) | (rw [hr]; rfl)
  rw [hr6]
  clear hr6 hr HFW0
  go_upto_region 3 with (fail)
  rw [← hW0, ← hg6]
  have hne6 : g6 ≠ w.heap.size + 1 := by have := HZ.out; have h7 := HVR.out; rw [hg6]; have := HGU.out; have := HGC.out; have h8 := hg6; intro h9; have := HKK.out.lt; omega
  clear hW0 hg6
  have hw0 := HZ.out.lt
  have HK : Hid (∀ w' : World, (∀ k, k < W0.heap.size → k ≠ w.heap.size + 1 → w'.heap[k]? = W0.heap[k]?) → (w'.cell? ⟨w.heap.size, 0, none⟩ = some (.int .i64 i.sort) ∧ w'.cell? ⟨w.heap.size, 1, none⟩ = some (.bool i.on) ∧ w'.cell? ⟨w.heap.size, 2, none⟩ = some (.int .i64 i.n) ∧ w'.cell? ⟨w.heap.size, 3, none⟩ = some (.string ⟨i.text.toArray⟩) ∧ w'.cell? ⟨w.heap.size, 4, none⟩ = some (.slice i.a i.list.length i.c) ∧ w'.cell? ⟨w.heap.size, 5, none⟩ = some (.slice i.ka i.keys.length i.kc)) ∧ (w'.cell? ⟨g6, 0, none⟩ = some (.int .i64 r.sort) ∧ w'.cell? ⟨g6, 1, none⟩ = some (.bool r.on) ∧ w'.cell? ⟨g6, 2, none⟩ = some (.int .i64 r.n) ∧ w'.cell? ⟨g6, 3, none⟩ = some (.string ⟨r.text.toArray⟩) ∧ w'.cell? ⟨g6, 4, none⟩ = some (.slice r.a r.list.length r.c) ∧ w'.cell? ⟨g6, 5, none⟩ = some (.slice r.ka r.keys.length r.kc))) := Lib.hid fun w' hb => ⟨Blk.sixT ((hb _ (by omega) (by omega)).trans HI.out), Blk.sixT ((hb _ HR.out.lt hne6).trans HR.out)⟩
  have HB0 : Hid (Below W0.heap.size W0 W0.drew) := Lib.hid (Below.refl _ _).drew
  obtain ⟨Wd, hWd⟩ : ∃ Wd, Wd = W0.drew := ⟨_, rfl⟩
  have HB : Hid (Below W0.heap.size W0 Wd) := Lib.hid (by rw [hWd]; exact HB0.out)
  refine wp_region_held_drew (S := fun w' => (w'.cell? ⟨w.heap.size, 0, none⟩ = some (.int .i64 i.sort) ∧ w'.cell? ⟨w.heap.size, 1, none⟩ = some (.bool i.on) ∧ w'.cell? ⟨w.heap.size, 2, none⟩ = some (.int .i64 i.n) ∧ w'.cell? ⟨w.heap.size, 3, none⟩ = some (.string ⟨i.text.toArray⟩) ∧ w'.cell? ⟨w.heap.size, 4, none⟩ = some (.slice i.a i.list.length i.c) ∧ w'.cell? ⟨w.heap.size, 5, none⟩ = some (.slice i.ka i.keys.length i.kc)) ∧ (w'.cell? ⟨g6, 0, none⟩ = some (.int .i64 r.sort) ∧ w'.cell? ⟨g6, 1, none⟩ = some (.bool r.on) ∧ w'.cell? ⟨g6, 2, none⟩ = some (.int .i64 r.n) ∧ w'.cell? ⟨g6, 3, none⟩ = some (.string ⟨r.text.toArray⟩) ∧ w'.cell? ⟨g6, 4, none⟩ = some (.slice r.a r.list.length r.c) ∧ w'.cell? ⟨g6, 5, none⟩ = some (.slice r.ka r.keys.length r.kc))) (by kernel_rfl) ?_ (fun hHeld => ?_)
  · exact HK.out _ (fun k hk _ => HB0.out.block k hk)
  rw [← hWd] at hHeld ⊢
  clear hWd HB0
  refine wpAnyH_take (i := 2) (oi := ⟨some 19, _, _, _, _, _⟩) (v := ?_) rfl (by kernel_rfl) (by kernel_rfl) (by kernel_rfl) (fun _ _ _ h => h) (Or.inl ⟨by rfl, ?_⟩) (by assumption) ?_; rotate_left; focus (intro w hSw; (try dsimp only at hSw); obtain ⟨⟨a0, a1, a2, a3, a4, a5⟩, b0, b1, b2, b3, b4, b5⟩ := hSw; first | (go_simp; done) | (go_simp; with_reducible rfl))
  try simp only [Act.put]
  try simp only [List.setIfInBounds_toArray]
  try simp only [List.set_cons_succ, List.set_cons_zero]
  refine wpAnyH_take (i := 3) (oi := ⟨some 20, _, _, _, _, _⟩) (v := ?_) rfl (by kernel_rfl) (by kernel_rfl) (by kernel_rfl) (fun _ _ _ h => h) (Or.inl ⟨by rfl, ?_⟩) (by assumption) ?_; rotate_left; focus (intro w hSw; (try dsimp only at hSw); obtain ⟨⟨a0, a1, a2, a3, a4, a5⟩, b0, b1, b2, b3, b4, b5⟩ := hSw; first | (go_simp; done) | (go_simp; with_reducible rfl))
  try simp only [Act.put]
  try simp only [List.setIfInBounds_toArray]
  try simp only [List.set_cons_succ, List.set_cons_zero]
  refine wpAnyH_ready (rs := [0, 1]) (by kernel_rfl) (by simp) ?_
  refine AllReadyH.cons (i := 0) (o := ⟨some 17, _, _, _, _, _⟩) rfl (fun K hK => ?_) ?_
  · obtain ⟨gk, hgk⟩ : ∃ gk, gk = Wd.heap.size := ⟨_, rfl⟩
    have HGK : Hid (W0.heap.size ≤ gk) := Lib.hid (by rw [hgk]; exact HB.out.size)
    obtain ⟨wk, hwk⟩ : ∃ wk, wk = Wd.alloc (.cells #[.string ⟨#[106, 115, 111, 110, 114, 112, 99]⟩, .string ⟨#[105, 100]⟩, .string ⟨#[101, 114, 114, 111, 114]⟩] 9) := ⟨_, rfl⟩
    have HBwk : Hid (Below W0.heap.size W0 wk) := Lib.hid (by rw [hwk]; exact HB.out.alloc HB.out.size _)
    have HKB : Hid (Blk wk gk #[.string ⟨#[106, 115, 111, 110, 114, 112, 99]⟩, .string ⟨#[105, 100]⟩, .string ⟨#[101, 114, 114, 111, 114]⟩] 9) := Lib.hid (by rw [hwk, hgk]; exact Blk.new rfl)
    try have HKB := Lib.hid (HKB.out.ext (show Below Wd.heap.size Wd wk by rw [hwk]; exact below_a1 _ _))
    try have HVB := Lib.hid (HVB.out.ext (show Below Wd.heap.size Wd wk by rw [hwk]; exact below_a1 _ _))
    clear HB
    have HB := HBwk
    clear HBwk
    go_simp
    rw [← hwk]
    clear hwk
    rw [← hgk]
    clear hgk
    refine hK.out _ _ ?_ (fun hHeld => ?_)
    · exact HK.out _ (fun k hk _ => HB.out.block k hk)
    try simp only [Act.put]
    try simp only [List.setIfInBounds_toArray]
    try simp only [List.set_cons_succ, List.set_cons_zero]
    refine wpAnyH_ready (rs := [1]) (by kernel_rfl) (by simp) ?_
    refine AllReadyH.cons (i := 1) (o := ⟨some 18, _, _, _, _, _⟩) rfl (fun K hK => ?_) ?_
    · go_simp
      refine (strR_any v20 wk).mono ?_
      rintro e ws ⟨rfl, hbs⟩
      have HBs : Hid (Below W0.heap.size W0 ws) := Lib.hid (HB.out.trans (hbs.mono HB.out.size))
      try have HKB := Lib.hid (HKB.out.ext hbs)
      clear HB
      have HB := HBs
      clear HBs
      refine hK.out _ _ ?_ (fun hHeld => ?_)
      · exact HK.out _ (fun k hk _ => HB.out.block k hk)
      try simp only [Act.put]
      try simp only [List.setIfInBounds_toArray]
      try simp only [List.set_cons_succ, List.set_cons_zero]
      refine wpAnyH_ready (rs := [4]) (by kernel_rfl) (by simp) ?_
      refine AllReadyH.cons (i := 4) (o := ⟨some 21, _, _, _, _, _⟩) rfl (fun K hK => ?_) ?_
      · obtain ⟨gv, hgv⟩ : ∃ gv, gv = ws.heap.size := ⟨_, rfl⟩
        have HGV : Hid (W0.heap.size ≤ gv) := Lib.hid (by rw [hgv]; exact HB.out.size)
        obtain ⟨wv, hwv⟩ : ∃ wv, wv = ws.alloc (.cells #[.int .i64 3, .bool false, .int .i64 0, .string ⟨v20.toArray⟩, .slice none 0 0, .slice none 0 0, .int .i64 i.sort, .bool i.on, .int .i64 i.n, .string ⟨i.text.toArray⟩, .slice i.a i.list.length i.c, .slice i.ka i.keys.length i.kc, .int .i64 r.sort, .bool r.on, .int .i64 r.n, .string ⟨r.text.toArray⟩, .slice r.a r.list.length r.c, .slice r.ka r.keys.length r.kc] 26) := ⟨_, rfl⟩
        have HBwv : Hid (Below W0.heap.size W0 wv) := Lib.hid (by rw [hwv]; exact HB.out.alloc HB.out.size _)
        have HVB : Hid (Blk wv gv #[.int .i64 3, .bool false, .int .i64 0, .string ⟨v20.toArray⟩, .slice none 0 0, .slice none 0 0, .int .i64 i.sort, .bool i.on, .int .i64 i.n, .string ⟨i.text.toArray⟩, .slice i.a i.list.length i.c, .slice i.ka i.keys.length i.kc, .int .i64 r.sort, .bool r.on, .int .i64 r.n, .string ⟨r.text.toArray⟩, .slice r.a r.list.length r.c, .slice r.ka r.keys.length r.kc] 26) := Lib.hid (by rw [hwv, hgv]; exact Blk.new rfl)
        try have HKB := Lib.hid (HKB.out.ext (show Below ws.heap.size ws wv by rw [hwv]; exact below_a1 _ _))
        try have HVB := Lib.hid (HVB.out.ext (show Below ws.heap.size ws wv by rw [hwv]; exact below_a1 _ _))
        clear HB
        have HB := HBwv
        clear HBwv
        go_simp
        rw [← hwv]
        clear hwv
        rw [← hgv]
        clear hgv
        refine hK.out _ _ ?_ (fun hHeld => ?_)
        · exact HK.out _ (fun k hk _ => HB.out.block k hk)
        try simp only [Act.put]
        try simp only [List.setIfInBounds_toArray]
        try simp only [List.set_cons_succ, List.set_cons_zero]
        refine wpAnyH_ready (rs := [5]) (by kernel_rfl) (by simp) ?_
        refine AllReadyH.cons (i := 5) (o := ⟨some 22, _, _, _, _, _⟩) rfl (fun K hK => ?_) ?_
        · go_simp
          refine (recR_any (some ⟨gk, 0, none⟩) (some ⟨gv, 0, none⟩) 3 3 3 3 _).mono ?_
          rintro e wr ⟨rfl, hbr⟩
          have HBr : Hid (Below W0.heap.size W0 wr) := Lib.hid (HB.out.trans (hbr.mono HB.out.size))
          have HKBr := Lib.hid (HKB.out.ext hbr)
          have HVBr := Lib.hid (HVB.out.ext hbr)
          clear HB hbr
          have HB := HBr
          clear HBr
          have HZr := Lib.hid (HZ.out.ext HB.out)
          have f0 := HZr.out.free 0
          have f1 := HZr.out.free 1
          have f2 := HZr.out.free 2
          have f3 := HZr.out.free 3
          have f4 := HZr.out.free 4
          have f5 := HZr.out.free 5
          obtain ⟨z0, z1, z2, z3, z4, z5⟩ := HZr.out.sixT
          refine hK.out _ _ ?_ (fun hHeld => ?_)
          · exact HK.out _ (fun k hk _ => HB.out.block k hk)
          try simp only [Act.put]
          try simp only [List.setIfInBounds_toArray]
          try simp only [List.set_cons_succ, List.set_cons_zero]
          refine wpAnyH_ready (rs := [6]) (by kernel_rfl) (by simp) ?_
          refine AllReadyH.cons (i := 6) (o := ⟨none, _, _, _, _, _⟩) rfl (fun K hK => ?_) ?_
          · go_simp
            refine hK.out _ _ ?_ (fun hHeld => ?_)
            · exact HK.out _ (fun k hk hne => (put6_other (g := w.heap.size + 1) hne).trans (HB.out.block k hk))
            try simp only [Act.put]
            try simp only [List.setIfInBounds_toArray]
            try simp only [List.set_cons_succ, List.set_cons_zero]
            refine wpAnyH_done (by kernel_rfl) ?_ _
            clear hHeld
            go_wp2
            refine failR_end (g := w.heap.size + 1) rfl (store6 HZr.out) ?_
            rw [HFW.out]
            exact doc3e (o := 0) HVI.out HVR.out HW.out HB.out HKBr.out HVBr.out HZ.out.lt (by omega) HGK.out HGV.out
          exact AllReadyH.nil
        exact AllReadyH.nil
      exact AllReadyH.nil
    exact AllReadyH.nil
  refine AllReadyH.cons (i := 1) (o := ⟨some 18, _, _, _, _, _⟩) rfl (fun K hK => ?_) ?_
  · go_simp
    refine (strR_any v20 Wd).mono ?_
    rintro e ws ⟨rfl, hbs⟩
    have HBs : Hid (Below W0.heap.size W0 ws) := Lib.hid (HB.out.trans (hbs.mono HB.out.size))
    try have HKB := Lib.hid (HKB.out.ext hbs)
    clear HB
    have HB := HBs
    clear HBs
    refine hK.out _ _ ?_ (fun hHeld => ?_)
    · exact HK.out _ (fun k hk _ => HB.out.block k hk)
    try simp only [Act.put]
    try simp only [List.setIfInBounds_toArray]
    try simp only [List.set_cons_succ, List.set_cons_zero]
    refine wpAnyH_ready (rs := [0, 4]) (by kernel_rfl) (by simp) ?_
    refine AllReadyH.cons (i := 0) (o := ⟨some 17, _, _, _, _, _⟩) rfl (fun K hK => ?_) ?_
    · obtain ⟨gk, hgk⟩ : ∃ gk, gk = ws.heap.size := ⟨_, rfl⟩
      have HGK : Hid (W0.heap.size ≤ gk) := Lib.hid (by rw [hgk]; exact HB.out.size)
      obtain ⟨wk, hwk⟩ : ∃ wk, wk = ws.alloc (.cells #[.string ⟨#[106, 115, 111, 110, 114, 112, 99]⟩, .string ⟨#[105, 100]⟩, .string ⟨#[101, 114, 114, 111, 114]⟩] 9) := ⟨_, rfl⟩
      have HBwk : Hid (Below W0.heap.size W0 wk) := Lib.hid (by rw [hwk]; exact HB.out.alloc HB.out.size _)
      have HKB : Hid (Blk wk gk #[.string ⟨#[106, 115, 111, 110, 114, 112, 99]⟩, .string ⟨#[105, 100]⟩, .string ⟨#[101, 114, 114, 111, 114]⟩] 9) := Lib.hid (by rw [hwk, hgk]; exact Blk.new rfl)
      try have HKB := Lib.hid (HKB.out.ext (show Below ws.heap.size ws wk by rw [hwk]; exact below_a1 _ _))
      try have HVB := Lib.hid (HVB.out.ext (show Below ws.heap.size ws wk by rw [hwk]; exact below_a1 _ _))
      clear HB
      have HB := HBwk
      clear HBwk
      go_simp
      rw [← hwk]
      clear hwk
      rw [← hgk]
      clear hgk
      refine hK.out _ _ ?_ (fun hHeld => ?_)
      · exact HK.out _ (fun k hk _ => HB.out.block k hk)
      try simp only [Act.put]
      try simp only [List.setIfInBounds_toArray]
      try simp only [List.set_cons_succ, List.set_cons_zero]
      refine wpAnyH_ready (rs := [4]) (by kernel_rfl) (by simp) ?_
      refine AllReadyH.cons (i := 4) (o := ⟨some 21, _, _, _, _, _⟩) rfl (fun K hK => ?_) ?_
      · obtain ⟨gv, hgv⟩ : ∃ gv, gv = wk.heap.size := ⟨_, rfl⟩
        have HGV : Hid (W0.heap.size ≤ gv) := Lib.hid (by rw [hgv]; exact HB.out.size)
        obtain ⟨wv, hwv⟩ : ∃ wv, wv = wk.alloc (.cells #[.int .i64 3, .bool false, .int .i64 0, .string ⟨v20.toArray⟩, .slice none 0 0, .slice none 0 0, .int .i64 i.sort, .bool i.on, .int .i64 i.n, .string ⟨i.text.toArray⟩, .slice i.a i.list.length i.c, .slice i.ka i.keys.length i.kc, .int .i64 r.sort, .bool r.on, .int .i64 r.n, .string ⟨r.text.toArray⟩, .slice r.a r.list.length r.c, .slice r.ka r.keys.length r.kc] 26) := ⟨_, rfl⟩
        have HBwv : Hid (Below W0.heap.size W0 wv) := Lib.hid (by rw [hwv]; exact HB.out.alloc HB.out.size _)
        have HVB : Hid (Blk wv gv #[.int .i64 3, .bool false, .int .i64 0, .string ⟨v20.toArray⟩, .slice none 0 0, .slice none 0 0, .int .i64 i.sort, .bool i.on, .int .i64 i.n, .string ⟨i.text.toArray⟩, .slice i.a i.list.length i.c, .slice i.ka i.keys.length i.kc, .int .i64 r.sort, .bool r.on, .int .i64 r.n, .string ⟨r.text.toArray⟩, .slice r.a r.list.length r.c, .slice r.ka r.keys.length r.kc] 26) := Lib.hid (by rw [hwv, hgv]; exact Blk.new rfl)
        try have HKB := Lib.hid (HKB.out.ext (show Below wk.heap.size wk wv by rw [hwv]; exact below_a1 _ _))
        try have HVB := Lib.hid (HVB.out.ext (show Below wk.heap.size wk wv by rw [hwv]; exact below_a1 _ _))
        clear HB
        have HB := HBwv
        clear HBwv
        go_simp
        rw [← hwv]
        clear hwv
        rw [← hgv]
        clear hgv
        refine hK.out _ _ ?_ (fun hHeld => ?_)
        · exact HK.out _ (fun k hk _ => HB.out.block k hk)
        try simp only [Act.put]
        try simp only [List.setIfInBounds_toArray]
        try simp only [List.set_cons_succ, List.set_cons_zero]
        refine wpAnyH_ready (rs := [5]) (by kernel_rfl) (by simp) ?_
        refine AllReadyH.cons (i := 5) (o := ⟨some 22, _, _, _, _, _⟩) rfl (fun K hK => ?_) ?_
        · go_simp
          refine (recR_any (some ⟨gk, 0, none⟩) (some ⟨gv, 0, none⟩) 3 3 3 3 _).mono ?_
          rintro e wr ⟨rfl, hbr⟩
          have HBr : Hid (Below W0.heap.size W0 wr) := Lib.hid (HB.out.trans (hbr.mono HB.out.size))
          have HKBr := Lib.hid (HKB.out.ext hbr)
          have HVBr := Lib.hid (HVB.out.ext hbr)
          clear HB hbr
          have HB := HBr
          clear HBr
          have HZr := Lib.hid (HZ.out.ext HB.out)
          have f0 := HZr.out.free 0
          have f1 := HZr.out.free 1
          have f2 := HZr.out.free 2
          have f3 := HZr.out.free 3
          have f4 := HZr.out.free 4
          have f5 := HZr.out.free 5
          obtain ⟨z0, z1, z2, z3, z4, z5⟩ := HZr.out.sixT
          refine hK.out _ _ ?_ (fun hHeld => ?_)
          · exact HK.out _ (fun k hk _ => HB.out.block k hk)
          try simp only [Act.put]
          try simp only [List.setIfInBounds_toArray]
          try simp only [List.set_cons_succ, List.set_cons_zero]
          refine wpAnyH_ready (rs := [6]) (by kernel_rfl) (by simp) ?_
          refine AllReadyH.cons (i := 6) (o := ⟨none, _, _, _, _, _⟩) rfl (fun K hK => ?_) ?_
          · go_simp
            refine hK.out _ _ ?_ (fun hHeld => ?_)
            · exact HK.out _ (fun k hk hne => (put6_other (g := w.heap.size + 1) hne).trans (HB.out.block k hk))
            try simp only [Act.put]
            try simp only [List.setIfInBounds_toArray]
            try simp only [List.set_cons_succ, List.set_cons_zero]
            refine wpAnyH_done (by kernel_rfl) ?_ _
            clear hHeld
            go_wp2
            refine failR_end (g := w.heap.size + 1) rfl (store6 HZr.out) ?_
            rw [HFW.out]
            exact doc3e (o := 0) HVI.out HVR.out HW.out HB.out HKBr.out HVBr.out HZ.out.lt (by omega) HGK.out HGV.out
          exact AllReadyH.nil
        exact AllReadyH.nil
      exact AllReadyH.nil
    refine AllReadyH.cons (i := 4) (o := ⟨some 21, _, _, _, _, _⟩) rfl (fun K hK => ?_) ?_
    · obtain ⟨gv, hgv⟩ : ∃ gv, gv = ws.heap.size := ⟨_, rfl⟩
      have HGV : Hid (W0.heap.size ≤ gv) := Lib.hid (by rw [hgv]; exact HB.out.size)
      obtain ⟨wv, hwv⟩ : ∃ wv, wv = ws.alloc (.cells #[.int .i64 3, .bool false, .int .i64 0, .string ⟨v20.toArray⟩, .slice none 0 0, .slice none 0 0, .int .i64 i.sort, .bool i.on, .int .i64 i.n, .string ⟨i.text.toArray⟩, .slice i.a i.list.length i.c, .slice i.ka i.keys.length i.kc, .int .i64 r.sort, .bool r.on, .int .i64 r.n, .string ⟨r.text.toArray⟩, .slice r.a r.list.length r.c, .slice r.ka r.keys.length r.kc] 26) := ⟨_, rfl⟩
      have HBwv : Hid (Below W0.heap.size W0 wv) := Lib.hid (by rw [hwv]; exact HB.out.alloc HB.out.size _)
      have HVB : Hid (Blk wv gv #[.int .i64 3, .bool false, .int .i64 0, .string ⟨v20.toArray⟩, .slice none 0 0, .slice none 0 0, .int .i64 i.sort, .bool i.on, .int .i64 i.n, .string ⟨i.text.toArray⟩, .slice i.a i.list.length i.c, .slice i.ka i.keys.length i.kc, .int .i64 r.sort, .bool r.on, .int .i64 r.n, .string ⟨r.text.toArray⟩, .slice r.a r.list.length r.c, .slice r.ka r.keys.length r.kc] 26) := Lib.hid (by rw [hwv, hgv]; exact Blk.new rfl)
      try have HKB := Lib.hid (HKB.out.ext (show Below ws.heap.size ws wv by rw [hwv]; exact below_a1 _ _))
      try have HVB := Lib.hid (HVB.out.ext (show Below ws.heap.size ws wv by rw [hwv]; exact below_a1 _ _))
      clear HB
      have HB := HBwv
      clear HBwv
      go_simp
      rw [← hwv]
      clear hwv
      rw [← hgv]
      clear hgv
      refine hK.out _ _ ?_ (fun hHeld => ?_)
      · exact HK.out _ (fun k hk _ => HB.out.block k hk)
      try simp only [Act.put]
      try simp only [List.setIfInBounds_toArray]
      try simp only [List.set_cons_succ, List.set_cons_zero]
      refine wpAnyH_ready (rs := [0]) (by kernel_rfl) (by simp) ?_
      refine AllReadyH.cons (i := 0) (o := ⟨some 17, _, _, _, _, _⟩) rfl (fun K hK => ?_) ?_
      · obtain ⟨gk, hgk⟩ : ∃ gk, gk = wv.heap.size := ⟨_, rfl⟩
        have HGK : Hid (W0.heap.size ≤ gk) := Lib.hid (by rw [hgk]; exact HB.out.size)
        obtain ⟨wk, hwk⟩ : ∃ wk, wk = wv.alloc (.cells #[.string ⟨#[106, 115, 111, 110, 114, 112, 99]⟩, .string ⟨#[105, 100]⟩, .string ⟨#[101, 114, 114, 111, 114]⟩] 9) := ⟨_, rfl⟩
        have HBwk : Hid (Below W0.heap.size W0 wk) := Lib.hid (by rw [hwk]; exact HB.out.alloc HB.out.size _)
        have HKB : Hid (Blk wk gk #[.string ⟨#[106, 115, 111, 110, 114, 112, 99]⟩, .string ⟨#[105, 100]⟩, .string ⟨#[101, 114, 114, 111, 114]⟩] 9) := Lib.hid (by rw [hwk, hgk]; exact Blk.new rfl)
        try have HKB := Lib.hid (HKB.out.ext (show Below wv.heap.size wv wk by rw [hwk]; exact below_a1 _ _))
        try have HVB := Lib.hid (HVB.out.ext (show Below wv.heap.size wv wk by rw [hwk]; exact below_a1 _ _))
        clear HB
        have HB := HBwk
        clear HBwk
        go_simp
        rw [← hwk]
        clear hwk
        rw [← hgk]
        clear hgk
        refine hK.out _ _ ?_ (fun hHeld => ?_)
        · exact HK.out _ (fun k hk _ => HB.out.block k hk)
        try simp only [Act.put]
        try simp only [List.setIfInBounds_toArray]
        try simp only [List.set_cons_succ, List.set_cons_zero]
        refine wpAnyH_ready (rs := [5]) (by kernel_rfl) (by simp) ?_
        refine AllReadyH.cons (i := 5) (o := ⟨some 22, _, _, _, _, _⟩) rfl (fun K hK => ?_) ?_
        · go_simp
          refine (recR_any (some ⟨gk, 0, none⟩) (some ⟨gv, 0, none⟩) 3 3 3 3 _).mono ?_
          rintro e wr ⟨rfl, hbr⟩
          have HBr : Hid (Below W0.heap.size W0 wr) := Lib.hid (HB.out.trans (hbr.mono HB.out.size))
          have HKBr := Lib.hid (HKB.out.ext hbr)
          have HVBr := Lib.hid (HVB.out.ext hbr)
          clear HB hbr
          have HB := HBr
          clear HBr
          have HZr := Lib.hid (HZ.out.ext HB.out)
          have f0 := HZr.out.free 0
          have f1 := HZr.out.free 1
          have f2 := HZr.out.free 2
          have f3 := HZr.out.free 3
          have f4 := HZr.out.free 4
          have f5 := HZr.out.free 5
          obtain ⟨z0, z1, z2, z3, z4, z5⟩ := HZr.out.sixT
          refine hK.out _ _ ?_ (fun hHeld => ?_)
          · exact HK.out _ (fun k hk _ => HB.out.block k hk)
          try simp only [Act.put]
          try simp only [List.setIfInBounds_toArray]
          try simp only [List.set_cons_succ, List.set_cons_zero]
          refine wpAnyH_ready (rs := [6]) (by kernel_rfl) (by simp) ?_
          refine AllReadyH.cons (i := 6) (o := ⟨none, _, _, _, _, _⟩) rfl (fun K hK => ?_) ?_
          · go_simp
            refine hK.out _ _ ?_ (fun hHeld => ?_)
            · exact HK.out _ (fun k hk hne => (put6_other (g := w.heap.size + 1) hne).trans (HB.out.block k hk))
            try simp only [Act.put]
            try simp only [List.setIfInBounds_toArray]
            try simp only [List.set_cons_succ, List.set_cons_zero]
            refine wpAnyH_done (by kernel_rfl) ?_ _
            clear hHeld
            go_wp2
            refine failR_end (g := w.heap.size + 1) rfl (store6 HZr.out) ?_
            rw [HFW.out]
            exact doc3e (o := 0) HVI.out HVR.out HW.out HB.out HKBr.out HVBr.out HZ.out.lt (by omega) HGK.out HGV.out
          exact AllReadyH.nil
        exact AllReadyH.nil
      exact AllReadyH.nil
    exact AllReadyH.nil
  exact AllReadyH.nil
end Go.Proofs.YthnbeebilomchaaGreatDoor

namespace Go.Proofs.YthnbeebilomchaaGreatDoor
open Go Go.RowKit

set_option maxHeartbeats 4000000 in
set_option maxRecDepth 20000 in
theorem replyP_any (P : Nat → Prop) (i r : VD) (w : World) (hP : ∀ g, w.heap.size ≤ g → P g) (hi : ValAt w P i) (hr : ValAt w P r) : Calls Tryz.prog 14 #[i.val, r.val] w (DocP w P (replyW i.v r.v)) := by
  obtain ⟨W0, hW0⟩ : ∃ W0, W0 = ((w.alloc (.cells #[.int .i64 i.sort, .bool i.on, .int .i64 i.n, .string ⟨i.text.toArray⟩, .slice i.a i.list.length i.c, .slice i.ka i.keys.length i.kc] 36)).alloc (.cells #[.int .i64 r.sort, .bool r.on, .int .i64 r.n, .string ⟨r.text.toArray⟩, .slice r.a r.list.length r.c, .slice r.ka r.keys.length r.kc] 36)).alloc (.cells #[.int .i64 0, .bool false, .int .i64 0, .string { data := #[] }, .slice none 0 0, .slice none 0 0] 36) := ⟨_, rfl⟩
  have HI : Hid (Blk W0 w.heap.size #[.int .i64 i.sort, .bool i.on, .int .i64 i.n, .string ⟨i.text.toArray⟩, .slice i.a i.list.length i.c, .slice i.ka i.keys.length i.kc] 36) := Lib.hid (by rw [hW0]; exact ((Blk.new rfl).alloc _).alloc _)
  have HR : Hid (Blk W0 (w.heap.size + 1) #[.int .i64 r.sort, .bool r.on, .int .i64 r.n, .string ⟨r.text.toArray⟩, .slice r.a r.list.length r.c, .slice r.ka r.keys.length r.kc] 36) := Lib.hid (by rw [hW0]; exact (Blk.new (by simp)).alloc _)
  have HZ : Hid (Blk W0 (w.heap.size + 2) #[.int .i64 0, .bool false, .int .i64 0, .string { data := #[] }, .slice none 0 0, .slice none 0 0] 36) := Lib.hid (by rw [hW0]; exact Blk.new (by simp))
  have HW : Hid (Below w.heap.size w W0) := Lib.hid (by rw [hW0]; exact ((below_a1 w _).alloc (by simp) _).alloc (by simp; omega) _)
  have HVI : Hid (ValAt w (fun g => P g ∧ g ≠ w.heap.size + 2) i) := Lib.hid (hi.mono fun g hp h => ⟨hp, by omega⟩)
  have HVR : Hid (ValAt w (fun g => P g ∧ g ≠ w.heap.size + 2) r) := Lib.hid (hr.mono fun g hp h => ⟨hp, by omega⟩)
  have hw0 := HZ.out.lt
  have HPP : Hid (∀ W : World, W0.heap.size ≤ W.heap.size → ∀ g, W.heap.size ≤ g → P g ∧ g ≠ w.heap.size + 2) := Lib.hid fun W h g hg => ⟨hP g (by omega), by omega⟩
  have HK : Hid (∀ w' : World, Below W0.heap.size W0 w' → (fun w' => Blk w' w.heap.size #[.int .i64 i.sort, .bool i.on, .int .i64 i.n, .string ⟨i.text.toArray⟩, .slice i.a i.list.length i.c, .slice i.ka i.keys.length i.kc] 36 ∧ Blk w' (w.heap.size + 1) #[.int .i64 r.sort, .bool r.on, .int .i64 r.n, .string ⟨r.text.toArray⟩, .slice r.a r.list.length r.c, .slice r.ka r.keys.length r.kc] 36) w') := Lib.hid fun w' hb => ⟨HI.out.ext hb, HR.out.ext hb⟩
  rw [VD.val6, VD.val6]
  clear hi hr hP
  go_enter Tryz.func14, Tryz.ntmps14
  go_upto_region 1 with (fail)
  rw [← hW0]
  clear hW0
  have HB0 : Hid (Below W0.heap.size W0 W0.drew) := Lib.hid (Below.refl _ _).drew
  obtain ⟨Wd, hWd⟩ : ∃ Wd, Wd = W0.drew := ⟨_, rfl⟩
  have HB : Hid (Below W0.heap.size W0 Wd) := Lib.hid (by rw [hWd]; exact HB0.out)
  refine wp_region_held_drew (S := (fun w' => Blk w' w.heap.size #[.int .i64 i.sort, .bool i.on, .int .i64 i.n, .string ⟨i.text.toArray⟩, .slice i.a i.list.length i.c, .slice i.ka i.keys.length i.kc] 36 ∧ Blk w' (w.heap.size + 1) #[.int .i64 r.sort, .bool r.on, .int .i64 r.n, .string ⟨r.text.toArray⟩, .slice r.a r.list.length r.c, .slice r.ka r.keys.length r.kc] 36)) (by kernel_rfl) ?_ (fun hHeld => ?_)
  · exact HK.out _ HB0.out
  rw [← hWd] at hHeld ⊢
  clear hWd HB0
  refine wpAnyH_take (i := 2) (oi := ⟨some 7, _, _, _, _, _⟩) (v := ?_) rfl (by kernel_rfl) (by kernel_rfl) (by kernel_rfl) (fun _ _ _ h => h) (Or.inl ⟨by rfl, ?_⟩) (by assumption) ?_; rotate_left; focus (intro w hSw; (try dsimp only at hSw); obtain ⟨h1, h2⟩ := hSw; obtain ⟨a0, a1, a2, a3, a4, a5⟩ := h1.sixT; first | (go_simp; done) | (go_simp; with_reducible rfl))
  try simp only [Act.put]
  try simp only [List.setIfInBounds_toArray]
  try simp only [List.set_cons_succ, List.set_cons_zero]
  refine wpAnyH_take (i := 3) (oi := ⟨some 8, _, _, _, _, _⟩) (v := ?_) rfl (by kernel_rfl) (by kernel_rfl) (by kernel_rfl) (fun _ _ _ h => h) (Or.inl ⟨by rfl, ?_⟩) (by assumption) ?_; rotate_left; focus (intro w hSw; (try dsimp only at hSw); first | (go_simp; done) | (go_simp; with_reducible rfl))
  try simp only [Act.put]
  try simp only [List.setIfInBounds_toArray]
  try simp only [List.set_cons_succ, List.set_cons_zero]
  refine wpAnyH_take (i := 4) (oi := ⟨some 9, _, _, _, _, _⟩) (v := ?_) rfl (by kernel_rfl) (by kernel_rfl) (by kernel_rfl) (fun _ _ _ h => h) (Or.inl ⟨by rfl, ?_⟩) (by assumption) ?_; rotate_left; focus (intro w hSw; (try dsimp only at hSw); obtain ⟨h1, h2⟩ := hSw; obtain ⟨a0, a1, a2, a3, a4, a5⟩ := h2.sixT; first | (go_simp; done) | (go_simp; with_reducible rfl))
  try simp only [Act.put]
  try simp only [List.setIfInBounds_toArray]
  try simp only [List.set_cons_succ, List.set_cons_zero]
  refine wpAnyH_take (i := 5) (oi := ⟨some 10, _, _, _, _, _⟩) (v := ?_) rfl (by kernel_rfl) (by kernel_rfl) (by kernel_rfl) (fun _ _ _ h => h) (Or.inl ⟨by rfl, ?_⟩) (by assumption) ?_; rotate_left; focus (intro w hSw; (try dsimp only at hSw); first | (go_simp; done) | (go_simp; with_reducible rfl))
  try simp only [Act.put]
  try simp only [List.setIfInBounds_toArray]
  try simp only [List.set_cons_succ, List.set_cons_zero]
  refine wpAnyH_ready (rs := [0]) (by kernel_rfl) (by simp) ?_
  refine AllReadyH.cons (i := 0) (o := ⟨some 5, _, _, _, _, _⟩) rfl (fun K hK => ?_) ?_
  · go_simp
    refine (str_any v20 _).mono ?_
    rintro e ws ⟨rfl, hb⟩
    have HBn : Hid (Below W0.heap.size W0 ws) := Lib.hid (HB.out.trans (hb.mono HB.out.size))
    clear HB hb
    have HB := HBn
    clear HBn
    refine hK.out _ _ ?_ (fun hHeld => ?_)
    · exact HK.out _ HB.out
    try simp only [Act.put]
    try simp only [List.setIfInBounds_toArray]
    try simp only [List.set_cons_succ, List.set_cons_zero]
    refine wpAnyH_take (i := 1) (oi := ⟨some 6, _, _, _, _, _⟩) (v := ?_) rfl (by kernel_rfl) (by kernel_rfl) (by kernel_rfl) (fun _ _ _ h => h) (Or.inl ⟨by rfl, ?_⟩) (by assumption) ?_; rotate_left; focus (intro w hSw; (try dsimp only at hSw); first | (go_simp; done) | (go_simp; with_reducible rfl))
    try simp only [Act.put]
    try simp only [List.setIfInBounds_toArray]
    try simp only [List.set_cons_succ, List.set_cons_zero]
    refine wpAnyH_ready (rs := [6]) (by kernel_rfl) (by simp) ?_
    refine AllReadyH.cons (i := 6) (o := ⟨some 11, _, _, _, _, _⟩) rfl (fun K hK => ?_) ?_
    · obtain ⟨gv, hgv⟩ : ∃ gv, gv = ws.heap.size := ⟨_, rfl⟩
      obtain ⟨wv, hwv⟩ : ∃ wv, wv = ws.alloc (.cells ([(kJson, strD v20), (kId, i), (kResult, r)].flatMap ptC).toArray 74) := ⟨_, rfl⟩
      have hb : Below ws.heap.size ws wv := by rw [hwv]; exact below_a1 _ _
      have HPgv : Hid (PtsAt wv (fun g => P g ∧ g ≠ w.heap.size + 2) (some ⟨gv, 0, none⟩) [(kJson, strD v20), (kId, i), (kResult, r)]) := Lib.hid ⟨by rw [hwv, hgv]; exact row_blk (Blk.new rfl) (flat_length ptC 7 ptC_len _), fun p hp => by
        simp only [List.mem_cons, List.mem_nil_iff, or_false] at hp
        rcases hp with rfl | rfl | rfl
        · exact .leaf
        · exact (HVI.out.ext (HW.out.trans ((HB.out.trans (hb.mono HB.out.size)).mono HW.out.size)))
        · exact (HVR.out.ext (HW.out.trans ((HB.out.trans (hb.mono HB.out.size)).mono HW.out.size)))⟩
      have HBn : Hid (Below W0.heap.size W0 wv) := Lib.hid (HB.out.trans (hb.mono HB.out.size))
      clear HB hb
      have HB := HBn
      clear HBn
      simp only [List.flatMap_cons, List.flatMap_nil] at hwv
      try simp only [ptC_str] at hwv
      try simp only [ptC_num] at hwv
      try simp only [ptC_of] at hwv
      simp only [List.cons_append, List.nil_append, List.append_nil, kJson, kId, kResult] at hwv
      go_simp
      rw [← hwv, ← hgv]
      clear hwv hgv
      refine hK.out _ _ ?_ (fun hHeld => ?_)
      · exact HK.out _ HB.out
      try simp only [Act.put]
      try simp only [List.setIfInBounds_toArray]
      try simp only [List.set_cons_succ, List.set_cons_zero]
      refine wpAnyH_ready (rs := [7]) (by kernel_rfl) (by simp) ?_
      refine AllReadyH.cons (i := 7) (o := ⟨some 12, _, _, _, _, _⟩) rfl (fun K hK => ?_) ?_
      · go_simp
        have hR := record_any (fun g => P g ∧ g ≠ w.heap.size + 2) (some ⟨gv, 0, none⟩) 3 [(kJson, strD v20), (kId, i), (kResult, r)] wv (HPP.out _ HB.out.size) HPgv.out (by simp)
        simp only [List.length_cons, List.length_nil, Nat.zero_add, Nat.reduceAdd] at hR
        refine hR.mono ?_
        clear hR
        rintro e wr ⟨d, rfl, hvd, hdd, hb⟩
        have HVd := Lib.hid hvd
        have HDd := Lib.hid hdd
        clear hvd hdd
        have HBn : Hid (Below W0.heap.size W0 wr) := Lib.hid (HB.out.trans (hb.mono HB.out.size))
        clear HB hb
        have HB := HBn
        clear HBn
        refine hK.out _ _ ?_ (fun hHeld => ?_)
        · exact HK.out _ HB.out
        try simp only [Act.put]
        try simp only [List.setIfInBounds_toArray]
        try simp only [List.set_cons_succ, List.set_cons_zero]
        refine wpAnyH_ready (rs := [8]) (by kernel_rfl) (by simp) ?_
        refine AllReadyH.cons (i := 8) (o := ⟨none, _, _, _, _, _⟩) rfl (fun K hK => ?_) ?_
        · have HZr := Lib.hid (HZ.out.ext HB.out)
          have f0 := HZr.out.free 0
          have f1 := HZr.out.free 1
          have f2 := HZr.out.free 2
          have f3 := HZr.out.free 3
          have f4 := HZr.out.free 4
          have f5 := HZr.out.free 5
          obtain ⟨z0, z1, z2, z3, z4, z5⟩ := HZr.out.sixT
          go_simp
          refine hK.out _ _ ?_ (fun hHeld => ?_)
          · exact ⟨(put6_other (g := w.heap.size + 2) (o := 0) (by omega)).trans (HK.out _ HB.out).1, (put6_other (g := w.heap.size + 2) (o := 0) (by omega)).trans (HK.out _ HB.out).2⟩
          try simp only [Act.put]
          try simp only [List.setIfInBounds_toArray]
          try simp only [List.set_cons_succ, List.set_cons_zero]
          refine wpAnyH_done (by kernel_rfl) ?_ _
          clear hHeld
          go_wp2
          refine reply_end (g := w.heap.size + 2) rfl (store6 HZr.out) ?_
          exact docS (P := P) (o := 0) HVd.out HDd.out (fun g h => ⟨h.2, h.1⟩) (HW.out.trans (HB.out.mono HW.out.size)) (by omega)
        exact AllReadyH.nil
      exact AllReadyH.nil
    exact AllReadyH.nil
  exact AllReadyH.nil
end Go.Proofs.YthnbeebilomchaaGreatDoor

namespace Go.Proofs.YthnbeebilomchaaGreatDoor
open Go Go.RowKit

theorem of_end {W : World} {tm : Array Value} {R : Ending → World → Prop} {g : Nat} {u0 u1 u2 u3 u4 u5 : Value} (h2 : tm.getD 2 undef = .pointer (some ⟨g, 0, none⟩)) (hB : Blk W g #[u0, u1, u2, u3, u4, u5] 36)
    (hR : R (.returned (.agg #[u0, u1, u2, u3, u4, u5])) W) : bodyPost Tryz.prog Tryz.f15 R .ret { tmps := tm, defers := [] } W := by
  obtain ⟨d0, d1, d2, d3, d4, d5⟩ := hB.sixT
  rw [Array.getD_eq_getD_getElem?] at h2
  refine bodyPost_ret (v := .agg #[u0, u1, u2, u3, u4, u5]) ?_ rfl hR
  simp [results, Tryz.results15, go_sem, h2, d0, d1, d2, d3, d4, d5]
set_option maxHeartbeats 8000000 in
theorem of_any (d : VD) : ∀ (B : Nat) (W : World), B ≤ W.heap.size → ValAt W (fun k => k < B) d → sizeV d.v ≤ 1048576 → Calls Tryz.prog 15 #[d.val] W (OfE B W d.v) := by
  induction d using VD.ind with
  | h s o n t a c ks ka kc keys ih =>
    intro B W hBW h hw
    have hks : ks.length ≤ 1048576 := by
      have h1 := sizeV_eq (.mk s o n t a c ks ka kc keys)
      have h2 := sizesV_len (ks.map VD.v)
      simp only [VD.list, List.length_map] at h1 h2
      omega
    have HV := Lib.hid h
    have HI : Hid (∀ x ∈ ks, ∀ V, W.heap.size ≤ V.heap.size → ValAt V (fun k => k < B) x → Calls Tryz.prog 15 #[x.val] V (OfE B V x.v)) := Lib.hid fun x hx V hV hv => ih x hx B V (by omega) hv (by
      have h1 := sizeV_eq (.mk s o n t a c ks ka kc keys)
      have h2 := sizesV_mem (l := ks.map VD.v) (List.mem_map_of_mem hx)
      simp only [VD.list] at h1
      omega)
    clear ih h hw
    have hst := OV.start 36 26 B W (.mk s o n t a c ks ka kc keys)
    unfold box3V at hst
    simp only [VD.sort, VD.on, VD.n, VD.text, VD.a, VD.list, VD.c, VD.ka, VD.keys, VD.kc] at hst
    have HST := Lib.hid hst
    clear hst
    unfold VD.val VD.cells strV
    go_enter Tryz.func15, Tryz.ntmps15
    go_wp2_with fail
    go_loopw [4] (fun i wr => ∃ (vs : List VD) (la : Option Addr) (lc : Nat), vs.length ≤ ks.length ∧ i = .int .i64 vs.length ∧ Hid (OV 36 26 B W wr (VD.mk s o n t a c ks ka kc keys) vs la lc) ∧ Hid (vs.map VD.v = (ks.take vs.length).map VD.v)) (fun i _ => ks.length - (intOf i).toNat)
    case atStart => exact ⟨[], none, 0, Nat.zero_le _, rfl, HST, Lib.hid rfl⟩
    case round =>
      obtain ⟨vs, la, lc, hq, rfl, HO, HE⟩ := hrel
      have hwr := HO.out.blk.lt
      by_cases hlt : vs.length < ks.length
      · obtain ⟨x, hx⟩ := get_some hlt
        have hxm := List.mem_of_getElem? hx
        have hvr := (HV.out.ext HO.out.below)
        obtain ⟨eb, eo, ha, c0, c1, c2, c3, c4, c5⟩ := val_at hvr.row hx
        simp only [VD.a] at ha
        subst ha
        unfold strV at c3
        have hebB : eb < B := hvr.blk eb (by simp only [VD.list]; omega) rfl
        have a4 : wr.cell? ⟨W.heap.size, 4, none⟩ = some (.slice (some ⟨eb, eo, none⟩) ks.length c) := HO.out.arg.cell 4
        have HS : Hid (∀ w' : World, (∀ k, k ≤ W.heap.size → w'.heap[k]? = wr.heap[k]?) → w'.cell? ⟨W.heap.size, 4, none⟩ = some (.slice (some ⟨eb, eo, none⟩) ks.length c) ∧ w'.cell? ⟨eb, eo + vs.length * 6, none⟩ = some (.int .i64 x.sort) ∧ w'.cell? ⟨eb, eo + vs.length * 6 + 1, none⟩ = some (.bool x.on) ∧ w'.cell? ⟨eb, eo + vs.length * 6 + 2, none⟩ = some (.int .i64 x.n) ∧ w'.cell? ⟨eb, eo + vs.length * 6 + 3, none⟩ = some (.string ⟨x.text.toArray⟩) ∧ w'.cell? ⟨eb, eo + vs.length * 6 + 4, none⟩ = some (.slice x.a x.list.length x.c) ∧ w'.cell? ⟨eb, eo + vs.length * 6 + 5, none⟩ = some (.slice x.ka x.keys.length x.kc)) := Lib.hid fun w' hw => by
          have k : ∀ g j, g ≤ W.heap.size → w'.cell? ⟨g, j, none⟩ = wr.cell? ⟨g, j, none⟩ := fun g j hg => World.cell?_of_block (w := wr) (a := ⟨g, j, none⟩) (hw g hg)
          exact ⟨(k _ _ (Nat.le_refl _)).trans a4, (k _ _ (by omega)).trans c0, (k _ _ (by omega)).trans c1, (k _ _ (by omega)).trans c2, (k _ _ (by omega)).trans c3, (k _ _ (by omega)).trans c4, (k _ _ (by omega)).trans c5⟩
        have HT : Hid ((ks.take (vs.length + 1)).map VD.v = (ks.take vs.length).map VD.v ++ [x.v]) := Lib.hid (by rw [List.take_add_one, hx, Option.toList_some, List.map_append]; rfl)
        have hdr : Below wr.heap.size wr wr.drew := (Below.refl _ _).drew
        have HO1 := Lib.hid (HO.out.ext hdr)
        have hc := HI.out x hxm wr.drew HO1.out.below.size ((hvr.kid x hxm).ext hdr)
        rw [VD.val6] at hc
        have Hc := Lib.hid hc
        have hq0 := HO1.out.blk.cell 4
        clear hdr hc hx hxm hvr hebB
        go_upto_region 5 with (fail)
        refine wp_region_held_drew (S := fun w' => w'.cell? ⟨W.heap.size, 4, none⟩ = some (.slice (some ⟨eb, eo, none⟩) ks.length c) ∧ w'.cell? ⟨eb, eo + vs.length * 6, none⟩ = some (.int .i64 x.sort) ∧ w'.cell? ⟨eb, eo + vs.length * 6 + 1, none⟩ = some (.bool x.on) ∧ w'.cell? ⟨eb, eo + vs.length * 6 + 2, none⟩ = some (.int .i64 x.n) ∧ w'.cell? ⟨eb, eo + vs.length * 6 + 3, none⟩ = some (.string ⟨x.text.toArray⟩) ∧ w'.cell? ⟨eb, eo + vs.length * 6 + 4, none⟩ = some (.slice x.a x.list.length x.c) ∧ w'.cell? ⟨eb, eo + vs.length * 6 + 5, none⟩ = some (.slice x.ka x.keys.length x.kc)) (by kernel_rfl) ?_ (fun hHeld => ?_)
        · exact HS.out _ (fun _ _ => rfl)
        refine wpAnyH_take (i := 0) (oi := ⟨some 23, _, _, _, _, _⟩) (v := ?_) rfl (by kernel_rfl) (by kernel_rfl) (by kernel_rfl) (fun _ _ _ h => h) (Or.inl ⟨by rfl, ?_⟩) (by assumption) ?_; rotate_left; focus (intro w hSw; (try dsimp only at hSw); first | (go_simp; done) | (go_simp; with_reducible rfl))
        try simp only [Act.put]
        try simp only [List.setIfInBounds_toArray]
        try simp only [List.set_cons_succ, List.set_cons_zero]
        refine wpAnyH_take (i := 2) (oi := ⟨some 25, _, _, _, _, _⟩) (v := ?_) rfl (by kernel_rfl) (by kernel_rfl) (by kernel_rfl) (fun _ _ _ h => h) (Or.inl ⟨by rfl, ?_⟩) (by assumption) ?_; rotate_left; focus (intro w hSw; (try dsimp only at hSw); first | (go_simp; done) | (go_simp; with_reducible rfl))
        try simp only [Act.put]
        try simp only [List.setIfInBounds_toArray]
        try simp only [List.set_cons_succ, List.set_cons_zero]
        refine wpAnyH_take (i := 3) (oi := ⟨some 26, _, _, _, _, _⟩) (v := ?_) rfl (by kernel_rfl) (by kernel_rfl) (by kernel_rfl) (fun _ _ _ h => h) (Or.inl ⟨by rfl, ?_⟩) (by assumption) ?_; rotate_left; focus (intro w hSw; (try dsimp only at hSw); obtain ⟨s4, s0, s1, s2, s3, s5, s6⟩ := hSw; first | (go_simp; done) | (go_simp; with_reducible rfl))
        try simp only [Act.put]
        try simp only [List.setIfInBounds_toArray]
        try simp only [List.set_cons_succ, List.set_cons_zero]
        refine wpAnyH_take (i := 4) (oi := ⟨some 27, _, _, _, _, _⟩) (v := ?_) rfl (by kernel_rfl) (by kernel_rfl) (by kernel_rfl) (fun _ _ _ h => h) (Or.inl ⟨by rfl, ?_⟩) (by assumption) ?_; rotate_left; focus (intro w hSw; (try dsimp only at hSw); first | (go_simp; done) | (go_simp; with_reducible rfl))
        try simp only [Act.put]
        try simp only [List.setIfInBounds_toArray]
        try simp only [List.set_cons_succ, List.set_cons_zero]
        refine wpAnyH_take (i := 5) (oi := ⟨some 28, _, _, _, _, _⟩) (v := ?_) rfl (by kernel_rfl) (by kernel_rfl) (by kernel_rfl) (fun _ _ _ h => h) (Or.inl ⟨by rfl, ?_⟩) (by assumption) ?_; rotate_left; focus (intro w hSw; (try dsimp only at hSw); first | (go_simp; done) | (go_simp; with_reducible rfl))
        try simp only [Act.put]
        try simp only [List.setIfInBounds_toArray]
        try simp only [List.set_cons_succ, List.set_cons_zero]
        refine wpAnyH_take (i := 6) (oi := ⟨some 29, _, _, _, _, _⟩) (v := ?_) rfl (by kernel_rfl) (by kernel_rfl) (by kernel_rfl) (fun _ _ _ h => h) (Or.inl ⟨by rfl, ?_⟩) (by assumption) ?_; rotate_left; focus (intro w hSw; (try dsimp only at hSw); obtain ⟨s4, s0, s1, s2, s3, s5, s6⟩ := hSw; first | (go_simp; done) | (go_simp; with_reducible rfl))
        try simp only [Act.put]
        try simp only [List.setIfInBounds_toArray]
        try simp only [List.set_cons_succ, List.set_cons_zero]
        refine wpAnyH_ready (rs := [1, 7]) (by kernel_rfl) (by simp) ?_
        refine AllReadyH.cons (i := 1) (o := ⟨some 24, _, _, _, _, _⟩) rfl (fun K hK => ?_) ?_
        · go_simp
          refine hK.out _ _ ?_ (fun hHeld => ?_)
          · exact hHeld
          try simp only [Act.put]
          try simp only [List.setIfInBounds_toArray]
          try simp only [List.set_cons_succ, List.set_cons_zero]
          refine wpAnyH_ready (rs := [7]) (by kernel_rfl) (by simp) ?_
          refine AllReadyH.cons (i := 7) (o := ⟨some 30, _, _, _, _, _⟩) rfl (fun K hK => ?_) ?_
          · go_simp
            refine Hc.out.mono ?_
            rintro e w2 ⟨d2, rfl, hd2, hva2, hb2⟩
            have HO2 := Lib.hid (HO1.out.ext hb2)
            have Hown2 := Lib.hid HO2.out.own
            have HB2 := Lib.hid hb2
            have HVA2 := Lib.hid hva2
            have HD2 := Lib.hid hd2
            have hws2 := HO2.out.blk.lt
            have hq2 := HO2.out.blk.cell 4
            have HH2 : Hid (∀ k, k ≤ W.heap.size → w2.heap[k]? = wr.heap[k]?) := Lib.hid fun k hk => hb2.block k (show k < wr.heap.size by omega)
            have hq3 := (HO2.out.blk.alloc (.cells #[.int .i64 d2.sort, .bool d2.on, .int .i64 d2.n, .string ⟨d2.text.toArray⟩, .slice d2.a d2.list.length d2.c, .slice d2.ka d2.keys.length d2.kc] 36)).cell 4
            have HH3 : Hid (∀ k, k ≤ W.heap.size → (w2.alloc (.cells #[.int .i64 d2.sort, .bool d2.on, .int .i64 d2.n, .string ⟨d2.text.toArray⟩, .slice d2.a d2.list.length d2.c, .slice d2.ka d2.keys.length d2.kc] 36)).heap[k]? = wr.heap[k]?) := Lib.hid fun k hk => (Below.heap_alloc _ _ k (by omega)).trans (HH2.out k hk)
            clear hb2 hva2 hd2
            refine hK.out _ _ ?_ (fun hHeld => ?_)
            · exact HS.out _ HH2.out
            try simp only [Act.put]
            try simp only [List.setIfInBounds_toArray]
            try simp only [List.set_cons_succ, List.set_cons_zero]
            refine wpAnyH_ready (rs := [8]) (by kernel_rfl) (by simp) ?_
            refine AllReadyH.cons (i := 8) (o := ⟨some 31, _, _, _, _, _⟩) rfl (fun K hK => ?_) ?_
            · go_simp
              refine hK.out _ _ ?_ (fun hHeld => ?_)
              · exact HS.out _ HH3.out
              try simp only [Act.put]
              try simp only [List.setIfInBounds_toArray]
              try simp only [List.set_cons_succ, List.set_cons_zero]
              refine wpAnyH_ready (rs := [9]) (by kernel_rfl) (by simp) ?_
              refine AllReadyH.cons (i := 9) (o := ⟨some 32, _, _, _, _, _⟩) rfl (fun K hK => ?_) ?_
              · refine step_append_Own rfl (.tmp 24) (.tmp 31) 34 rfl (W.heap.size + 3) 36 _ 6 88 Tryz.underlying34 Tryz.infoVal rfl (by decide) la vs.length lc _ (by simp [go_sem]) (by exact Hown2.out.alloc _) _ 1 1 [.int .i64 d2.sort, .bool d2.on, .int .i64 d2.n, .string ⟨d2.text.toArray⟩, .slice d2.a d2.list.length d2.c, .slice d2.ka d2.keys.length d2.kc] (by simp [go_sem]; rfl) (by exact Row.new1 (by simp) rfl rfl) (by intro u hu; simp at hu; rcases hu with rfl | rfl | rfl | rfl | rfl | rfl <;> rfl) (by unfold maxLen; omega) (by omega) (by simp; omega) ?_
                intro a6 c6 w6 hown6 hg6 hbk6
                have HO6 := Lib.hid hown6
                have HG6 := Lib.hid hg6
                have HK6 := Lib.hid hbk6
                have HH6 : Hid (∀ k, k ≤ W.heap.size → w6.heap[k]? = wr.heap[k]?) := Lib.hid fun k hk => (hg6.block k (by simp; omega) (fun e => HO2.out.own.apart (by omega) e)).trans (HH3.out k hk)
                have HH7 : Hid (∀ k, k ≤ W.heap.size → (w6.setCell ⟨W.heap.size + 2, 4, none⟩ (.slice a6 (vs.length + 1) c6)).heap[k]? = wr.heap[k]?) := Lib.hid fun k hk => (Below.heap_setCell _ ⟨W.heap.size + 2, 4, none⟩ _ k (by show k ≠ W.heap.size + 2; omega)).trans (HH6.out k hk)
                have hb6 : Blk w6 (W.heap.size + 2) #[.int .i64 s, .bool o, .int .i64 n, .string ⟨t.toArray⟩, .slice la vs.length lc, .slice ka keys.length kc] 36 := (hg6.block (W.heap.size + 2) (by simp; omega) (fun e => HO2.out.own.apart (by omega) e)).trans (HO2.out.blk.alloc _)
                have hq6 := hb6.cell 4
                have hf6 := hb6.free 4
                clear hown6 hg6 hbk6 hb6
                refine hK.out _ _ ?_ (fun hHeld => ?_)
                · exact HS.out _ HH6.out
                try simp only [Act.put]
                try simp only [List.setIfInBounds_toArray]
                try simp only [List.set_cons_succ, List.set_cons_zero]
                refine wpAnyH_take (i := 10) (oi := ⟨some 33, _, _, _, _, _⟩) (v := ?_) rfl (by kernel_rfl) (by kernel_rfl) (by kernel_rfl) (fun _ _ _ h => h) (Or.inl ⟨by rfl, ?_⟩) (by assumption) ?_; rotate_left; focus (intro w hSw; (try dsimp only at hSw); first | (go_simp; done) | (go_simp; with_reducible rfl))
                try simp only [Act.put]
                try simp only [List.setIfInBounds_toArray]
                try simp only [List.set_cons_succ, List.set_cons_zero]
                refine wpAnyH_ready (rs := [11]) (by kernel_rfl) (by simp) ?_
                refine AllReadyH.cons (i := 11) (o := ⟨none, _, _, _, _, _⟩) rfl (fun K hK => ?_) ?_
                · go_simp
                  refine hK.out _ _ ?_ (fun hHeld => ?_)
                  · exact HS.out _ HH7.out
                  try simp only [Act.put]
                  try simp only [List.setIfInBounds_toArray]
                  try simp only [List.set_cons_succ, List.set_cons_zero]
                  refine wpAnyH_done (by kernel_rfl) ?_ _
                  have HN : Hid (OV 36 26 B W (w6.setCell ⟨W.heap.size + 2, 4, none⟩ (.slice a6 (vs.length + 1) c6)) (VD.mk s o n t (some ⟨eb, eo, none⟩) c ks ka kc keys) (vs ++ [d2]) a6 c6) := Lib.hid (HO1.out.push hBW HB2.out HVA2.out _ (by rw [List.flatMap_append, List.flatMap_singleton, cells_list]; exact HO6.out) HG6.out HK6.out)
                  go_wp2
                  go_roundw
                  case rel => exact ⟨vs ++ [d2], a6, c6, by rw [List.length_append]; exact hlt, by rw [List.length_append]; go_num, HN, Lib.hid (by rw [List.length_append, List.map_append, HE.out]; simp [HT.out, HD2.out])⟩
                  case measure => simp [intOf]; omega
                exact AllReadyH.nil
              exact AllReadyH.nil
            exact AllReadyH.nil
          exact AllReadyH.nil
        refine AllReadyH.cons (i := 7) (o := ⟨some 30, _, _, _, _, _⟩) rfl (fun K hK => ?_) ?_
        · go_simp
          refine Hc.out.mono ?_
          rintro e w2 ⟨d2, rfl, hd2, hva2, hb2⟩
          have HO2 := Lib.hid (HO1.out.ext hb2)
          have Hown2 := Lib.hid HO2.out.own
          have HB2 := Lib.hid hb2
          have HVA2 := Lib.hid hva2
          have HD2 := Lib.hid hd2
          have hws2 := HO2.out.blk.lt
          have hq2 := HO2.out.blk.cell 4
          have HH2 : Hid (∀ k, k ≤ W.heap.size → w2.heap[k]? = wr.heap[k]?) := Lib.hid fun k hk => hb2.block k (show k < wr.heap.size by omega)
          have hq3 := (HO2.out.blk.alloc (.cells #[.int .i64 d2.sort, .bool d2.on, .int .i64 d2.n, .string ⟨d2.text.toArray⟩, .slice d2.a d2.list.length d2.c, .slice d2.ka d2.keys.length d2.kc] 36)).cell 4
          have HH3 : Hid (∀ k, k ≤ W.heap.size → (w2.alloc (.cells #[.int .i64 d2.sort, .bool d2.on, .int .i64 d2.n, .string ⟨d2.text.toArray⟩, .slice d2.a d2.list.length d2.c, .slice d2.ka d2.keys.length d2.kc] 36)).heap[k]? = wr.heap[k]?) := Lib.hid fun k hk => (Below.heap_alloc _ _ k (by omega)).trans (HH2.out k hk)
          clear hb2 hva2 hd2
          refine hK.out _ _ ?_ (fun hHeld => ?_)
          · exact HS.out _ HH2.out
          try simp only [Act.put]
          try simp only [List.setIfInBounds_toArray]
          try simp only [List.set_cons_succ, List.set_cons_zero]
          refine wpAnyH_ready (rs := [1, 8]) (by kernel_rfl) (by simp) ?_
          refine AllReadyH.cons (i := 1) (o := ⟨some 24, _, _, _, _, _⟩) rfl (fun K hK => ?_) ?_
          · go_simp
            refine hK.out _ _ ?_ (fun hHeld => ?_)
            · exact hHeld
            try simp only [Act.put]
            try simp only [List.setIfInBounds_toArray]
            try simp only [List.set_cons_succ, List.set_cons_zero]
            refine wpAnyH_ready (rs := [8]) (by kernel_rfl) (by simp) ?_
            refine AllReadyH.cons (i := 8) (o := ⟨some 31, _, _, _, _, _⟩) rfl (fun K hK => ?_) ?_
            · go_simp
              refine hK.out _ _ ?_ (fun hHeld => ?_)
              · exact HS.out _ HH3.out
              try simp only [Act.put]
              try simp only [List.setIfInBounds_toArray]
              try simp only [List.set_cons_succ, List.set_cons_zero]
              refine wpAnyH_ready (rs := [9]) (by kernel_rfl) (by simp) ?_
              refine AllReadyH.cons (i := 9) (o := ⟨some 32, _, _, _, _, _⟩) rfl (fun K hK => ?_) ?_
              · refine step_append_Own rfl (.tmp 24) (.tmp 31) 34 rfl (W.heap.size + 3) 36 _ 6 88 Tryz.underlying34 Tryz.infoVal rfl (by decide) la vs.length lc _ (by simp [go_sem]) (by exact Hown2.out.alloc _) _ 1 1 [.int .i64 d2.sort, .bool d2.on, .int .i64 d2.n, .string ⟨d2.text.toArray⟩, .slice d2.a d2.list.length d2.c, .slice d2.ka d2.keys.length d2.kc] (by simp [go_sem]; rfl) (by exact Row.new1 (by simp) rfl rfl) (by intro u hu; simp at hu; rcases hu with rfl | rfl | rfl | rfl | rfl | rfl <;> rfl) (by unfold maxLen; omega) (by omega) (by simp; omega) ?_
                intro a6 c6 w6 hown6 hg6 hbk6
                have HO6 := Lib.hid hown6
                have HG6 := Lib.hid hg6
                have HK6 := Lib.hid hbk6
                have HH6 : Hid (∀ k, k ≤ W.heap.size → w6.heap[k]? = wr.heap[k]?) := Lib.hid fun k hk => (hg6.block k (by simp; omega) (fun e => HO2.out.own.apart (by omega) e)).trans (HH3.out k hk)
                have HH7 : Hid (∀ k, k ≤ W.heap.size → (w6.setCell ⟨W.heap.size + 2, 4, none⟩ (.slice a6 (vs.length + 1) c6)).heap[k]? = wr.heap[k]?) := Lib.hid fun k hk => (Below.heap_setCell _ ⟨W.heap.size + 2, 4, none⟩ _ k (by show k ≠ W.heap.size + 2; omega)).trans (HH6.out k hk)
                have hb6 : Blk w6 (W.heap.size + 2) #[.int .i64 s, .bool o, .int .i64 n, .string ⟨t.toArray⟩, .slice la vs.length lc, .slice ka keys.length kc] 36 := (hg6.block (W.heap.size + 2) (by simp; omega) (fun e => HO2.out.own.apart (by omega) e)).trans (HO2.out.blk.alloc _)
                have hq6 := hb6.cell 4
                have hf6 := hb6.free 4
                clear hown6 hg6 hbk6 hb6
                refine hK.out _ _ ?_ (fun hHeld => ?_)
                · exact HS.out _ HH6.out
                try simp only [Act.put]
                try simp only [List.setIfInBounds_toArray]
                try simp only [List.set_cons_succ, List.set_cons_zero]
                refine wpAnyH_take (i := 10) (oi := ⟨some 33, _, _, _, _, _⟩) (v := ?_) rfl (by kernel_rfl) (by kernel_rfl) (by kernel_rfl) (fun _ _ _ h => h) (Or.inl ⟨by rfl, ?_⟩) (by assumption) ?_; rotate_left; focus (intro w hSw; (try dsimp only at hSw); first | (go_simp; done) | (go_simp; with_reducible rfl))
                try simp only [Act.put]
                try simp only [List.setIfInBounds_toArray]
                try simp only [List.set_cons_succ, List.set_cons_zero]
                refine wpAnyH_ready (rs := [11]) (by kernel_rfl) (by simp) ?_
                refine AllReadyH.cons (i := 11) (o := ⟨none, _, _, _, _, _⟩) rfl (fun K hK => ?_) ?_
                · go_simp
                  refine hK.out _ _ ?_ (fun hHeld => ?_)
                  · exact HS.out _ HH7.out
                  try simp only [Act.put]
                  try simp only [List.setIfInBounds_toArray]
                  try simp only [List.set_cons_succ, List.set_cons_zero]
                  refine wpAnyH_done (by kernel_rfl) ?_ _
                  have HN : Hid (OV 36 26 B W (w6.setCell ⟨W.heap.size + 2, 4, none⟩ (.slice a6 (vs.length + 1) c6)) (VD.mk s o n t (some ⟨eb, eo, none⟩) c ks ka kc keys) (vs ++ [d2]) a6 c6) := Lib.hid (HO1.out.push hBW HB2.out HVA2.out _ (by rw [List.flatMap_append, List.flatMap_singleton, cells_list]; exact HO6.out) HG6.out HK6.out)
                  go_wp2
                  go_roundw
                  case rel => exact ⟨vs ++ [d2], a6, c6, by rw [List.length_append]; exact hlt, by rw [List.length_append]; go_num, HN, Lib.hid (by rw [List.length_append, List.map_append, HE.out]; simp [HT.out, HD2.out])⟩
                  case measure => simp [intOf]; omega
                exact AllReadyH.nil
              exact AllReadyH.nil
            exact AllReadyH.nil
          refine AllReadyH.cons (i := 8) (o := ⟨some 31, _, _, _, _, _⟩) rfl (fun K hK => ?_) ?_
          · go_simp
            refine hK.out _ _ ?_ (fun hHeld => ?_)
            · exact HS.out _ HH3.out
            try simp only [Act.put]
            try simp only [List.setIfInBounds_toArray]
            try simp only [List.set_cons_succ, List.set_cons_zero]
            refine wpAnyH_ready (rs := [1]) (by kernel_rfl) (by simp) ?_
            refine AllReadyH.cons (i := 1) (o := ⟨some 24, _, _, _, _, _⟩) rfl (fun K hK => ?_) ?_
            · go_simp
              refine hK.out _ _ ?_ (fun hHeld => ?_)
              · exact hHeld
              try simp only [Act.put]
              try simp only [List.setIfInBounds_toArray]
              try simp only [List.set_cons_succ, List.set_cons_zero]
              refine wpAnyH_ready (rs := [9]) (by kernel_rfl) (by simp) ?_
              refine AllReadyH.cons (i := 9) (o := ⟨some 32, _, _, _, _, _⟩) rfl (fun K hK => ?_) ?_
              · refine step_append_Own rfl (.tmp 24) (.tmp 31) 34 rfl (W.heap.size + 3) 36 _ 6 88 Tryz.underlying34 Tryz.infoVal rfl (by decide) la vs.length lc _ (by simp [go_sem]) (by exact Hown2.out.alloc _) _ 1 1 [.int .i64 d2.sort, .bool d2.on, .int .i64 d2.n, .string ⟨d2.text.toArray⟩, .slice d2.a d2.list.length d2.c, .slice d2.ka d2.keys.length d2.kc] (by simp [go_sem]; rfl) (by exact Row.new1 (by simp) rfl rfl) (by intro u hu; simp at hu; rcases hu with rfl | rfl | rfl | rfl | rfl | rfl <;> rfl) (by unfold maxLen; omega) (by omega) (by simp; omega) ?_
                intro a6 c6 w6 hown6 hg6 hbk6
                have HO6 := Lib.hid hown6
                have HG6 := Lib.hid hg6
                have HK6 := Lib.hid hbk6
                have HH6 : Hid (∀ k, k ≤ W.heap.size → w6.heap[k]? = wr.heap[k]?) := Lib.hid fun k hk => (hg6.block k (by simp; omega) (fun e => HO2.out.own.apart (by omega) e)).trans (HH3.out k hk)
                have HH7 : Hid (∀ k, k ≤ W.heap.size → (w6.setCell ⟨W.heap.size + 2, 4, none⟩ (.slice a6 (vs.length + 1) c6)).heap[k]? = wr.heap[k]?) := Lib.hid fun k hk => (Below.heap_setCell _ ⟨W.heap.size + 2, 4, none⟩ _ k (by show k ≠ W.heap.size + 2; omega)).trans (HH6.out k hk)
                have hb6 : Blk w6 (W.heap.size + 2) #[.int .i64 s, .bool o, .int .i64 n, .string ⟨t.toArray⟩, .slice la vs.length lc, .slice ka keys.length kc] 36 := (hg6.block (W.heap.size + 2) (by simp; omega) (fun e => HO2.out.own.apart (by omega) e)).trans (HO2.out.blk.alloc _)
                have hq6 := hb6.cell 4
                have hf6 := hb6.free 4
                clear hown6 hg6 hbk6 hb6
                refine hK.out _ _ ?_ (fun hHeld => ?_)
                · exact HS.out _ HH6.out
                try simp only [Act.put]
                try simp only [List.setIfInBounds_toArray]
                try simp only [List.set_cons_succ, List.set_cons_zero]
                refine wpAnyH_take (i := 10) (oi := ⟨some 33, _, _, _, _, _⟩) (v := ?_) rfl (by kernel_rfl) (by kernel_rfl) (by kernel_rfl) (fun _ _ _ h => h) (Or.inl ⟨by rfl, ?_⟩) (by assumption) ?_; rotate_left; focus (intro w hSw; (try dsimp only at hSw); first | (go_simp; done) | (go_simp; with_reducible rfl))
                try simp only [Act.put]
                try simp only [List.setIfInBounds_toArray]
                try simp only [List.set_cons_succ, List.set_cons_zero]
                refine wpAnyH_ready (rs := [11]) (by kernel_rfl) (by simp) ?_
                refine AllReadyH.cons (i := 11) (o := ⟨none, _, _, _, _, _⟩) rfl (fun K hK => ?_) ?_
                · go_simp
                  refine hK.out _ _ ?_ (fun hHeld => ?_)
                  · exact HS.out _ HH7.out
                  try simp only [Act.put]
                  try simp only [List.setIfInBounds_toArray]
                  try simp only [List.set_cons_succ, List.set_cons_zero]
                  refine wpAnyH_done (by kernel_rfl) ?_ _
                  have HN : Hid (OV 36 26 B W (w6.setCell ⟨W.heap.size + 2, 4, none⟩ (.slice a6 (vs.length + 1) c6)) (VD.mk s o n t (some ⟨eb, eo, none⟩) c ks ka kc keys) (vs ++ [d2]) a6 c6) := Lib.hid (HO1.out.push hBW HB2.out HVA2.out _ (by rw [List.flatMap_append, List.flatMap_singleton, cells_list]; exact HO6.out) HG6.out HK6.out)
                  go_wp2
                  go_roundw
                  case rel => exact ⟨vs ++ [d2], a6, c6, by rw [List.length_append]; exact hlt, by rw [List.length_append]; go_num, HN, Lib.hid (by rw [List.length_append, List.map_append, HE.out]; simp [HT.out, HD2.out])⟩
                  case measure => simp [intOf]; omega
                exact AllReadyH.nil
              exact AllReadyH.nil
            exact AllReadyH.nil
          exact AllReadyH.nil
        exact AllReadyH.nil
      · have hlen : vs.length = ks.length := by omega
        have HF := Lib.hid (HO.out.fin hBW HV.out (by rw [HE.out, hlen, List.take_length]; rfl))
        have y := HO.out.blk.sixT
        obtain ⟨y0, y1, y2, y3, y4, y5⟩ := y
        have f0 := HO.out.res.free 0
        have f1 := HO.out.res.free 1
        have f2 := HO.out.res.free 2
        have f3 := HO.out.res.free 3
        have f4 := HO.out.res.free 4
        have f5 := HO.out.res.free 5
        have a4 : wr.cell? ⟨W.heap.size, 4, none⟩ = some (.slice a ks.length c) := HO.out.arg.cell 4
        have z := HO.out.res.sixT
        obtain ⟨z0, z1, z2, z3, z4, z5⟩ := z
        have hrl := HO.out.res.lt
        clear HE hlen
        go_wp2
        refine of_end (g := W.heap.size + 1) rfl (store6 HO.out.res) ?_
        exact HF.out
end Go.Proofs.YthnbeebilomchaaGreatDoor

namespace Go.Proofs.YthnbeebilomchaaGreatDoor
open Go Go.RowKit

theorem to_end {W : World} {tm : Array Value} {R : Ending → World → Prop} {g : Nat} {u0 u1 u2 u3 u4 u5 : Value} (h2 : tm.getD 2 undef = .pointer (some ⟨g, 0, none⟩)) (hB : Blk W g #[u0, u1, u2, u3, u4, u5] 26)
    (hR : R (.returned (.agg #[u0, u1, u2, u3, u4, u5])) W) : bodyPost Tryz.prog Tryz.f12 R .ret { tmps := tm, defers := [] } W := by
  obtain ⟨d0, d1, d2, d3, d4, d5⟩ := hB.sixT
  rw [Array.getD_eq_getD_getElem?] at h2
  refine bodyPost_ret (v := .agg #[u0, u1, u2, u3, u4, u5]) ?_ rfl hR
  simp [results, Tryz.results12, go_sem, h2, d0, d1, d2, d3, d4, d5]
set_option maxHeartbeats 8000000 in
theorem to_any (d : VD) : ∀ (B : Nat) (W : World), B ≤ W.heap.size → ValAt W (fun k => k < B) d → sizeV d.v ≤ 1048576 → Calls Tryz.prog 12 #[d.val] W (OfE B W d.v) := by
  induction d using VD.ind with
  | h s o n t a c ks ka kc keys ih =>
    intro B W hBW h hw
    have hks : ks.length ≤ 1048576 := by
      have h1 := sizeV_eq (.mk s o n t a c ks ka kc keys)
      have h2 := sizesV_len (ks.map VD.v)
      simp only [VD.list, List.length_map] at h1 h2
      omega
    have HV := Lib.hid h
    have HI : Hid (∀ x ∈ ks, ∀ V, W.heap.size ≤ V.heap.size → ValAt V (fun k => k < B) x → Calls Tryz.prog 12 #[x.val] V (OfE B V x.v)) := Lib.hid fun x hx V hV hv => ih x hx B V (by omega) hv (by
      have h1 := sizeV_eq (.mk s o n t a c ks ka kc keys)
      have h2 := sizesV_mem (l := ks.map VD.v) (List.mem_map_of_mem hx)
      simp only [VD.list] at h1
      omega)
    clear ih h hw
    have hst := OV.start 26 36 B W (.mk s o n t a c ks ka kc keys)
    unfold box3V at hst
    simp only [VD.sort, VD.on, VD.n, VD.text, VD.a, VD.list, VD.c, VD.ka, VD.keys, VD.kc] at hst
    have HST := Lib.hid hst
    clear hst
    unfold VD.val VD.cells strV
    go_enter Tryz.func12, Tryz.ntmps12
    go_wp2_with fail
    go_loopw [4] (fun i wr => ∃ (vs : List VD) (la : Option Addr) (lc : Nat), vs.length ≤ ks.length ∧ i = .int .i64 vs.length ∧ Hid (OV 26 36 B W wr (VD.mk s o n t a c ks ka kc keys) vs la lc) ∧ Hid (vs.map VD.v = (ks.take vs.length).map VD.v)) (fun i _ => ks.length - (intOf i).toNat)
    case atStart => exact ⟨[], none, 0, Nat.zero_le _, rfl, HST, Lib.hid rfl⟩
    case round =>
      obtain ⟨vs, la, lc, hq, rfl, HO, HE⟩ := hrel
      have hwr := HO.out.blk.lt
      by_cases hlt : vs.length < ks.length
      · obtain ⟨x, hx⟩ := get_some hlt
        have hxm := List.mem_of_getElem? hx
        have hvr := (HV.out.ext HO.out.below)
        obtain ⟨eb, eo, ha, c0, c1, c2, c3, c4, c5⟩ := val_at hvr.row hx
        simp only [VD.a] at ha
        subst ha
        unfold strV at c3
        have hebB : eb < B := hvr.blk eb (by simp only [VD.list]; omega) rfl
        have a4 : wr.cell? ⟨W.heap.size, 4, none⟩ = some (.slice (some ⟨eb, eo, none⟩) ks.length c) := HO.out.arg.cell 4
        have HS : Hid (∀ w' : World, (∀ k, k ≤ W.heap.size → w'.heap[k]? = wr.heap[k]?) → w'.cell? ⟨W.heap.size, 4, none⟩ = some (.slice (some ⟨eb, eo, none⟩) ks.length c) ∧ w'.cell? ⟨eb, eo + vs.length * 6, none⟩ = some (.int .i64 x.sort) ∧ w'.cell? ⟨eb, eo + vs.length * 6 + 1, none⟩ = some (.bool x.on) ∧ w'.cell? ⟨eb, eo + vs.length * 6 + 2, none⟩ = some (.int .i64 x.n) ∧ w'.cell? ⟨eb, eo + vs.length * 6 + 3, none⟩ = some (.string ⟨x.text.toArray⟩) ∧ w'.cell? ⟨eb, eo + vs.length * 6 + 4, none⟩ = some (.slice x.a x.list.length x.c) ∧ w'.cell? ⟨eb, eo + vs.length * 6 + 5, none⟩ = some (.slice x.ka x.keys.length x.kc)) := Lib.hid fun w' hw => by
          have k : ∀ g j, g ≤ W.heap.size → w'.cell? ⟨g, j, none⟩ = wr.cell? ⟨g, j, none⟩ := fun g j hg => World.cell?_of_block (w := wr) (a := ⟨g, j, none⟩) (hw g hg)
          exact ⟨(k _ _ (Nat.le_refl _)).trans a4, (k _ _ (by omega)).trans c0, (k _ _ (by omega)).trans c1, (k _ _ (by omega)).trans c2, (k _ _ (by omega)).trans c3, (k _ _ (by omega)).trans c4, (k _ _ (by omega)).trans c5⟩
        have HT : Hid ((ks.take (vs.length + 1)).map VD.v = (ks.take vs.length).map VD.v ++ [x.v]) := Lib.hid (by rw [List.take_add_one, hx, Option.toList_some, List.map_append]; rfl)
        have hdr : Below wr.heap.size wr wr.drew := (Below.refl _ _).drew
        have HO1 := Lib.hid (HO.out.ext hdr)
        have hc := HI.out x hxm wr.drew HO1.out.below.size ((hvr.kid x hxm).ext hdr)
        rw [VD.val6] at hc
        have Hc := Lib.hid hc
        have hq0 := HO1.out.blk.cell 4
        clear hdr hc hx hxm hvr hebB
        go_upto_region 5 with (fail)
        refine wp_region_held_drew (S := fun w' => w'.cell? ⟨W.heap.size, 4, none⟩ = some (.slice (some ⟨eb, eo, none⟩) ks.length c) ∧ w'.cell? ⟨eb, eo + vs.length * 6, none⟩ = some (.int .i64 x.sort) ∧ w'.cell? ⟨eb, eo + vs.length * 6 + 1, none⟩ = some (.bool x.on) ∧ w'.cell? ⟨eb, eo + vs.length * 6 + 2, none⟩ = some (.int .i64 x.n) ∧ w'.cell? ⟨eb, eo + vs.length * 6 + 3, none⟩ = some (.string ⟨x.text.toArray⟩) ∧ w'.cell? ⟨eb, eo + vs.length * 6 + 4, none⟩ = some (.slice x.a x.list.length x.c) ∧ w'.cell? ⟨eb, eo + vs.length * 6 + 5, none⟩ = some (.slice x.ka x.keys.length x.kc)) (by kernel_rfl) ?_ (fun hHeld => ?_)
        · exact HS.out _ (fun _ _ => rfl)
        refine wpAnyH_take (i := 0) (oi := ⟨some 23, _, _, _, _, _⟩) (v := ?_) rfl (by kernel_rfl) (by kernel_rfl) (by kernel_rfl) (fun _ _ _ h => h) (Or.inl ⟨by rfl, ?_⟩) (by assumption) ?_; rotate_left; focus (intro w hSw; (try dsimp only at hSw); first | (go_simp; done) | (go_simp; with_reducible rfl))
        try simp only [Act.put]
        try simp only [List.setIfInBounds_toArray]
        try simp only [List.set_cons_succ, List.set_cons_zero]
        refine wpAnyH_take (i := 2) (oi := ⟨some 25, _, _, _, _, _⟩) (v := ?_) rfl (by kernel_rfl) (by kernel_rfl) (by kernel_rfl) (fun _ _ _ h => h) (Or.inl ⟨by rfl, ?_⟩) (by assumption) ?_; rotate_left; focus (intro w hSw; (try dsimp only at hSw); first | (go_simp; done) | (go_simp; with_reducible rfl))
        try simp only [Act.put]
        try simp only [List.setIfInBounds_toArray]
        try simp only [List.set_cons_succ, List.set_cons_zero]
        refine wpAnyH_take (i := 3) (oi := ⟨some 26, _, _, _, _, _⟩) (v := ?_) rfl (by kernel_rfl) (by kernel_rfl) (by kernel_rfl) (fun _ _ _ h => h) (Or.inl ⟨by rfl, ?_⟩) (by assumption) ?_; rotate_left; focus (intro w hSw; (try dsimp only at hSw); obtain ⟨s4, s0, s1, s2, s3, s5, s6⟩ := hSw; first | (go_simp; done) | (go_simp; with_reducible rfl))
        try simp only [Act.put]
        try simp only [List.setIfInBounds_toArray]
        try simp only [List.set_cons_succ, List.set_cons_zero]
        refine wpAnyH_take (i := 4) (oi := ⟨some 27, _, _, _, _, _⟩) (v := ?_) rfl (by kernel_rfl) (by kernel_rfl) (by kernel_rfl) (fun _ _ _ h => h) (Or.inl ⟨by rfl, ?_⟩) (by assumption) ?_; rotate_left; focus (intro w hSw; (try dsimp only at hSw); first | (go_simp; done) | (go_simp; with_reducible rfl))
        try simp only [Act.put]
        try simp only [List.setIfInBounds_toArray]
        try simp only [List.set_cons_succ, List.set_cons_zero]
        refine wpAnyH_take (i := 5) (oi := ⟨some 28, _, _, _, _, _⟩) (v := ?_) rfl (by kernel_rfl) (by kernel_rfl) (by kernel_rfl) (fun _ _ _ h => h) (Or.inl ⟨by rfl, ?_⟩) (by assumption) ?_; rotate_left; focus (intro w hSw; (try dsimp only at hSw); first | (go_simp; done) | (go_simp; with_reducible rfl))
        try simp only [Act.put]
        try simp only [List.setIfInBounds_toArray]
        try simp only [List.set_cons_succ, List.set_cons_zero]
        refine wpAnyH_take (i := 6) (oi := ⟨some 29, _, _, _, _, _⟩) (v := ?_) rfl (by kernel_rfl) (by kernel_rfl) (by kernel_rfl) (fun _ _ _ h => h) (Or.inl ⟨by rfl, ?_⟩) (by assumption) ?_; rotate_left; focus (intro w hSw; (try dsimp only at hSw); obtain ⟨s4, s0, s1, s2, s3, s5, s6⟩ := hSw; first | (go_simp; done) | (go_simp; with_reducible rfl))
        try simp only [Act.put]
        try simp only [List.setIfInBounds_toArray]
        try simp only [List.set_cons_succ, List.set_cons_zero]
        refine wpAnyH_ready (rs := [1, 7]) (by kernel_rfl) (by simp) ?_
        refine AllReadyH.cons (i := 1) (o := ⟨some 24, _, _, _, _, _⟩) rfl (fun K hK => ?_) ?_
        · go_simp
          refine hK.out _ _ ?_ (fun hHeld => ?_)
          · exact hHeld
          try simp only [Act.put]
          try simp only [List.setIfInBounds_toArray]
          try simp only [List.set_cons_succ, List.set_cons_zero]
          refine wpAnyH_ready (rs := [7]) (by kernel_rfl) (by simp) ?_
          refine AllReadyH.cons (i := 7) (o := ⟨some 30, _, _, _, _, _⟩) rfl (fun K hK => ?_) ?_
          · go_simp
            refine Hc.out.mono ?_
            rintro e w2 ⟨d2, rfl, hd2, hva2, hb2⟩
            have HO2 := Lib.hid (HO1.out.ext hb2)
            have Hown2 := Lib.hid HO2.out.own
            have HB2 := Lib.hid hb2
            have HVA2 := Lib.hid hva2
            have HD2 := Lib.hid hd2
            have hws2 := HO2.out.blk.lt
            have hq2 := HO2.out.blk.cell 4
            have HH2 : Hid (∀ k, k ≤ W.heap.size → w2.heap[k]? = wr.heap[k]?) := Lib.hid fun k hk => hb2.block k (show k < wr.heap.size by omega)
            have hq3 := (HO2.out.blk.alloc (.cells #[.int .i64 d2.sort, .bool d2.on, .int .i64 d2.n, .string ⟨d2.text.toArray⟩, .slice d2.a d2.list.length d2.c, .slice d2.ka d2.keys.length d2.kc] 26)).cell 4
            have HH3 : Hid (∀ k, k ≤ W.heap.size → (w2.alloc (.cells #[.int .i64 d2.sort, .bool d2.on, .int .i64 d2.n, .string ⟨d2.text.toArray⟩, .slice d2.a d2.list.length d2.c, .slice d2.ka d2.keys.length d2.kc] 26)).heap[k]? = wr.heap[k]?) := Lib.hid fun k hk => (Below.heap_alloc _ _ k (by omega)).trans (HH2.out k hk)
            clear hb2 hva2 hd2
            refine hK.out _ _ ?_ (fun hHeld => ?_)
            · exact HS.out _ HH2.out
            try simp only [Act.put]
            try simp only [List.setIfInBounds_toArray]
            try simp only [List.set_cons_succ, List.set_cons_zero]
            refine wpAnyH_ready (rs := [8]) (by kernel_rfl) (by simp) ?_
            refine AllReadyH.cons (i := 8) (o := ⟨some 31, _, _, _, _, _⟩) rfl (fun K hK => ?_) ?_
            · go_simp
              refine hK.out _ _ ?_ (fun hHeld => ?_)
              · exact HS.out _ HH3.out
              try simp only [Act.put]
              try simp only [List.setIfInBounds_toArray]
              try simp only [List.set_cons_succ, List.set_cons_zero]
              refine wpAnyH_ready (rs := [9]) (by kernel_rfl) (by simp) ?_
              refine AllReadyH.cons (i := 9) (o := ⟨some 32, _, _, _, _, _⟩) rfl (fun K hK => ?_) ?_
              · refine step_append_Own rfl (.tmp 24) (.tmp 31) 23 rfl (W.heap.size + 3) 26 _ 6 88 Tryz.underlying23 Tryz.infoDoc rfl (by decide) la vs.length lc _ (by simp [go_sem]) (by exact Hown2.out.alloc _) _ 1 1 [.int .i64 d2.sort, .bool d2.on, .int .i64 d2.n, .string ⟨d2.text.toArray⟩, .slice d2.a d2.list.length d2.c, .slice d2.ka d2.keys.length d2.kc] (by simp [go_sem]; rfl) (by exact Row.new1 (by simp) rfl rfl) (by intro u hu; simp at hu; rcases hu with rfl | rfl | rfl | rfl | rfl | rfl <;> rfl) (by unfold maxLen; omega) (by omega) (by simp; omega) ?_
                intro a6 c6 w6 hown6 hg6 hbk6
                have HO6 := Lib.hid hown6
                have HG6 := Lib.hid hg6
                have HK6 := Lib.hid hbk6
                have HH6 : Hid (∀ k, k ≤ W.heap.size → w6.heap[k]? = wr.heap[k]?) := Lib.hid fun k hk => (hg6.block k (by simp; omega) (fun e => HO2.out.own.apart (by omega) e)).trans (HH3.out k hk)
                have HH7 : Hid (∀ k, k ≤ W.heap.size → (w6.setCell ⟨W.heap.size + 2, 4, none⟩ (.slice a6 (vs.length + 1) c6)).heap[k]? = wr.heap[k]?) := Lib.hid fun k hk => (Below.heap_setCell _ ⟨W.heap.size + 2, 4, none⟩ _ k (by show k ≠ W.heap.size + 2; omega)).trans (HH6.out k hk)
                have hb6 : Blk w6 (W.heap.size + 2) #[.int .i64 s, .bool o, .int .i64 n, .string ⟨t.toArray⟩, .slice la vs.length lc, .slice ka keys.length kc] 26 := (hg6.block (W.heap.size + 2) (by simp; omega) (fun e => HO2.out.own.apart (by omega) e)).trans (HO2.out.blk.alloc _)
                have hq6 := hb6.cell 4
                have hf6 := hb6.free 4
                clear hown6 hg6 hbk6 hb6
                refine hK.out _ _ ?_ (fun hHeld => ?_)
                · exact HS.out _ HH6.out
                try simp only [Act.put]
                try simp only [List.setIfInBounds_toArray]
                try simp only [List.set_cons_succ, List.set_cons_zero]
                refine wpAnyH_take (i := 10) (oi := ⟨some 33, _, _, _, _, _⟩) (v := ?_) rfl (by kernel_rfl) (by kernel_rfl) (by kernel_rfl) (fun _ _ _ h => h) (Or.inl ⟨by rfl, ?_⟩) (by assumption) ?_; rotate_left; focus (intro w hSw; (try dsimp only at hSw); first | (go_simp; done) | (go_simp; with_reducible rfl))
                try simp only [Act.put]
                try simp only [List.setIfInBounds_toArray]
                try simp only [List.set_cons_succ, List.set_cons_zero]
                refine wpAnyH_ready (rs := [11]) (by kernel_rfl) (by simp) ?_
                refine AllReadyH.cons (i := 11) (o := ⟨none, _, _, _, _, _⟩) rfl (fun K hK => ?_) ?_
                · go_simp
                  refine hK.out _ _ ?_ (fun hHeld => ?_)
                  · exact HS.out _ HH7.out
                  try simp only [Act.put]
                  try simp only [List.setIfInBounds_toArray]
                  try simp only [List.set_cons_succ, List.set_cons_zero]
                  refine wpAnyH_done (by kernel_rfl) ?_ _
                  have HN : Hid (OV 26 36 B W (w6.setCell ⟨W.heap.size + 2, 4, none⟩ (.slice a6 (vs.length + 1) c6)) (VD.mk s o n t (some ⟨eb, eo, none⟩) c ks ka kc keys) (vs ++ [d2]) a6 c6) := Lib.hid (HO1.out.push hBW HB2.out HVA2.out _ (by rw [List.flatMap_append, List.flatMap_singleton, cells_list]; exact HO6.out) HG6.out HK6.out)
                  go_wp2
                  go_roundw
                  case rel => exact ⟨vs ++ [d2], a6, c6, by rw [List.length_append]; exact hlt, by rw [List.length_append]; go_num, HN, Lib.hid (by rw [List.length_append, List.map_append, HE.out]; simp [HT.out, HD2.out])⟩
                  case measure => simp [intOf]; omega
                exact AllReadyH.nil
              exact AllReadyH.nil
            exact AllReadyH.nil
          exact AllReadyH.nil
        refine AllReadyH.cons (i := 7) (o := ⟨some 30, _, _, _, _, _⟩) rfl (fun K hK => ?_) ?_
        · go_simp
          refine Hc.out.mono ?_
          rintro e w2 ⟨d2, rfl, hd2, hva2, hb2⟩
          have HO2 := Lib.hid (HO1.out.ext hb2)
          have Hown2 := Lib.hid HO2.out.own
          have HB2 := Lib.hid hb2
          have HVA2 := Lib.hid hva2
          have HD2 := Lib.hid hd2
          have hws2 := HO2.out.blk.lt
          have hq2 := HO2.out.blk.cell 4
          have HH2 : Hid (∀ k, k ≤ W.heap.size → w2.heap[k]? = wr.heap[k]?) := Lib.hid fun k hk => hb2.block k (show k < wr.heap.size by omega)
          have hq3 := (HO2.out.blk.alloc (.cells #[.int .i64 d2.sort, .bool d2.on, .int .i64 d2.n, .string ⟨d2.text.toArray⟩, .slice d2.a d2.list.length d2.c, .slice d2.ka d2.keys.length d2.kc] 26)).cell 4
          have HH3 : Hid (∀ k, k ≤ W.heap.size → (w2.alloc (.cells #[.int .i64 d2.sort, .bool d2.on, .int .i64 d2.n, .string ⟨d2.text.toArray⟩, .slice d2.a d2.list.length d2.c, .slice d2.ka d2.keys.length d2.kc] 26)).heap[k]? = wr.heap[k]?) := Lib.hid fun k hk => (Below.heap_alloc _ _ k (by omega)).trans (HH2.out k hk)
          clear hb2 hva2 hd2
          refine hK.out _ _ ?_ (fun hHeld => ?_)
          · exact HS.out _ HH2.out
          try simp only [Act.put]
          try simp only [List.setIfInBounds_toArray]
          try simp only [List.set_cons_succ, List.set_cons_zero]
          refine wpAnyH_ready (rs := [1, 8]) (by kernel_rfl) (by simp) ?_
          refine AllReadyH.cons (i := 1) (o := ⟨some 24, _, _, _, _, _⟩) rfl (fun K hK => ?_) ?_
          · go_simp
            refine hK.out _ _ ?_ (fun hHeld => ?_)
            · exact hHeld
            try simp only [Act.put]
            try simp only [List.setIfInBounds_toArray]
            try simp only [List.set_cons_succ, List.set_cons_zero]
            refine wpAnyH_ready (rs := [8]) (by kernel_rfl) (by simp) ?_
            refine AllReadyH.cons (i := 8) (o := ⟨some 31, _, _, _, _, _⟩) rfl (fun K hK => ?_) ?_
            · go_simp
              refine hK.out _ _ ?_ (fun hHeld => ?_)
              · exact HS.out _ HH3.out
              try simp only [Act.put]
              try simp only [List.setIfInBounds_toArray]
              try simp only [List.set_cons_succ, List.set_cons_zero]
              refine wpAnyH_ready (rs := [9]) (by kernel_rfl) (by simp) ?_
              refine AllReadyH.cons (i := 9) (o := ⟨some 32, _, _, _, _, _⟩) rfl (fun K hK => ?_) ?_
              · refine step_append_Own rfl (.tmp 24) (.tmp 31) 23 rfl (W.heap.size + 3) 26 _ 6 88 Tryz.underlying23 Tryz.infoDoc rfl (by decide) la vs.length lc _ (by simp [go_sem]) (by exact Hown2.out.alloc _) _ 1 1 [.int .i64 d2.sort, .bool d2.on, .int .i64 d2.n, .string ⟨d2.text.toArray⟩, .slice d2.a d2.list.length d2.c, .slice d2.ka d2.keys.length d2.kc] (by simp [go_sem]; rfl) (by exact Row.new1 (by simp) rfl rfl) (by intro u hu; simp at hu; rcases hu with rfl | rfl | rfl | rfl | rfl | rfl <;> rfl) (by unfold maxLen; omega) (by omega) (by simp; omega) ?_
                intro a6 c6 w6 hown6 hg6 hbk6
                have HO6 := Lib.hid hown6
                have HG6 := Lib.hid hg6
                have HK6 := Lib.hid hbk6
                have HH6 : Hid (∀ k, k ≤ W.heap.size → w6.heap[k]? = wr.heap[k]?) := Lib.hid fun k hk => (hg6.block k (by simp; omega) (fun e => HO2.out.own.apart (by omega) e)).trans (HH3.out k hk)
                have HH7 : Hid (∀ k, k ≤ W.heap.size → (w6.setCell ⟨W.heap.size + 2, 4, none⟩ (.slice a6 (vs.length + 1) c6)).heap[k]? = wr.heap[k]?) := Lib.hid fun k hk => (Below.heap_setCell _ ⟨W.heap.size + 2, 4, none⟩ _ k (by show k ≠ W.heap.size + 2; omega)).trans (HH6.out k hk)
                have hb6 : Blk w6 (W.heap.size + 2) #[.int .i64 s, .bool o, .int .i64 n, .string ⟨t.toArray⟩, .slice la vs.length lc, .slice ka keys.length kc] 26 := (hg6.block (W.heap.size + 2) (by simp; omega) (fun e => HO2.out.own.apart (by omega) e)).trans (HO2.out.blk.alloc _)
                have hq6 := hb6.cell 4
                have hf6 := hb6.free 4
                clear hown6 hg6 hbk6 hb6
                refine hK.out _ _ ?_ (fun hHeld => ?_)
                · exact HS.out _ HH6.out
                try simp only [Act.put]
                try simp only [List.setIfInBounds_toArray]
                try simp only [List.set_cons_succ, List.set_cons_zero]
                refine wpAnyH_take (i := 10) (oi := ⟨some 33, _, _, _, _, _⟩) (v := ?_) rfl (by kernel_rfl) (by kernel_rfl) (by kernel_rfl) (fun _ _ _ h => h) (Or.inl ⟨by rfl, ?_⟩) (by assumption) ?_; rotate_left; focus (intro w hSw; (try dsimp only at hSw); first | (go_simp; done) | (go_simp; with_reducible rfl))
                try simp only [Act.put]
                try simp only [List.setIfInBounds_toArray]
                try simp only [List.set_cons_succ, List.set_cons_zero]
                refine wpAnyH_ready (rs := [11]) (by kernel_rfl) (by simp) ?_
                refine AllReadyH.cons (i := 11) (o := ⟨none, _, _, _, _, _⟩) rfl (fun K hK => ?_) ?_
                · go_simp
                  refine hK.out _ _ ?_ (fun hHeld => ?_)
                  · exact HS.out _ HH7.out
                  try simp only [Act.put]
                  try simp only [List.setIfInBounds_toArray]
                  try simp only [List.set_cons_succ, List.set_cons_zero]
                  refine wpAnyH_done (by kernel_rfl) ?_ _
                  have HN : Hid (OV 26 36 B W (w6.setCell ⟨W.heap.size + 2, 4, none⟩ (.slice a6 (vs.length + 1) c6)) (VD.mk s o n t (some ⟨eb, eo, none⟩) c ks ka kc keys) (vs ++ [d2]) a6 c6) := Lib.hid (HO1.out.push hBW HB2.out HVA2.out _ (by rw [List.flatMap_append, List.flatMap_singleton, cells_list]; exact HO6.out) HG6.out HK6.out)
                  go_wp2
                  go_roundw
                  case rel => exact ⟨vs ++ [d2], a6, c6, by rw [List.length_append]; exact hlt, by rw [List.length_append]; go_num, HN, Lib.hid (by rw [List.length_append, List.map_append, HE.out]; simp [HT.out, HD2.out])⟩
                  case measure => simp [intOf]; omega
                exact AllReadyH.nil
              exact AllReadyH.nil
            exact AllReadyH.nil
          refine AllReadyH.cons (i := 8) (o := ⟨some 31, _, _, _, _, _⟩) rfl (fun K hK => ?_) ?_
          · go_simp
            refine hK.out _ _ ?_ (fun hHeld => ?_)
            · exact HS.out _ HH3.out
            try simp only [Act.put]
            try simp only [List.setIfInBounds_toArray]
            try simp only [List.set_cons_succ, List.set_cons_zero]
            refine wpAnyH_ready (rs := [1]) (by kernel_rfl) (by simp) ?_
            refine AllReadyH.cons (i := 1) (o := ⟨some 24, _, _, _, _, _⟩) rfl (fun K hK => ?_) ?_
            · go_simp
              refine hK.out _ _ ?_ (fun hHeld => ?_)
              · exact hHeld
              try simp only [Act.put]
              try simp only [List.setIfInBounds_toArray]
              try simp only [List.set_cons_succ, List.set_cons_zero]
              refine wpAnyH_ready (rs := [9]) (by kernel_rfl) (by simp) ?_
              refine AllReadyH.cons (i := 9) (o := ⟨some 32, _, _, _, _, _⟩) rfl (fun K hK => ?_) ?_
              · refine step_append_Own rfl (.tmp 24) (.tmp 31) 23 rfl (W.heap.size + 3) 26 _ 6 88 Tryz.underlying23 Tryz.infoDoc rfl (by decide) la vs.length lc _ (by simp [go_sem]) (by exact Hown2.out.alloc _) _ 1 1 [.int .i64 d2.sort, .bool d2.on, .int .i64 d2.n, .string ⟨d2.text.toArray⟩, .slice d2.a d2.list.length d2.c, .slice d2.ka d2.keys.length d2.kc] (by simp [go_sem]; rfl) (by exact Row.new1 (by simp) rfl rfl) (by intro u hu; simp at hu; rcases hu with rfl | rfl | rfl | rfl | rfl | rfl <;> rfl) (by unfold maxLen; omega) (by omega) (by simp; omega) ?_
                intro a6 c6 w6 hown6 hg6 hbk6
                have HO6 := Lib.hid hown6
                have HG6 := Lib.hid hg6
                have HK6 := Lib.hid hbk6
                have HH6 : Hid (∀ k, k ≤ W.heap.size → w6.heap[k]? = wr.heap[k]?) := Lib.hid fun k hk => (hg6.block k (by simp; omega) (fun e => HO2.out.own.apart (by omega) e)).trans (HH3.out k hk)
                have HH7 : Hid (∀ k, k ≤ W.heap.size → (w6.setCell ⟨W.heap.size + 2, 4, none⟩ (.slice a6 (vs.length + 1) c6)).heap[k]? = wr.heap[k]?) := Lib.hid fun k hk => (Below.heap_setCell _ ⟨W.heap.size + 2, 4, none⟩ _ k (by show k ≠ W.heap.size + 2; omega)).trans (HH6.out k hk)
                have hb6 : Blk w6 (W.heap.size + 2) #[.int .i64 s, .bool o, .int .i64 n, .string ⟨t.toArray⟩, .slice la vs.length lc, .slice ka keys.length kc] 26 := (hg6.block (W.heap.size + 2) (by simp; omega) (fun e => HO2.out.own.apart (by omega) e)).trans (HO2.out.blk.alloc _)
                have hq6 := hb6.cell 4
                have hf6 := hb6.free 4
                clear hown6 hg6 hbk6 hb6
                refine hK.out _ _ ?_ (fun hHeld => ?_)
                · exact HS.out _ HH6.out
                try simp only [Act.put]
                try simp only [List.setIfInBounds_toArray]
                try simp only [List.set_cons_succ, List.set_cons_zero]
                refine wpAnyH_take (i := 10) (oi := ⟨some 33, _, _, _, _, _⟩) (v := ?_) rfl (by kernel_rfl) (by kernel_rfl) (by kernel_rfl) (fun _ _ _ h => h) (Or.inl ⟨by rfl, ?_⟩) (by assumption) ?_; rotate_left; focus (intro w hSw; (try dsimp only at hSw); first | (go_simp; done) | (go_simp; with_reducible rfl))
                try simp only [Act.put]
                try simp only [List.setIfInBounds_toArray]
                try simp only [List.set_cons_succ, List.set_cons_zero]
                refine wpAnyH_ready (rs := [11]) (by kernel_rfl) (by simp) ?_
                refine AllReadyH.cons (i := 11) (o := ⟨none, _, _, _, _, _⟩) rfl (fun K hK => ?_) ?_
                · go_simp
                  refine hK.out _ _ ?_ (fun hHeld => ?_)
                  · exact HS.out _ HH7.out
                  try simp only [Act.put]
                  try simp only [List.setIfInBounds_toArray]
                  try simp only [List.set_cons_succ, List.set_cons_zero]
                  refine wpAnyH_done (by kernel_rfl) ?_ _
                  have HN : Hid (OV 26 36 B W (w6.setCell ⟨W.heap.size + 2, 4, none⟩ (.slice a6 (vs.length + 1) c6)) (VD.mk s o n t (some ⟨eb, eo, none⟩) c ks ka kc keys) (vs ++ [d2]) a6 c6) := Lib.hid (HO1.out.push hBW HB2.out HVA2.out _ (by rw [List.flatMap_append, List.flatMap_singleton, cells_list]; exact HO6.out) HG6.out HK6.out)
                  go_wp2
                  go_roundw
                  case rel => exact ⟨vs ++ [d2], a6, c6, by rw [List.length_append]; exact hlt, by rw [List.length_append]; go_num, HN, Lib.hid (by rw [List.length_append, List.map_append, HE.out]; simp [HT.out, HD2.out])⟩
                  case measure => simp [intOf]; omega
                exact AllReadyH.nil
              exact AllReadyH.nil
            exact AllReadyH.nil
          exact AllReadyH.nil
        exact AllReadyH.nil
      · have hlen : vs.length = ks.length := by omega
        have HF := Lib.hid (HO.out.fin hBW HV.out (by rw [HE.out, hlen, List.take_length]; rfl))
        have y := HO.out.blk.sixT
        obtain ⟨y0, y1, y2, y3, y4, y5⟩ := y
        have f0 := HO.out.res.free 0
        have f1 := HO.out.res.free 1
        have f2 := HO.out.res.free 2
        have f3 := HO.out.res.free 3
        have f4 := HO.out.res.free 4
        have f5 := HO.out.res.free 5
        have a4 : wr.cell? ⟨W.heap.size, 4, none⟩ = some (.slice a ks.length c) := HO.out.arg.cell 4
        have z := HO.out.res.sixT
        obtain ⟨z0, z1, z2, z3, z4, z5⟩ := z
        have hrl := HO.out.res.lt
        clear HE hlen
        go_wp2
        refine to_end (g := W.heap.size + 1) rfl (store6 HO.out.res) ?_
        exact HF.out
end Go.Proofs.YthnbeebilomchaaGreatDoor

namespace Go.Proofs.YthnbeebilomchaaGreatDoor
open Go Go.RowKit

/-- two arguments in their boxes, their rows below -/
structure AB (w W : World) (d f : VD) : Prop where
  one : Blk W w.heap.size #[.int .i64 d.sort, .bool d.on, .int .i64 d.n, .string ⟨d.text.toArray⟩, .slice d.a d.list.length d.c, .slice d.ka d.keys.length d.kc] 26
  two : Blk W (w.heap.size + 1) #[.int .i64 f.sort, .bool f.on, .int .i64 f.n, .string ⟨f.text.toArray⟩, .slice f.a f.list.length f.c, .slice f.ka f.keys.length f.kc] 26
  glob : Glob W
  va : ValAt W (fun k => k < w.heap.size) d
  vb : ValAt W (fun k => k < w.heap.size) f
  below : Below w.heap.size w W
  lo : 8 ≤ w.heap.size
theorem AB.sz {w W : World} {d f : VD} (h : AB w W d f) : w.heap.size + 2 ≤ W.heap.size := h.two.lt
theorem AB.keep {w W W' : World} {d f : VD} (h : AB w W d f) {B : Nat} (hb : Below B W W') (hB : w.heap.size + 2 ≤ B) : AB w W' d f :=
  ⟨h.one.below hb (by omega), h.two.below hb (by omega), h.glob.below hb (by have := h.lo; omega), h.va.congr fun g hg _ => hb.block g (by omega), h.vb.congr fun g hg _ => hb.block g (by omega), h.below.trans (hb.mono (by omega)), h.lo⟩
theorem AB.ext {w W W' : World} {d f : VD} (h : AB w W d f) (hb : Below W.heap.size W W') : AB w W' d f := h.keep hb h.sz
theorem AB.start {w : World} {d f : VD} (hG : Glob w) (hd : ValAt w (fun _ => True) d) (hf : ValAt w (fun _ => True) f) :
    AB w ((w.alloc (.cells #[.int .i64 d.sort, .bool d.on, .int .i64 d.n, .string ⟨d.text.toArray⟩, .slice d.a d.list.length d.c, .slice d.ka d.keys.length d.kc] 26)).alloc (.cells #[.int .i64 f.sort, .bool f.on, .int .i64 f.n, .string ⟨f.text.toArray⟩, .slice f.a f.list.length f.c, .slice f.ka f.keys.length f.kc] 26)) d f := by
  have hb : Below w.heap.size w ((w.alloc (.cells #[.int .i64 d.sort, .bool d.on, .int .i64 d.n, .string ⟨d.text.toArray⟩, .slice d.a d.list.length d.c, .slice d.ka d.keys.length d.kc] 26)).alloc (.cells #[.int .i64 f.sort, .bool f.on, .int .i64 f.n, .string ⟨f.text.toArray⟩, .slice f.a f.list.length f.c, .slice f.ka f.keys.length f.kc] 26)) := (below_a1 w _).alloc (by simp) _
  exact ⟨(Blk.new rfl).alloc _, Blk.new (by simp), hG.ext hb, (hd.mono fun _ _ h => h).ext hb, (hf.mono fun _ _ h => h).ext hb, hb, hG.size⟩
/-- a box that holds a value -/
structure BoxA (w W : World) (g : Nat) (v : V) : Prop where
  lo : w.heap.size + 2 ≤ g
  ex : ∃ y : VD, y.v = v ∧ Blk W g #[.int .i64 y.sort, .bool y.on, .int .i64 y.n, .string ⟨y.text.toArray⟩, .slice y.a y.list.length y.c, .slice y.ka y.keys.length y.kc] 36 ∧ ValAt W (fun k => k ≠ g) y
theorem BoxA.ext {w W W' : World} {g : Nat} {v : V} (h : BoxA w W g v) (hb : Below W.heap.size W W') : BoxA w W' g v := by
  obtain ⟨y, h1, h2, h3⟩ := h.ex
  exact ⟨h.lo, y, h1, h2.ext hb, h3.ext hb⟩
/-- a slot that holds a value -/
def CopyS (x : Value) (v : V) (P : Nat → Prop) (W : World) : Prop := ∃ y : VD, x = .agg #[.int .i64 y.sort, .bool y.on, .int .i64 y.n, .string ⟨y.text.toArray⟩, .slice y.a y.list.length y.c, .slice y.ka y.keys.length y.kc] ∧ y.v = v ∧ ValAt W P y
theorem CopyS.ext {x : Value} {v : V} {P : Nat → Prop} {W W' : World} (h : CopyS x v P W) (hb : Below W.heap.size W W') : CopyS x v P W' := by
  obtain ⟨y, h1, h2, h3⟩ := h
  exact ⟨y, h1, h2, h3.ext hb⟩
theorem CopyS.mono {x : Value} {v : V} {P Q : Nat → Prop} {W : World} (h : CopyS x v P W) (hp : ∀ g, P g → g < W.heap.size → Q g) : CopyS x v Q W := by
  obtain ⟨y, h1, h2, h3⟩ := h
  exact ⟨y, h1, h2, h3.mono hp⟩
/-- not the box -/
def NB (D : Nat → Bool) (s : Nat → Value) (g : Nat) : Prop := D 5 = true → s 7 ≠ .pointer (some ⟨g, 0, none⟩)
structure A3 (w : World) (d f : VD) (D : Nat → Bool) (s : Nat → Value) (W : World) : Prop where
  ab : AB w W d f
  c29 : D 1 = true → D 6 = false → CopyS (s 29) d.v (NB D s) W
  c31 : D 3 = true → D 6 = false → CopyS (s 31) f.v (NB D s) W
  c32 : D 4 = true → D 6 = false → CopyS (s 32) (replyW d.v f.v) (NB D s) W
  b0 : D 5 = true → ∃ g, s 7 = .pointer (some ⟨g, 0, none⟩) ∧ w.heap.size + 2 ≤ g ∧ (D 6 = false → Blk W g #[.int .i64 0, .bool false, .int .i64 0, .string { data := #[] }, .slice none 0 0, .slice none 0 0] 36) ∧ (D 6 = true → BoxA w W g (replyW d.v f.v))
section
variable {w : World} {d f : VD} {D : Nat → Bool} {s : Nat → Value} {W W' : World}
theorem A3.start (h : AB w W d f) (d1 : D 1 = false) (d3 : D 3 = false) (d4 : D 4 = false) (d5 : D 5 = false) : A3 w d f D s W :=
  ⟨h, fun e => (by rw [d1] at e; cases e), fun e => (by rw [d3] at e; cases e), fun e => (by rw [d4] at e; cases e), fun e => (by rw [d5] at e; cases e)⟩
theorem A3.nb (h : A3 w d f D s W) (d6 : D 6 = false) : ∀ g, W.heap.size ≤ g → NB D s g := by
  intro g hg h5 e
  obtain ⟨k, h1, -, h3, -⟩ := h.b0 h5
  rw [h1] at e
  injection e with e
  injection e with e
  injection e with e
  have := (h3 d6).lt
  omega
theorem A3.nb2 (h : A3 w d f D s W) : ∀ g, g < w.heap.size → NB D s g := by
  intro g hg h5 e
  obtain ⟨k, h1, h2, -⟩ := h.b0 h5
  rw [h1] at e
  injection e with e
  injection e with e
  injection e with e
  omega
theorem A3.ext (h : A3 w d f D s W) (hb : Below W.heap.size W W') : A3 w d f D s W' :=
  ⟨h.ab.ext hb, fun e e' => (h.c29 e e').ext hb, fun e e' => (h.c31 e e').ext hb, fun e e' => (h.c32 e e').ext hb, fun e => by
    obtain ⟨g, h1, h2, h3, h4⟩ := h.b0 e
    exact ⟨g, h1, h2, fun q => (h3 q).ext hb, fun q => (h4 q).ext hb⟩⟩
theorem A3.op1 (h : A3 w d f D s W) (hb : Below W.heap.size W W') {x : Value} (hx : CopyS x d.v (NB D s) W') : A3 w d f (updD D 1) (updS s (some 29) x) W' :=
  { h.ext hb with c29 := fun _ _ => hx }
theorem A3.op3 (h : A3 w d f D s W) (hb : Below W.heap.size W W') {x : Value} (hx : CopyS x f.v (NB D s) W') : A3 w d f (updD D 3) (updS s (some 31) x) W' :=
  { h.ext hb with c31 := fun _ _ => hx }
theorem A3.op4 (h : A3 w d f D s W) (hb : Below W.heap.size W W') {x : Value} (hx : CopyS x (replyW d.v f.v) (NB D s) W') : A3 w d f (updD D 4) (updS s (some 32) x) W' :=
  { h.ext hb with c32 := fun _ _ => hx }
theorem A3.op5 (h : A3 w d f D s W) (d6 : D 6 = false) : A3 w d f (updD D 5) (updS s (some 7) (.pointer (some ⟨W.heap.size, 0, none⟩))) (W.alloc (.cells #[.int .i64 0, .bool false, .int .i64 0, .string { data := #[] }, .slice none 0 0, .slice none 0 0] 36)) := by
  have hb := below_a1 W (.cells #[.int .i64 0, .bool false, .int .i64 0, .string { data := #[] }, .slice none 0 0, .slice none 0 0] 36)
  have hn : ∀ g, NB D s g → g < W.heap.size → NB (updD D 5) (updS s (some 7) (.pointer (some ⟨W.heap.size, 0, none⟩))) g := by
    intro g _ hg _ e
    rw [updS_self] at e
    injection e with e
    injection e with e
    injection e with e
    omega
  exact ⟨h.ab.ext hb, fun e e' => ((h.c29 e e').mono hn).ext hb, fun e e' => ((h.c31 e e').mono hn).ext hb, fun e e' => ((h.c32 e e').mono hn).ext hb, fun _ => ⟨W.heap.size, rfl, h.ab.sz, fun _ => Blk.new rfl, fun e => (by rw [show updD D 5 6 = D 6 from rfl, d6] at e; cases e)⟩⟩
theorem A3.ends (h : A3 w d f D s W) (d5 : D 5 = true) (d6 : D 6 = true) : AB w W d f ∧ ∃ g, s 7 = .pointer (some ⟨g, 0, none⟩) ∧ BoxA w W g (replyW d.v f.v) := by
  obtain ⟨g, h1, -, -, h4⟩ := h.b0 d5
  exact ⟨h.ab, g, h1, h4 d6⟩
end
theorem A3.op6 {w : World} {d f : VD} {D : Nat → Bool} {s : Nat → Value} {W : World} (h : A3 w d f D s W) {g : Nat} {y : VD} (h7 : s 7 = .pointer (some ⟨g, 0, none⟩)) (hg : w.heap.size + 2 ≤ g) (hB : Blk W g #[.int .i64 0, .bool false, .int .i64 0, .string { data := #[] }, .slice none 0 0, .slice none 0 0] 36) (hv : y.v = replyW d.v f.v) (ha : ValAt W (NB D s) y) (d5 : D 5 = true) :
    A3 w d f (updD D 6) (updS s none undef) (put6 W g 0 (.int .i64 y.sort) (.bool y.on) (.int .i64 y.n) (.string ⟨y.text.toArray⟩) (.slice y.a y.list.length y.c) (.slice y.ka y.keys.length y.kc)) := by
  have hb : Below (w.heap.size + 2) W (put6 W g 0 (.int .i64 y.sort) (.bool y.on) (.int .i64 y.n) (.string ⟨y.text.toArray⟩) (.slice y.a y.list.length y.c) (.slice y.ka y.keys.length y.kc)) := put6_below (Below.refl _ _) hg
  refine ⟨h.ab.keep hb (Nat.le_refl _), fun _ e => (by rw [updD_self] at e; cases e), fun _ e => (by rw [updD_self] at e; cases e), fun _ e => (by rw [updD_self] at e; cases e), fun _ => ⟨g, h7, hg, fun e => (by rw [updD_self] at e; cases e), fun _ => ⟨hg, y, hv, store6 hB, ?_⟩⟩⟩
  have hne : ∀ k, NB D s k → k ≠ g := fun k hk e => hk d5 (by rw [h7, e])
  exact (ha.congr fun k hk _ => put6_other (hne k hk)).mono fun k hk _ => hne k hk
/-- a value in its box -/
structure BX (W : World) (g : Nat) (x : VD) (v : V) : Prop where
  blk : Blk W g #[.int .i64 x.sort, .bool x.on, .int .i64 x.n, .string ⟨x.text.toArray⟩, .slice x.a x.list.length x.c, .slice x.ka x.keys.length x.kc] 36
  val : ValAt W (fun _ => True) x
  v : x.v = v
theorem BX.ext {W W' : World} {g : Nat} {x : VD} {v : V} (h : BX W g x v) (hb : Below W.heap.size W W') : BX W' g x v := ⟨h.blk.ext hb, h.val.ext hb, h.v⟩
theorem BX.new {W : World} {x : VD} {v : V} (hb : ValAt W (fun _ => True) x) (hv : x.v = v) : BX (W.alloc (.cells #[.int .i64 x.sort, .bool x.on, .int .i64 x.n, .string ⟨x.text.toArray⟩, .slice x.a x.list.length x.c, .slice x.ka x.keys.length x.kc] 36)) W.heap.size x v := ⟨Blk.new rfl, hb.ext (below_a1 _ _), hv⟩
theorem ofA_any {w W : World} {d : VD} (hs : w.heap.size ≤ W.heap.size) (h : ValAt W (fun k => k < w.heap.size) d) (hz : sizeV d.v ≤ 1048576) : Calls Tryz.prog 15 #[.agg #[.int .i64 d.sort, .bool d.on, .int .i64 d.n, .string ⟨d.text.toArray⟩, .slice d.a d.list.length d.c, .slice d.ka d.keys.length d.kc]] W (OfE w.heap.size W d.v) := by
  have h1 := of_any d w.heap.size W hs h hz
  rwa [VD.val6] at h1
theorem toA_any {W : World} {d : VD} (h : ValAt W (fun _ => True) d) (hz : sizeV d.v ≤ 1048576) : Calls Tryz.prog 12 #[.agg #[.int .i64 d.sort, .bool d.on, .int .i64 d.n, .string ⟨d.text.toArray⟩, .slice d.a d.list.length d.c, .slice d.ka d.keys.length d.kc]] W (DocE W d.v) := by
  have h1 := to_any d W.heap.size W (Nat.le_refl _) (h.mono fun _ _ h => h) hz
  rw [VD.val6] at h1
  refine h1.mono ?_
  rintro e w' ⟨y, rfl, hv, ha, hb⟩
  exact ⟨y, rfl, hv, ha.mono fun _ _ _ => trivial, hb⟩
theorem same_ok {W : World} {d e : VD} (hd : ValAt W (fun _ => True) d) (he : ValAt W (fun _ => True) e) (hs : sizeV d.v ≤ 1048576) (hv : d.v = e.v) : Calls Tryz.prog 11 #[.agg #[.int .i64 d.sort, .bool d.on, .int .i64 d.n, .string ⟨d.text.toArray⟩, .slice d.a d.list.length d.c, .slice d.ka d.keys.length d.kc], .agg #[.int .i64 e.sort, .bool e.on, .int .i64 e.n, .string ⟨e.text.toArray⟩, .slice e.a e.list.length e.c, .slice e.ka e.keys.length e.kc]] W (BoE W true) := by
  have h1 := sameR_any d e W hd he hs
  rw [VD.val6, VD.val6] at h1
  refine h1.mono ?_
  rintro r w' ⟨u, rfl, hb, b, rfl, hbb⟩
  obtain rfl : b = true := hbb.2 hv
  exact ⟨rfl, hb⟩
theorem size_reply (i r : V) : sizeV (replyW i r) ≤ sizeV i + sizeV r + 100 := by
  simp only [replyW, recW, strW, v20, kJson, kId, kResult, sizeV, sizesV, List.map_cons, List.map_nil, List.length_cons, List.length_nil, List.sum_cons, List.sum_nil]
  omega
theorem size_note (r : V) : sizeV (noteW kPublish r) ≤ sizeV r + 200 := by
  simp only [noteW, recW, strW, v20, kJson, kMethod, kParams, kPublish, sizeV, sizesV, List.map_cons, List.map_nil, List.length_cons, List.length_nil, List.sum_cons, List.sum_nil]
  omega
theorem name_size (n : Int) : (codeNm n).length ≤ 30 := by
  unfold codeNm
  repeat (split; decide)
  decide
theorem size_fail (i : V) (e : Int) : sizeV (failW i e) ≤ sizeV i + 300 := by
  have := name_size (codeN e)
  simp only [failW, recW, strW, numW, v20, kJson, kId, kError, kCode, kMessage, sizeV, sizesV, List.map_cons, List.map_nil, List.length_cons, List.length_nil, List.sum_cons, List.sum_nil]
  omega
theorem notep_any (r : VD) (w : World) (hr : ValAt w (fun _ => True) r) : Calls Tryz.prog 17 #[.string ⟨[116, 101, 120, 116, 68, 111, 99, 117, 109, 101, 110, 116, 47, 112, 117, 98, 108, 105, 115, 104, 68, 105, 97, 103, 110, 111, 115, 116, 105, 99, 115].toArray⟩, .agg #[.int .i64 r.sort, .bool r.on, .int .i64 r.n, .string ⟨r.text.toArray⟩, .slice r.a r.list.length r.c, .slice r.ka r.keys.length r.kc]] w (DocE w (noteW kPublish r.v)) := by
  have h := note_any kPublish r w hr
  rwa [VD.val6] at h
theorem notepR_any (r : VD) (w : World) (hr : ValAt w (fun _ => True) r) : Calls Tryz.prog 20 #[.string ⟨[116, 101, 120, 116, 68, 111, 99, 117, 109, 101, 110, 116, 47, 112, 117, 98, 108, 105, 115, 104, 68, 105, 97, 103, 110, 111, 115, 116, 105, 99, 115].toArray⟩, .agg #[.int .i64 r.sort, .bool r.on, .int .i64 r.n, .string ⟨r.text.toArray⟩, .slice r.a r.list.length r.c, .slice r.ka r.keys.length r.kc]] w (DocE w (noteW kPublish r.v)) := by
  have h := noteR_any kPublish r w hr
  rwa [VD.val6] at h

set_option maxHeartbeats 8000000 in
set_option maxRecDepth 20000 in
theorem answers_any (d f : VD) (n : Int) (w : World) (hG : Glob w) (hd : ValAt w (fun _ => True) d) (hf : ValAt w (fun _ => True) f) (hds : sizeV d.v ≤ 1048576) (hfs : sizeV f.v ≤ 1048576) : Calls Tryz.prog 4 #[d.val, f.val, .int .i64 n] w (BoE w true) := by
  obtain ⟨W1, hW1⟩ : ∃ W1, W1 = (w.alloc (.cells #[.int .i64 d.sort, .bool d.on, .int .i64 d.n, .string ⟨d.text.toArray⟩, .slice d.a d.list.length d.c, .slice d.ka d.keys.length d.kc] 26)).alloc (.cells #[.int .i64 f.sort, .bool f.on, .int .i64 f.n, .string ⟨f.text.toArray⟩, .slice f.a f.list.length f.c, .slice f.ka f.keys.length f.kc] 26) := ⟨_, rfl⟩
  have HL : Hid (AB w W1 d f) := Lib.hid (by rw [hW1]; exact .start hG hd hf)
  have HS1 := Lib.hid hds
  have HS2 := Lib.hid hfs
  rw [VD.val6, VD.val6]
  clear hG hd hf hds hfs
  go_enter Tryz.func4, Tryz.ntmps4
  go_upto_region 1 with (fail)
  rw [← hW1]
  clear hW1
  have h1 := size_any d W1 (HL.out.va.mono fun _ _ _ => trivial) HS1.out
  rw [VD.val6] at h1
  have H1 := Lib.hid h1
  clear h1
  obtain ⟨c0, c1, c2, c3, c4, c5⟩ := HL.out.one.sixT
  obtain ⟨e0, e1, e2, e3, e4, e5⟩ := HL.out.two.sixT
  go_wp2_with fail
  refine H1.out.mono ?_
  clear H1
  clear c0 c1 c2 c3 c4 c5 e0 e1 e2 e3 e4 e5
  rintro e W2 ⟨m1, rfl, hm1, hm2, hb⟩
  have HM1 := Lib.hid hm2
  have hm1' : m1 ≤ 1048576 := Nat.le_trans hm1 HS1.out
  have HLn := Lib.hid (HL.out.ext hb)
  clear HL hb
  have HL := HLn
  clear HLn
  clear hm1 hm2
  by_cases hbig : m1 ≤ 400
  case neg =>
    have hbi : (400 : Int) < m1 := by omega
    have HAL := Lib.hid (live_any W2 HL.out.glob)
    go_wp2_with fail
    refine HAL.out.mono ?_
    rintro e W9 ⟨rfl, hb3⟩
    have HB := Lib.hid (HL.out.below.trans (hb3.mono HL.out.below.size))
    clear hb3 HAL
    go_wp2
    go_ret
    exact ⟨rfl, HB.out⟩
  have hbi0 : ¬ ((400 : Int) < m1) := by omega
  have HZ0 : Hid (sizeV d.v ≤ 400) := Lib.hid (by rw [← HM1.out hbig]; exact hbig)
  clear hbig hm1' HM1
  have h1 := size_any f W2 (HL.out.vb.mono fun _ _ _ => trivial) HS2.out
  rw [VD.val6] at h1
  have H1 := Lib.hid h1
  clear h1
  obtain ⟨c0, c1, c2, c3, c4, c5⟩ := HL.out.one.sixT
  obtain ⟨e0, e1, e2, e3, e4, e5⟩ := HL.out.two.sixT
  go_wp2_with fail
  refine H1.out.mono ?_
  clear H1
  clear c0 c1 c2 c3 c4 c5 e0 e1 e2 e3 e4 e5
  rintro e W3 ⟨m1, rfl, hm1, hm2, hb⟩
  have HM1 := Lib.hid hm2
  have hm1' : m1 ≤ 1048576 := Nat.le_trans hm1 HS2.out
  have HLn := Lib.hid (HL.out.ext hb)
  clear HL hb
  have HL := HLn
  clear HLn
  clear hm1 hm2
  by_cases hbig : m1 ≤ 400
  case neg =>
    have hbi : (400 : Int) < m1 := by omega
    have HAL := Lib.hid (live_any W3 HL.out.glob)
    go_wp2_with fail
    refine HAL.out.mono ?_
    rintro e W9 ⟨rfl, hb3⟩
    have HB := Lib.hid (HL.out.below.trans (hb3.mono HL.out.below.size))
    clear hb3 HAL
    go_wp2
    go_ret
    exact ⟨rfl, HB.out⟩
  have hbi1 : ¬ ((400 : Int) < m1) := by omega
  have HZ1 : Hid (sizeV f.v ≤ 400) := Lib.hid (by rw [← HM1.out hbig]; exact hbig)
  clear hbig hm1' HM1
  go_upto_region 3 with (fail)
  refine wp_region_held_drew (S := (fun w' => Blk w' w.heap.size #[.int .i64 d.sort, .bool d.on, .int .i64 d.n, .string ⟨d.text.toArray⟩, .slice d.a d.list.length d.c, .slice d.ka d.keys.length d.kc] 26 ∧ Blk w' (w.heap.size + 1) #[.int .i64 f.sort, .bool f.on, .int .i64 f.n, .string ⟨f.text.toArray⟩, .slice f.a f.list.length f.c, .slice f.ka f.keys.length f.kc] 26)) (by kernel_rfl) ?_ (fun hHeld => ?_)
  · exact ⟨HL.out.one, HL.out.two⟩
  obtain ⟨Wd, hWd⟩ : ∃ q, q = W3.drew := ⟨_, rfl⟩
  rw [← hWd] at hHeld ⊢
  have HLn : Hid (AB w Wd d f) := Lib.hid (by rw [hWd]; have hb := (Below.refl W3.heap.size W3).drew; exact HL.out.ext hb)
  clear HL hWd
  have HL := HLn
  clear HLn
  refine wpAnyH_take (i := 0) (oi := ⟨some 28, _, _, _, _, _⟩) (v := ?_) rfl (by kernel_rfl) (by kernel_rfl) (by kernel_rfl) (fun _ _ _ h => h) (Or.inl ⟨by rfl, ?_⟩) (by assumption) ?_; rotate_left; focus (intro w hSw; (try dsimp only at hSw); obtain ⟨h1, h2⟩ := hSw; obtain ⟨a0, a1, a2, a3, a4, a5⟩ := h1.sixT; first | (go_simp; done) | (go_simp; with_reducible rfl))
  try simp only [Act.put]
  try simp only [List.setIfInBounds_toArray]
  try simp only [List.set_cons_succ, List.set_cons_zero]
  refine wpAnyH_take (i := 2) (oi := ⟨some 30, _, _, _, _, _⟩) (v := ?_) rfl (by kernel_rfl) (by kernel_rfl) (by kernel_rfl) (fun _ _ _ h => h) (Or.inl ⟨by rfl, ?_⟩) (by assumption) ?_; rotate_left; focus (intro w hSw; (try dsimp only at hSw); obtain ⟨h1, h2⟩ := hSw; obtain ⟨a0, a1, a2, a3, a4, a5⟩ := h2.sixT; first | (go_simp; done) | (go_simp; with_reducible rfl))
  try simp only [Act.put]
  try simp only [List.setIfInBounds_toArray]
  try simp only [List.set_cons_succ, List.set_cons_zero]
  refine wpAnyH_invF [29, 31, 32, 7] [0, 2] (A3 w d f) (by kernel_rfl) (by rfl) (by kernel_rfl) (by kernel_rfl) (Nat.le_of_ble_eq_true (by kernel_rfl)) ?_ ?_ ?_ ?_
  · intro D s W hJ
    exact ⟨hJ.ab.one, hJ.ab.two⟩
  · intro s
    exact A3.start HL.out rfl rfl rfl rfl
  · refine InvAllF.skip (by kernel_rfl) ?_
    refine InvAllF.cons (o := ⟨some 29, _, _, _, _, _⟩) (by kernel_rfl) (fun D s W hD hdep hno hJ K hK => ?_) ?_
    · have n3 : D 3 = false := hno 3 (by kernel_rfl)
      have n4 : D 4 = false := hno 4 (by kernel_rfl)
      have n6 : D 6 = false := hno 6 (by kernel_rfl)
      clear hdep hno
      simp only [setAll, List.foldl_cons, List.foldl_nil, Act.put, List.setIfInBounds_toArray, List.set_cons_succ, List.set_cons_zero]
      have h1 := ofA_any (w := w) (W := W) (by have := hJ.ab.sz; omega) (by exact hJ.ab.va) HS1.out
      have H1 := Lib.hid h1
      clear h1
      have HJ := Lib.hid hJ
      clear hJ
      go_simp
      refine H1.out.mono ?_
      rintro e w2 ⟨y, rfl, hyv, hya, hb⟩
      clear H1
      refine hK.out _ _ _ ?_ (HJ.out.op1 hb ⟨y, rfl, hyv, hya.mono fun k hk _ => hk.elim (HJ.out.nb2 k) (HJ.out.nb n6 k)⟩)
      simp only [setAll, List.foldl_cons, List.foldl_nil, Act.put, List.setIfInBounds_toArray, List.set_cons_succ, List.set_cons_zero]
    refine InvAllF.skip (by kernel_rfl) ?_
    refine InvAllF.cons (o := ⟨some 31, _, _, _, _, _⟩) (by kernel_rfl) (fun D s W hD hdep hno hJ K hK => ?_) ?_
    · have e1 : D 1 = true := hdep 1 (by kernel_rfl)
      have n4 : D 4 = false := hno 4 (by kernel_rfl)
      have n6 : D 6 = false := hno 6 (by kernel_rfl)
      clear hdep hno
      simp only [setAll, List.foldl_cons, List.foldl_nil, Act.put, List.setIfInBounds_toArray, List.set_cons_succ, List.set_cons_zero]
      have h1 := ofA_any (w := w) (W := W) (by have := hJ.ab.sz; omega) (by exact hJ.ab.vb) HS2.out
      have H1 := Lib.hid h1
      clear h1
      have HJ := Lib.hid hJ
      clear hJ
      go_simp
      refine H1.out.mono ?_
      rintro e w2 ⟨y, rfl, hyv, hya, hb⟩
      clear H1
      refine hK.out _ _ _ ?_ (HJ.out.op3 hb ⟨y, rfl, hyv, hya.mono fun k hk _ => hk.elim (HJ.out.nb2 k) (HJ.out.nb n6 k)⟩)
      simp only [setAll, List.foldl_cons, List.foldl_nil, Act.put, List.setIfInBounds_toArray, List.set_cons_succ, List.set_cons_zero]
    refine InvAllF.cons (o := ⟨some 32, _, _, _, _, _⟩) (by kernel_rfl) (fun D s W hD hdep hno hJ K hK => ?_) ?_
    · have e1 : D 1 = true := hdep 1 (by kernel_rfl)
      have e3 : D 3 = true := hdep 3 (by kernel_rfl)
      have n6 : D 6 = false := hno 6 (by kernel_rfl)
      clear hdep hno
      simp only [setAll, List.foldl_cons, List.foldl_nil, Act.put, List.setIfInBounds_toArray, List.set_cons_succ, List.set_cons_zero]
      obtain ⟨y1, q29, qv1, qa1⟩ := hJ.c29 e1 n6
      obtain ⟨y3, q31, qv3, qa3⟩ := hJ.c31 e3 n6
      have h1 := replyP_any (NB D s) y1 y3 W (hJ.nb n6) qa1 qa3
      rw [VD.val6, VD.val6, qv1, qv3] at h1
      have H1 := Lib.hid h1
      have HQ1 := Lib.hid q29
      have HQ3 := Lib.hid q31
      clear h1 q29 q31 qv1 qv3 qa1 qa3
      have HJ := Lib.hid hJ
      clear hJ
      simp only [HQ1.out, HQ3.out]
      go_simp
      refine H1.out.mono ?_
      rintro e w2 ⟨y, rfl, hyv, hya, hb⟩
      clear H1
      refine hK.out _ _ _ ?_ (HJ.out.op4 hb ⟨y, rfl, hyv, hya⟩)
      simp only [HQ1.out, HQ3.out, setAll, List.foldl_cons, List.foldl_nil, Act.put, List.setIfInBounds_toArray, List.set_cons_succ, List.set_cons_zero]
    refine InvAllF.cons (o := ⟨some 7, _, _, _, _, _⟩) (by kernel_rfl) (fun D s W hD hdep hno hJ K hK => ?_) ?_
    · have n6 : D 6 = false := hno 6 (by kernel_rfl)
      clear hdep hno
      simp only [setAll, List.foldl_cons, List.foldl_nil, Act.put, List.setIfInBounds_toArray, List.set_cons_succ, List.set_cons_zero]
      have HJ := Lib.hid hJ
      clear hJ
      go_simp
      refine hK.out _ _ _ ?_ (HJ.out.op5 n6)
      simp only [setAll, List.foldl_cons, List.foldl_nil, Act.put, List.setIfInBounds_toArray, List.set_cons_succ, List.set_cons_zero]
    refine InvAllF.cons (o := ⟨none, _, _, _, _, _⟩) (by kernel_rfl) (fun D s W hD hdep hno hJ K hK => ?_) ?_
    · have e1 : D 1 = true := hdep 1 (by kernel_rfl)
      have e3 : D 3 = true := hdep 3 (by kernel_rfl)
      have e4 : D 4 = true := hdep 4 (by kernel_rfl)
      have e5 : D 5 = true := hdep 5 (by kernel_rfl)
      clear hdep hno
      simp only [setAll, List.foldl_cons, List.foldl_nil, Act.put, List.setIfInBounds_toArray, List.set_cons_succ, List.set_cons_zero]
      obtain ⟨y, q32, qv, qa⟩ := hJ.c32 e4 hD
      obtain ⟨g, q7, hg, hB, -⟩ := hJ.b0 e5
      have hB := hB hD
      have HQ := Lib.hid q32
      have HQ7 := Lib.hid q7
      have HV := Lib.hid qv
      have HA := Lib.hid qa
      have HBK := Lib.hid hB
      have f0 := hB.free 0
      have f1 := hB.free 1
      have f2 := hB.free 2
      have f3 := hB.free 3
      have f4 := hB.free 4
      have f5 := hB.free 5
      obtain ⟨z0, z1, z2, z3, z4, z5⟩ := hB.sixT
      clear q32 qv qa q7 hB
      have HJ := Lib.hid hJ
      clear hJ
      simp only [HQ.out, HQ7.out]
      go_simp
      refine hK.out _ undef _ ?_ (HJ.out.op6 HQ7.out hg HBK.out HV.out HA.out e5)
      simp only [HQ.out, HQ7.out, setAll, List.foldl_cons, List.foldl_nil, Act.put, List.setIfInBounds_toArray, List.set_cons_succ, List.set_cons_zero]
    exact InvAllF.nil
  · intro D s W hD hJ
    obtain ⟨hab, gx, q7, hbx⟩ := hJ.ends (hD 5 (by decide)) (hD 6 (by decide))
    obtain ⟨x, hxv, hxb, hxa⟩ := hbx.ex
    have HLn : Hid (AB w W d f ∧ BX W gx x (replyW d.v f.v)) := Lib.hid ⟨hab, hxb, hxa.mono fun _ _ _ => trivial, hxv⟩
    clear hJ hD hab hbx hxv hxb hxa HL
    have HL := HLn
    clear HLn
    simp only [setAll, List.foldl_cons, List.foldl_nil, Act.put, List.setIfInBounds_toArray, List.set_cons_succ, List.set_cons_zero]
    rw [q7]
    clear q7
    generalize s 29 = u29
    generalize s 31 = u31
    generalize s 32 = u32
    clear s D
    obtain ⟨c0, c1, c2, c3, c4, c5⟩ := HL.out.1.one.sixT
    obtain ⟨e0, e1, e2, e3, e4, e5⟩ := HL.out.1.two.sixT
    have H1 := Lib.hid (ofA_any (by have := HL.out.1.sz; omega) HL.out.1.va HS1.out)
    go_wp2_with fail
    refine H1.out.mono ?_
    clear H1
    clear c0 c1 c2 c3 c4 c5 e0 e1 e2 e3 e4 e5
    rintro e W11 ⟨q, rfl, hqv, hqa, hb⟩
    have HLn : Hid (AB w W11 d f ∧ BX W11 gx x (replyW d.v f.v)) := Lib.hid ⟨HL.out.1.ext hb, HL.out.2.ext hb⟩
    have HQA := Lib.hid hqa
    clear HL hb hqa
    have HL := HLn
    clear HLn
    have h1 := fail_any q n W11 (HQA.out.mono fun _ _ _ => trivial)
    rw [VD.val6, hqv] at h1
    have H1 := Lib.hid h1
    clear h1 hqv
    go_wp2_with fail
    refine H1.out.mono ?_
    clear H1 HQA
    rintro e W12 ⟨y, rfl, hv, ha, hb⟩
    have HLn : Hid (AB w W12 d f ∧ BX W12 gx x (replyW d.v f.v)) := Lib.hid ⟨HL.out.1.ext hb, HL.out.2.ext hb⟩
    clear HL hb
    have HL := HLn
    clear HLn
    obtain ⟨gy, hg⟩ : ∃ q, q = W12.heap.size := ⟨_, rfl⟩
    obtain ⟨W13, hQ⟩ : ∃ q, q = W12.alloc (.cells #[.int .i64 y.sort, .bool y.on, .int .i64 y.n, .string ⟨y.text.toArray⟩, .slice y.a y.list.length y.c, .slice y.ka y.keys.length y.kc] 36) := ⟨_, rfl⟩
    have hb : Below W12.heap.size W12 W13 := by rw [hQ]; exact below_a1 _ _
    have HLn : Hid (AB w W13 d f ∧ BX W13 gx x (replyW d.v f.v) ∧ BX W13 gy y (failW d.v n)) := Lib.hid ⟨HL.out.1.ext hb, HL.out.2.ext hb, by rw [hQ, hg]; exact BX.new ha hv⟩
    clear HL hb hv ha
    have HL := HLn
    clear HLn
    go_upto_region 5 with (fail)
    rw [← hQ, ← hg]
    clear hQ hg
    obtain ⟨c0, c1, c2, c3, c4, c5⟩ := HL.out.1.one.sixT
    obtain ⟨e0, e1, e2, e3, e4, e5⟩ := HL.out.1.two.sixT
    have H1 := Lib.hid (ofA_any (by have := HL.out.1.sz; omega) HL.out.1.vb HS2.out)
    go_wp2_with fail
    refine H1.out.mono ?_
    clear H1
    clear c0 c1 c2 c3 c4 c5 e0 e1 e2 e3 e4 e5
    rintro e W14 ⟨q, rfl, hqv, hqa, hb⟩
    have HLn : Hid (AB w W14 d f ∧ BX W14 gx x (replyW d.v f.v) ∧ BX W14 gy y (failW d.v n)) := Lib.hid ⟨HL.out.1.ext hb, HL.out.2.1.ext hb, HL.out.2.2.ext hb⟩
    have HQA := Lib.hid hqa
    clear HL hb hqa
    have HL := HLn
    clear HLn
    have h1 := notep_any q W14 (HQA.out.mono fun _ _ _ => trivial)
    rw [hqv] at h1
    have H1 := Lib.hid h1
    clear h1 hqv
    go_wp2_with fail
    refine H1.out.mono ?_
    clear H1 HQA
    rintro e W15 ⟨z, rfl, hv, ha, hb⟩
    have HLn : Hid (AB w W15 d f ∧ BX W15 gx x (replyW d.v f.v) ∧ BX W15 gy y (failW d.v n)) := Lib.hid ⟨HL.out.1.ext hb, HL.out.2.1.ext hb, HL.out.2.2.ext hb⟩
    clear HL hb
    have HL := HLn
    clear HLn
    obtain ⟨gz, hg⟩ : ∃ q, q = W15.heap.size := ⟨_, rfl⟩
    obtain ⟨W16, hQ⟩ : ∃ q, q = W15.alloc (.cells #[.int .i64 z.sort, .bool z.on, .int .i64 z.n, .string ⟨z.text.toArray⟩, .slice z.a z.list.length z.c, .slice z.ka z.keys.length z.kc] 36) := ⟨_, rfl⟩
    have hb : Below W15.heap.size W15 W16 := by rw [hQ]; exact below_a1 _ _
    have HLn : Hid (AB w W16 d f ∧ BX W16 gx x (replyW d.v f.v) ∧ BX W16 gy y (failW d.v n) ∧ BX W16 gz z (noteW kPublish f.v)) := Lib.hid ⟨HL.out.1.ext hb, HL.out.2.1.ext hb, HL.out.2.2.ext hb, by rw [hQ, hg]; exact BX.new ha hv⟩
    clear HL hb hv ha
    have HL := HLn
    clear HLn
    go_upto_region 6 with (fail)
    rw [← hQ, ← hg]
    clear hQ hg
    have HX : Hid (sizeV x.v ≤ 1048576) := Lib.hid (by rw [HL.out.2.1.v]; exact Nat.le_trans (size_reply _ _) (by have := HZ0.out; have := HZ1.out; omega))
    refine wp_region_held_drew (S := (fun w' => Blk w' w.heap.size #[.int .i64 d.sort, .bool d.on, .int .i64 d.n, .string ⟨d.text.toArray⟩, .slice d.a d.list.length d.c, .slice d.ka d.keys.length d.kc] 26 ∧ Blk w' (w.heap.size + 1) #[.int .i64 f.sort, .bool f.on, .int .i64 f.n, .string ⟨f.text.toArray⟩, .slice f.a f.list.length f.c, .slice f.ka f.keys.length f.kc] 26 ∧ Blk w' gx #[.int .i64 x.sort, .bool x.on, .int .i64 x.n, .string ⟨x.text.toArray⟩, .slice x.a x.list.length x.c, .slice x.ka x.keys.length x.kc] 36)) (by kernel_rfl) ?_ (fun hHeld => ?_)
    · exact ⟨HL.out.1.one, HL.out.1.two, HL.out.2.1.blk⟩
    obtain ⟨Wd, hWd⟩ : ∃ q, q = W16.drew := ⟨_, rfl⟩
    rw [← hWd] at hHeld ⊢
    have HLn : Hid (AB w Wd d f ∧ BX Wd gx x (replyW d.v f.v) ∧ BX Wd gy y (failW d.v n) ∧ BX Wd gz z (noteW kPublish f.v)) := Lib.hid (by rw [hWd]; have hb := (Below.refl W16.heap.size W16).drew; exact ⟨HL.out.1.ext hb, HL.out.2.1.ext hb, HL.out.2.2.1.ext hb, HL.out.2.2.2.ext hb⟩)
    clear HL hWd
    have HL := HLn
    clear HLn
    refine wpAnyH_take (i := 0) (oi := ⟨some 40, _, _, _, _, _⟩) (v := ?_) rfl (by kernel_rfl) (by kernel_rfl) (by kernel_rfl) (fun _ _ _ h => h) (Or.inl ⟨by rfl, ?_⟩) (by assumption) ?_; rotate_left; focus (intro w hSw; (try dsimp only at hSw); obtain ⟨h1, h2, h3⟩ := hSw; obtain ⟨a0, a1, a2, a3, a4, a5⟩ := h3.sixT; first | (go_simp; done) | (go_simp; with_reducible rfl))
    try simp only [Act.put]
    try simp only [List.setIfInBounds_toArray]
    try simp only [List.set_cons_succ, List.set_cons_zero]
    refine wpAnyH_take (i := 2) (oi := ⟨some 42, _, _, _, _, _⟩) (v := ?_) rfl (by kernel_rfl) (by kernel_rfl) (by kernel_rfl) (fun _ _ _ h => h) (Or.inl ⟨by rfl, ?_⟩) (by assumption) ?_; rotate_left; focus (intro w hSw; (try dsimp only at hSw); obtain ⟨h1, h2, h3⟩ := hSw; obtain ⟨a0, a1, a2, a3, a4, a5⟩ := h1.sixT; first | (go_simp; done) | (go_simp; with_reducible rfl))
    try simp only [Act.put]
    try simp only [List.setIfInBounds_toArray]
    try simp only [List.set_cons_succ, List.set_cons_zero]
    refine wpAnyH_take (i := 3) (oi := ⟨some 43, _, _, _, _, _⟩) (v := ?_) rfl (by kernel_rfl) (by kernel_rfl) (by kernel_rfl) (fun _ _ _ h => h) (Or.inl ⟨by rfl, ?_⟩) (by assumption) ?_; rotate_left; focus (intro w hSw; (try dsimp only at hSw); obtain ⟨h1, h2, h3⟩ := hSw; obtain ⟨a0, a1, a2, a3, a4, a5⟩ := h2.sixT; first | (go_simp; done) | (go_simp; with_reducible rfl))
    try simp only [Act.put]
    try simp only [List.setIfInBounds_toArray]
    try simp only [List.set_cons_succ, List.set_cons_zero]
    refine wpAnyH_ready (rs := [1]) (by kernel_rfl) (by simp) ?_
    refine AllReadyH.cons (i := 1) (o := ⟨some 41, _, _, _, _, _⟩) rfl (fun K hK => ?_) ?_
    · go_simp
      refine (toA_any HL.out.2.1.val HX.out).mono ?_
      rintro e W17 ⟨q1, rfl, hv1, ha1, hb⟩
      have HLn : Hid (AB w W17 d f ∧ BX W17 gx x (replyW d.v f.v) ∧ BX W17 gy y (failW d.v n) ∧ BX W17 gz z (noteW kPublish f.v)) := Lib.hid ⟨HL.out.1.ext hb, HL.out.2.1.ext hb, HL.out.2.2.1.ext hb, HL.out.2.2.2.ext hb⟩
      clear HL hb
      have HL := HLn
      clear HLn
      have HA1 := Lib.hid ha1
      have HV1 := Lib.hid hv1
      clear ha1 hv1
      refine hK.out _ _ ?_ (fun hHeld => ?_)
      · exact ⟨HL.out.1.one, HL.out.1.two, HL.out.2.1.blk⟩
      try simp only [Act.put]
      try simp only [List.setIfInBounds_toArray]
      try simp only [List.set_cons_succ, List.set_cons_zero]
      refine wpAnyH_ready (rs := [4]) (by kernel_rfl) (by simp) ?_
      refine AllReadyH.cons (i := 4) (o := ⟨some 44, _, _, _, _, _⟩) rfl (fun K hK => ?_) ?_
      · go_simp
        have h2 := replyR_any d f W17 (HL.out.1.va.mono fun _ _ _ => trivial) (HL.out.1.vb.mono fun _ _ _ => trivial)
        rw [VD.val6, VD.val6] at h2
        refine h2.mono ?_
        clear h2
        rintro e W18 ⟨q2, rfl, hv2, ha2, hb⟩
        have HLn : Hid (AB w W18 d f ∧ BX W18 gx x (replyW d.v f.v) ∧ BX W18 gy y (failW d.v n) ∧ BX W18 gz z (noteW kPublish f.v)) := Lib.hid ⟨HL.out.1.ext hb, HL.out.2.1.ext hb, HL.out.2.2.1.ext hb, HL.out.2.2.2.ext hb⟩
        have HA1n := Lib.hid (HA1.out.ext hb)
        clear HL hb HA1
        have HL := HLn
        have HA1 := HA1n
        clear HLn HA1n
        have HA2 := Lib.hid ha2
        have HV2 := Lib.hid hv2
        clear ha2 hv2
        refine hK.out _ _ ?_ (fun hHeld => ?_)
        · exact ⟨HL.out.1.one, HL.out.1.two, HL.out.2.1.blk⟩
        try simp only [Act.put]
        try simp only [List.setIfInBounds_toArray]
        try simp only [List.set_cons_succ, List.set_cons_zero]
        refine wpAnyH_ready (rs := [5]) (by kernel_rfl) (by simp) ?_
        refine AllReadyH.cons (i := 5) (o := ⟨some 45, _, _, _, _, _⟩) rfl (fun K hK => ?_) ?_
        · go_simp
          refine (same_ok HA1.out HA2.out (by rw [HV1.out]; exact HX.out) (by rw [HV1.out, HL.out.2.1.v]; exact HV2.out.symm)).mono ?_
          rintro e W19 ⟨rfl, hb⟩
          have HLn : Hid (AB w W19 d f ∧ BX W19 gx x (replyW d.v f.v) ∧ BX W19 gy y (failW d.v n) ∧ BX W19 gz z (noteW kPublish f.v)) := Lib.hid ⟨HL.out.1.ext hb, HL.out.2.1.ext hb, HL.out.2.2.1.ext hb, HL.out.2.2.2.ext hb⟩
          clear HL hb HA1 HA2 HV1 HV2 HX
          have HL := HLn
          clear HLn
          refine hK.out _ _ ?_ (fun hHeld => ?_)
          · exact ⟨HL.out.1.one, HL.out.1.two, HL.out.2.1.blk⟩
          try simp only [Act.put]
          try simp only [List.setIfInBounds_toArray]
          try simp only [List.set_cons_succ, List.set_cons_zero]
          refine wpAnyH_take (i := 6) (oi := ⟨some 10, _, _, _, _, _⟩) (v := ?_) rfl (by kernel_rfl) (by kernel_rfl) (by kernel_rfl) (fun _ _ _ h => h) (Or.inl ⟨by rfl, ?_⟩) (by assumption) ?_; rotate_left; focus (intro w hSw; (try dsimp only at hSw); first | (go_simp; done) | (go_simp; with_reducible rfl))
          try simp only [Act.put]
          try simp only [List.setIfInBounds_toArray]
          try simp only [List.set_cons_succ, List.set_cons_zero]
          refine wpAnyH_done (by kernel_rfl) ?_ _
          clear hHeld
          go_upto_region 7 with (fail)
          have HX : Hid (sizeV y.v ≤ 1048576) := Lib.hid (by rw [HL.out.2.2.1.v]; exact Nat.le_trans (size_fail _ _) (by have := HZ0.out; omega))
          refine wp_region_held_drew (S := (fun w' => Blk w' w.heap.size #[.int .i64 d.sort, .bool d.on, .int .i64 d.n, .string ⟨d.text.toArray⟩, .slice d.a d.list.length d.c, .slice d.ka d.keys.length d.kc] 26 ∧ Blk w' (w.heap.size + 1) #[.int .i64 f.sort, .bool f.on, .int .i64 f.n, .string ⟨f.text.toArray⟩, .slice f.a f.list.length f.c, .slice f.ka f.keys.length f.kc] 26 ∧ Blk w' gy #[.int .i64 y.sort, .bool y.on, .int .i64 y.n, .string ⟨y.text.toArray⟩, .slice y.a y.list.length y.c, .slice y.ka y.keys.length y.kc] 36)) (by kernel_rfl) ?_ (fun hHeld => ?_)
          · exact ⟨HL.out.1.one, HL.out.1.two, HL.out.2.2.1.blk⟩
          obtain ⟨Wd, hWd⟩ : ∃ q, q = W19.drew := ⟨_, rfl⟩
          rw [← hWd] at hHeld ⊢
          have HLn : Hid (AB w Wd d f ∧ BX Wd gx x (replyW d.v f.v) ∧ BX Wd gy y (failW d.v n) ∧ BX Wd gz z (noteW kPublish f.v)) := Lib.hid (by rw [hWd]; have hb := (Below.refl W19.heap.size W19).drew; exact ⟨HL.out.1.ext hb, HL.out.2.1.ext hb, HL.out.2.2.1.ext hb, HL.out.2.2.2.ext hb⟩)
          clear HL hWd
          have HL := HLn
          clear HLn
          refine wpAnyH_take (i := 0) (oi := ⟨some 46, _, _, _, _, _⟩) (v := ?_) rfl (by kernel_rfl) (by kernel_rfl) (by kernel_rfl) (fun _ _ _ h => h) (Or.inl ⟨by rfl, ?_⟩) (by assumption) ?_; rotate_left; focus (intro w hSw; (try dsimp only at hSw); obtain ⟨h1, h2, h3⟩ := hSw; obtain ⟨a0, a1, a2, a3, a4, a5⟩ := h3.sixT; first | (go_simp; done) | (go_simp; with_reducible rfl))
          try simp only [Act.put]
          try simp only [List.setIfInBounds_toArray]
          try simp only [List.set_cons_succ, List.set_cons_zero]
          refine wpAnyH_take (i := 2) (oi := ⟨some 48, _, _, _, _, _⟩) (v := ?_) rfl (by kernel_rfl) (by kernel_rfl) (by kernel_rfl) (fun _ _ _ h => h) (Or.inl ⟨by rfl, ?_⟩) (by assumption) ?_; rotate_left; focus (intro w hSw; (try dsimp only at hSw); obtain ⟨h1, h2, h3⟩ := hSw; obtain ⟨a0, a1, a2, a3, a4, a5⟩ := h1.sixT; first | (go_simp; done) | (go_simp; with_reducible rfl))
          try simp only [Act.put]
          try simp only [List.setIfInBounds_toArray]
          try simp only [List.set_cons_succ, List.set_cons_zero]
          refine wpAnyH_take (i := 3) (oi := ⟨some 49, _, _, _, _, _⟩) (v := ?_) rfl (by kernel_rfl) (by kernel_rfl) (by kernel_rfl) (fun _ _ _ h => h) (Or.inl ⟨by rfl, ?_⟩) (by assumption) ?_; rotate_left; focus (intro w hSw; (try dsimp only at hSw); first | (go_simp; done) | (go_simp; with_reducible rfl))
          try simp only [Act.put]
          try simp only [List.setIfInBounds_toArray]
          try simp only [List.set_cons_succ, List.set_cons_zero]
          refine wpAnyH_ready (rs := [1]) (by kernel_rfl) (by simp) ?_
          refine AllReadyH.cons (i := 1) (o := ⟨some 47, _, _, _, _, _⟩) rfl (fun K hK => ?_) ?_
          · go_simp
            refine (toA_any HL.out.2.2.1.val HX.out).mono ?_
            rintro e W20 ⟨q1, rfl, hv1, ha1, hb⟩
            have HLn : Hid (AB w W20 d f ∧ BX W20 gx x (replyW d.v f.v) ∧ BX W20 gy y (failW d.v n) ∧ BX W20 gz z (noteW kPublish f.v)) := Lib.hid ⟨HL.out.1.ext hb, HL.out.2.1.ext hb, HL.out.2.2.1.ext hb, HL.out.2.2.2.ext hb⟩
            clear HL hb
            have HL := HLn
            clear HLn
            have HA1 := Lib.hid ha1
            have HV1 := Lib.hid hv1
            clear ha1 hv1
            refine hK.out _ _ ?_ (fun hHeld => ?_)
            · exact ⟨HL.out.1.one, HL.out.1.two, HL.out.2.2.1.blk⟩
            try simp only [Act.put]
            try simp only [List.setIfInBounds_toArray]
            try simp only [List.set_cons_succ, List.set_cons_zero]
            refine wpAnyH_ready (rs := [4]) (by kernel_rfl) (by simp) ?_
            refine AllReadyH.cons (i := 4) (o := ⟨some 50, _, _, _, _, _⟩) rfl (fun K hK => ?_) ?_
            · go_simp
              have h2 := failR_any d n W20 (HL.out.1.va.mono fun _ _ _ => trivial)
              rw [VD.val6] at h2
              refine h2.mono ?_
              clear h2
              rintro e W21 ⟨q2, rfl, hv2, ha2, hb⟩
              have HLn : Hid (AB w W21 d f ∧ BX W21 gx x (replyW d.v f.v) ∧ BX W21 gy y (failW d.v n) ∧ BX W21 gz z (noteW kPublish f.v)) := Lib.hid ⟨HL.out.1.ext hb, HL.out.2.1.ext hb, HL.out.2.2.1.ext hb, HL.out.2.2.2.ext hb⟩
              have HA1n := Lib.hid (HA1.out.ext hb)
              clear HL hb HA1
              have HL := HLn
              have HA1 := HA1n
              clear HLn HA1n
              have HA2 := Lib.hid ha2
              have HV2 := Lib.hid hv2
              clear ha2 hv2
              refine hK.out _ _ ?_ (fun hHeld => ?_)
              · exact ⟨HL.out.1.one, HL.out.1.two, HL.out.2.2.1.blk⟩
              try simp only [Act.put]
              try simp only [List.setIfInBounds_toArray]
              try simp only [List.set_cons_succ, List.set_cons_zero]
              refine wpAnyH_ready (rs := [5]) (by kernel_rfl) (by simp) ?_
              refine AllReadyH.cons (i := 5) (o := ⟨some 51, _, _, _, _, _⟩) rfl (fun K hK => ?_) ?_
              · go_simp
                refine (same_ok HA1.out HA2.out (by rw [HV1.out]; exact HX.out) (by rw [HV1.out, HL.out.2.2.1.v]; exact HV2.out.symm)).mono ?_
                rintro e W22 ⟨rfl, hb⟩
                have HLn : Hid (AB w W22 d f ∧ BX W22 gx x (replyW d.v f.v) ∧ BX W22 gy y (failW d.v n) ∧ BX W22 gz z (noteW kPublish f.v)) := Lib.hid ⟨HL.out.1.ext hb, HL.out.2.1.ext hb, HL.out.2.2.1.ext hb, HL.out.2.2.2.ext hb⟩
                clear HL hb HA1 HA2 HV1 HV2 HX
                have HL := HLn
                clear HLn
                refine hK.out _ _ ?_ (fun hHeld => ?_)
                · exact ⟨HL.out.1.one, HL.out.1.two, HL.out.2.2.1.blk⟩
                try simp only [Act.put]
                try simp only [List.setIfInBounds_toArray]
                try simp only [List.set_cons_succ, List.set_cons_zero]
                refine wpAnyH_take (i := 6) (oi := ⟨some 11, _, _, _, _, _⟩) (v := ?_) rfl (by kernel_rfl) (by kernel_rfl) (by kernel_rfl) (fun _ _ _ h => h) (Or.inl ⟨by rfl, ?_⟩) (by assumption) ?_; rotate_left; focus (intro w hSw; (try dsimp only at hSw); first | (go_simp; done) | (go_simp; with_reducible rfl))
                try simp only [Act.put]
                try simp only [List.setIfInBounds_toArray]
                try simp only [List.set_cons_succ, List.set_cons_zero]
                refine wpAnyH_done (by kernel_rfl) ?_ _
                clear hHeld
                go_upto_region 8 with (fail)
                have HX : Hid (sizeV z.v ≤ 1048576) := Lib.hid (by rw [HL.out.2.2.2.v]; exact Nat.le_trans (size_note _) (by have := HZ1.out; omega))
                refine wp_region_held_drew (S := (fun w' => Blk w' w.heap.size #[.int .i64 d.sort, .bool d.on, .int .i64 d.n, .string ⟨d.text.toArray⟩, .slice d.a d.list.length d.c, .slice d.ka d.keys.length d.kc] 26 ∧ Blk w' (w.heap.size + 1) #[.int .i64 f.sort, .bool f.on, .int .i64 f.n, .string ⟨f.text.toArray⟩, .slice f.a f.list.length f.c, .slice f.ka f.keys.length f.kc] 26 ∧ Blk w' gz #[.int .i64 z.sort, .bool z.on, .int .i64 z.n, .string ⟨z.text.toArray⟩, .slice z.a z.list.length z.c, .slice z.ka z.keys.length z.kc] 36)) (by kernel_rfl) ?_ (fun hHeld => ?_)
                · exact ⟨HL.out.1.one, HL.out.1.two, HL.out.2.2.2.blk⟩
                obtain ⟨Wd, hWd⟩ : ∃ q, q = W22.drew := ⟨_, rfl⟩
                rw [← hWd] at hHeld ⊢
                have HLn : Hid (AB w Wd d f ∧ BX Wd gx x (replyW d.v f.v) ∧ BX Wd gy y (failW d.v n) ∧ BX Wd gz z (noteW kPublish f.v)) := Lib.hid (by rw [hWd]; have hb := (Below.refl W22.heap.size W22).drew; exact ⟨HL.out.1.ext hb, HL.out.2.1.ext hb, HL.out.2.2.1.ext hb, HL.out.2.2.2.ext hb⟩)
                clear HL hWd
                have HL := HLn
                clear HLn
                refine wpAnyH_take (i := 0) (oi := ⟨some 52, _, _, _, _, _⟩) (v := ?_) rfl (by kernel_rfl) (by kernel_rfl) (by kernel_rfl) (fun _ _ _ h => h) (Or.inl ⟨by rfl, ?_⟩) (by assumption) ?_; rotate_left; focus (intro w hSw; (try dsimp only at hSw); obtain ⟨h1, h2, h3⟩ := hSw; obtain ⟨a0, a1, a2, a3, a4, a5⟩ := h3.sixT; first | (go_simp; done) | (go_simp; with_reducible rfl))
                try simp only [Act.put]
                try simp only [List.setIfInBounds_toArray]
                try simp only [List.set_cons_succ, List.set_cons_zero]
                refine wpAnyH_take (i := 2) (oi := ⟨some 54, _, _, _, _, _⟩) (v := ?_) rfl (by kernel_rfl) (by kernel_rfl) (by kernel_rfl) (fun _ _ _ h => h) (Or.inl ⟨by rfl, ?_⟩) (by assumption) ?_; rotate_left; focus (intro w hSw; (try dsimp only at hSw); obtain ⟨h1, h2, h3⟩ := hSw; obtain ⟨a0, a1, a2, a3, a4, a5⟩ := h2.sixT; first | (go_simp; done) | (go_simp; with_reducible rfl))
                try simp only [Act.put]
                try simp only [List.setIfInBounds_toArray]
                try simp only [List.set_cons_succ, List.set_cons_zero]
                refine wpAnyH_ready (rs := [1]) (by kernel_rfl) (by simp) ?_
                refine AllReadyH.cons (i := 1) (o := ⟨some 53, _, _, _, _, _⟩) rfl (fun K hK => ?_) ?_
                · go_simp
                  refine (toA_any HL.out.2.2.2.val HX.out).mono ?_
                  rintro e W23 ⟨q1, rfl, hv1, ha1, hb⟩
                  have HLn : Hid (AB w W23 d f ∧ BX W23 gx x (replyW d.v f.v) ∧ BX W23 gy y (failW d.v n) ∧ BX W23 gz z (noteW kPublish f.v)) := Lib.hid ⟨HL.out.1.ext hb, HL.out.2.1.ext hb, HL.out.2.2.1.ext hb, HL.out.2.2.2.ext hb⟩
                  clear HL hb
                  have HL := HLn
                  clear HLn
                  have HA1 := Lib.hid ha1
                  have HV1 := Lib.hid hv1
                  clear ha1 hv1
                  refine hK.out _ _ ?_ (fun hHeld => ?_)
                  · exact ⟨HL.out.1.one, HL.out.1.two, HL.out.2.2.2.blk⟩
                  try simp only [Act.put]
                  try simp only [List.setIfInBounds_toArray]
                  try simp only [List.set_cons_succ, List.set_cons_zero]
                  refine wpAnyH_ready (rs := [3]) (by kernel_rfl) (by simp) ?_
                  refine AllReadyH.cons (i := 3) (o := ⟨some 55, _, _, _, _, _⟩) rfl (fun K hK => ?_) ?_
                  · go_simp
                    have h2 := notepR_any f W23 (HL.out.1.vb.mono fun _ _ _ => trivial)
                    rw [show f.v = f.v from rfl] at h2
                    refine h2.mono ?_
                    clear h2
                    rintro e W24 ⟨q2, rfl, hv2, ha2, hb⟩
                    have HLn : Hid (AB w W24 d f ∧ BX W24 gx x (replyW d.v f.v) ∧ BX W24 gy y (failW d.v n) ∧ BX W24 gz z (noteW kPublish f.v)) := Lib.hid ⟨HL.out.1.ext hb, HL.out.2.1.ext hb, HL.out.2.2.1.ext hb, HL.out.2.2.2.ext hb⟩
                    have HA1n := Lib.hid (HA1.out.ext hb)
                    clear HL hb HA1
                    have HL := HLn
                    have HA1 := HA1n
                    clear HLn HA1n
                    have HA2 := Lib.hid ha2
                    have HV2 := Lib.hid hv2
                    clear ha2 hv2
                    refine hK.out _ _ ?_ (fun hHeld => ?_)
                    · exact ⟨HL.out.1.one, HL.out.1.two, HL.out.2.2.2.blk⟩
                    try simp only [Act.put]
                    try simp only [List.setIfInBounds_toArray]
                    try simp only [List.set_cons_succ, List.set_cons_zero]
                    refine wpAnyH_ready (rs := [4]) (by kernel_rfl) (by simp) ?_
                    refine AllReadyH.cons (i := 4) (o := ⟨some 56, _, _, _, _, _⟩) rfl (fun K hK => ?_) ?_
                    · go_simp
                      refine (same_ok HA1.out HA2.out (by rw [HV1.out]; exact HX.out) (by rw [HV1.out, HL.out.2.2.2.v]; exact HV2.out.symm)).mono ?_
                      rintro e W25 ⟨rfl, hb⟩
                      have HLn : Hid (AB w W25 d f ∧ BX W25 gx x (replyW d.v f.v) ∧ BX W25 gy y (failW d.v n) ∧ BX W25 gz z (noteW kPublish f.v)) := Lib.hid ⟨HL.out.1.ext hb, HL.out.2.1.ext hb, HL.out.2.2.1.ext hb, HL.out.2.2.2.ext hb⟩
                      clear HL hb HA1 HA2 HV1 HV2 HX
                      have HL := HLn
                      clear HLn
                      refine hK.out _ _ ?_ (fun hHeld => ?_)
                      · exact ⟨HL.out.1.one, HL.out.1.two, HL.out.2.2.2.blk⟩
                      try simp only [Act.put]
                      try simp only [List.setIfInBounds_toArray]
                      try simp only [List.set_cons_succ, List.set_cons_zero]
                      refine wpAnyH_take (i := 5) (oi := ⟨some 12, _, _, _, _, _⟩) (v := ?_) rfl (by kernel_rfl) (by kernel_rfl) (by kernel_rfl) (fun _ _ _ h => h) (Or.inl ⟨by rfl, ?_⟩) (by assumption) ?_; rotate_left; focus (intro w hSw; (try dsimp only at hSw); first | (go_simp; done) | (go_simp; with_reducible rfl))
                      try simp only [Act.put]
                      try simp only [List.setIfInBounds_toArray]
                      try simp only [List.set_cons_succ, List.set_cons_zero]
                      refine wpAnyH_done (by kernel_rfl) ?_ _
                      clear hHeld
                      have HX : Hid (sizeV x.v ≤ 1048576) := Lib.hid (by rw [HL.out.2.1.v]; exact Nat.le_trans (size_reply _ _) (by have := HZ0.out; have := HZ1.out; omega))
                      obtain ⟨c0, c1, c2, c3, c4, c5⟩ := HL.out.2.1.blk.sixT
                      go_wp2_with fail
                      have hm := msg_any x W25 HL.out.2.1.val HX.out
                      rw [VD.val6, HL.out.2.1.v] at hm
                      unfold MsgE at hm
                      rw [reply_read] at hm
                      refine hm.mono ?_
                      clear hm c0 c1 c2 c3 c4 c5 HX
                      rintro e W26 ⟨r9, rfl, -, -, -, hb⟩
                      have HLn : Hid (AB w W26 d f ∧ BX W26 gx x (replyW d.v f.v) ∧ BX W26 gy y (failW d.v n) ∧ BX W26 gz z (noteW kPublish f.v)) := Lib.hid ⟨HL.out.1.ext hb, HL.out.2.1.ext hb, HL.out.2.2.1.ext hb, HL.out.2.2.2.ext hb⟩
                      clear HL hb
                      have HL := HLn
                      clear HLn
                      obtain ⟨gr9, hg⟩ : ∃ q, q = W26.heap.size := ⟨_, rfl⟩
                      obtain ⟨W27, hQ⟩ : ∃ q, q = (W26.alloc (.cells #[.int .i64 0, .int .i64 0, .bool false, .int .i64 0, .string { data := #[] }, .slice none 0 0, .slice none 0 0, .string { data := #[] }, .int .i64 0, .string { data := #[] }, .slice none 0 0, .int .i64 0, .int .i64 0, .int .i64 0, .bool false, .int .i64 0, .string { data := #[] }, .slice none 0 0, .slice none 0 0] 43)).setRow W26.heap.size (cdC r9) := ⟨_, rfl⟩
                      have hb : Below W26.heap.size W26 W27 := by rw [hQ]; exact below_row (below_a1 _ _) (Nat.le_refl _) _
                      have HLn : Hid (AB w W27 d f ∧ BX W27 gx x (replyW d.v f.v) ∧ BX W27 gy y (failW d.v n) ∧ BX W27 gz z (noteW kPublish f.v)) := Lib.hid ⟨HL.out.1.ext hb, HL.out.2.1.ext hb, HL.out.2.2.1.ext hb, HL.out.2.2.2.ext hb⟩
                      clear HL hb
                      have HL := HLn
                      clear HLn
                      go_upto_region 10 with ((with_reducible show wpList _ _ _ (⟨none, Op.store 43 (Operand.tmp 13) _, _, _, _, _⟩ :: _) _ _); refine store_call rfl _ _ rfl W26.heap.size r9 zeroCD rfl rfl (Blk.new rfl) ?_; rw [← hQ, ← hg]; clear hQ hg)
                      have HX : Hid (sizeV y.v ≤ 1048576) := Lib.hid (by rw [HL.out.2.2.1.v]; exact Nat.le_trans (size_fail _ _) (by have := HZ0.out; omega))
                      obtain ⟨c0, c1, c2, c3, c4, c5⟩ := HL.out.2.2.1.blk.sixT
                      go_wp2_with fail
                      have hm := msg_any y W27 HL.out.2.2.1.val HX.out
                      rw [VD.val6, HL.out.2.2.1.v] at hm
                      unfold MsgE at hm
                      rw [fail_read] at hm
                      refine hm.mono ?_
                      clear hm c0 c1 c2 c3 c4 c5 HX
                      rintro e W28 ⟨r10, rfl, -, -, -, hb⟩
                      have HLn : Hid (AB w W28 d f ∧ BX W28 gx x (replyW d.v f.v) ∧ BX W28 gy y (failW d.v n) ∧ BX W28 gz z (noteW kPublish f.v)) := Lib.hid ⟨HL.out.1.ext hb, HL.out.2.1.ext hb, HL.out.2.2.1.ext hb, HL.out.2.2.2.ext hb⟩
                      clear HL hb
                      have HL := HLn
                      clear HLn
                      obtain ⟨gr10, hg⟩ : ∃ q, q = W28.heap.size := ⟨_, rfl⟩
                      obtain ⟨W29, hQ⟩ : ∃ q, q = (W28.alloc (.cells #[.int .i64 0, .int .i64 0, .bool false, .int .i64 0, .string { data := #[] }, .slice none 0 0, .slice none 0 0, .string { data := #[] }, .int .i64 0, .string { data := #[] }, .slice none 0 0, .int .i64 0, .int .i64 0, .int .i64 0, .bool false, .int .i64 0, .string { data := #[] }, .slice none 0 0, .slice none 0 0] 43)).setRow W28.heap.size (cdC r10) := ⟨_, rfl⟩
                      have hb : Below W28.heap.size W28 W29 := by rw [hQ]; exact below_row (below_a1 _ _) (Nat.le_refl _) _
                      have HLn : Hid (AB w W29 d f ∧ BX W29 gx x (replyW d.v f.v) ∧ BX W29 gy y (failW d.v n) ∧ BX W29 gz z (noteW kPublish f.v)) := Lib.hid ⟨HL.out.1.ext hb, HL.out.2.1.ext hb, HL.out.2.2.1.ext hb, HL.out.2.2.2.ext hb⟩
                      clear HL hb
                      have HL := HLn
                      clear HLn
                      go_upto_region 11 with ((with_reducible show wpList _ _ _ (⟨none, Op.store 43 (Operand.tmp 15) _, _, _, _, _⟩ :: _) _ _); refine store_call rfl _ _ rfl W28.heap.size r10 zeroCD rfl rfl (Blk.new rfl) ?_; rw [← hQ, ← hg]; clear hQ hg)
                      have HX : Hid (sizeV z.v ≤ 1048576) := Lib.hid (by rw [HL.out.2.2.2.v]; exact Nat.le_trans (size_note _) (by have := HZ1.out; omega))
                      obtain ⟨c0, c1, c2, c3, c4, c5⟩ := HL.out.2.2.2.blk.sixT
                      go_wp2_with fail
                      have hm := msg_any z W29 HL.out.2.2.2.val HX.out
                      rw [VD.val6, HL.out.2.2.2.v] at hm
                      unfold MsgE at hm
                      obtain ⟨k, hk⟩ : ∃ k, k = (readC (noteW kPublish f.v)).1 := ⟨_, rfl⟩
                      have hk42 : k = 42 ∨ k = 43 := by rw [hk]; exact note_read f.v
                      rw [← hk] at hm
                      clear hk
                      refine hm.mono ?_
                      clear hm c0 c1 c2 c3 c4 c5 HX
                      rintro e W30 ⟨r11, rfl, -, -, -, hb⟩
                      have HLn : Hid (AB w W30 d f ∧ BX W30 gx x (replyW d.v f.v) ∧ BX W30 gy y (failW d.v n) ∧ BX W30 gz z (noteW kPublish f.v)) := Lib.hid ⟨HL.out.1.ext hb, HL.out.2.1.ext hb, HL.out.2.2.1.ext hb, HL.out.2.2.2.ext hb⟩
                      clear HL hb
                      have HL := HLn
                      clear HLn
                      obtain ⟨gr11, hg⟩ : ∃ q, q = W30.heap.size := ⟨_, rfl⟩
                      obtain ⟨W31, hQ⟩ : ∃ q, q = (W30.alloc (.cells #[.int .i64 0, .int .i64 0, .bool false, .int .i64 0, .string { data := #[] }, .slice none 0 0, .slice none 0 0, .string { data := #[] }, .int .i64 0, .string { data := #[] }, .slice none 0 0, .int .i64 0, .int .i64 0, .int .i64 0, .bool false, .int .i64 0, .string { data := #[] }, .slice none 0 0, .slice none 0 0] 43)).setRow W30.heap.size (cdC r11) := ⟨_, rfl⟩
                      have hb : Below W30.heap.size W30 W31 := by rw [hQ]; exact below_row (below_a1 _ _) (Nat.le_refl _) _
                      have HLn : Hid (AB w W31 d f ∧ BX W31 gx x (replyW d.v f.v) ∧ BX W31 gy y (failW d.v n) ∧ BX W31 gz z (noteW kPublish f.v)) := Lib.hid ⟨HL.out.1.ext hb, HL.out.2.1.ext hb, HL.out.2.2.1.ext hb, HL.out.2.2.2.ext hb⟩
                      clear HL hb
                      have HL := HLn
                      clear HLn
                      go_upto_region 12 with ((with_reducible show wpList _ _ _ (⟨none, Op.store 43 (Operand.tmp 17) _, _, _, _, _⟩ :: _) _ _); refine store_call rfl _ _ rfl W30.heap.size r11 zeroCD rfl rfl (Blk.new rfl) ?_; rw [← hQ, ← hg]; clear hQ hg)
                      have HAL := Lib.hid (live_any W31 HL.out.1.glob)
                      have HB := Lib.hid HL.out.1.below
                      clear HL
                      rcases hk42 with rfl | rfl
                      · go_wp2_with fail
                        refine HAL.out.mono ?_
                        clear HAL
                        rintro e W32 ⟨rfl, hb⟩
                        have HB1 := Lib.hid (HB.out.trans (hb.mono HB.out.size))
                        clear HB hb
                        go_wp2_with fail
                        refine (code_any n W32).mono ?_
                        rintro e W33 ⟨rfl, hb⟩
                        have HB := Lib.hid (HB1.out.trans (hb.mono HB1.out.size))
                        clear HB1 hb
                        go_wp2_with fail
                        refine (codeR_any n W33).mono ?_
                        rintro e W34 ⟨rfl, hb⟩
                        have HB1 := Lib.hid (HB.out.trans (hb.mono HB.out.size))
                        clear HB hb
                        go_wp2
                        go_ret
                        exact ⟨rfl, HB1.out⟩
                      · go_wp2_with fail
                        refine HAL.out.mono ?_
                        clear HAL
                        rintro e W32 ⟨rfl, hb⟩
                        have HB1 := Lib.hid (HB.out.trans (hb.mono HB.out.size))
                        clear HB hb
                        go_wp2_with fail
                        refine (code_any n W32).mono ?_
                        rintro e W33 ⟨rfl, hb⟩
                        have HB := Lib.hid (HB1.out.trans (hb.mono HB1.out.size))
                        clear HB1 hb
                        go_wp2_with fail
                        refine (codeR_any n W33).mono ?_
                        rintro e W34 ⟨rfl, hb⟩
                        have HB1 := Lib.hid (HB.out.trans (hb.mono HB.out.size))
                        clear HB hb
                        go_wp2
                        go_ret
                        exact ⟨rfl, HB1.out⟩
                    exact AllReadyH.nil
                  exact AllReadyH.nil
                exact AllReadyH.nil
              exact AllReadyH.nil
            exact AllReadyH.nil
          exact AllReadyH.nil
        exact AllReadyH.nil
      exact AllReadyH.nil
    exact AllReadyH.nil
end Go.Proofs.YthnbeebilomchaaGreatDoor

namespace Go.Proofs.YthnbeebilomchaaGreatDoor
open Go Go.RowKit Go.ChangeShapes Go.WideShapes Go.ChangeAt

theorem Tryz.ownL : ownKnob Tryz.prog.godebug = none := by kernel_rfl
def laidAll : List (String × DataW Unit) := [("math/bits.deBruijn32tab", Rows.laid_math_bits_deBruijn32tab), ("math/bits.deBruijn64tab", Rows.laid_math_bits_deBruijn64tab), ("internal/strconv.uint64pow10", Rows.laid_internal_strconv_uint64pow10), ("unicode/utf8.acceptRanges", Rows.laid_unicode_utf8_acceptRanges), ("strconv.ErrRange", Rows.laid_strconv_ErrRange), ("strconv.ErrSyntax", Rows.laid_strconv_ErrSyntax), ("unicode/utf8.first", Rows.laid_unicode_utf8_first)]

theorem Tryz.star : "*" ++ "errors.errorString" = "*errors.errorString" := by decide
theorem Tryz.errRow (u : TypeId) (h : Tryz.prog.typeName? 3 u = some "*errors.errorString") : u = 225 :=
  typeName_ptr_named (nm := "errors.errorString") (by rw [Tryz.star]; kernel_rfl) (by kernel_rfl) (by decide) u (by rw [Tryz.star]; exact h)

theorem glob_of {W : World} (h : laidMetH Tryz.prog laidAll W) : Glob W := by
  rw [MakeChecks.laidMetH_plain _ _ _ (by kernel_rfl)] at h
  have h2 := h.tail.tail
  have h4 := h2.tail.tail
  have h5 := h4.tail
  have htab : Lib.TabIs Tryz.prog W "internal/strconv.uint64pow10" .u64 Lib.pow10Tab :=
    Lib.tabIs_of_head Tryz.gTab (by kernel_rfl) Tryz.underlying202 Tryz.underlying175 (by kernel_rfl) (by kernel_rfl) h2
  obtain ⟨a1, s1, hv1, -⟩ := laid_sentinel h4 Tryz.gRng (by kernel_rfl) Tryz.underlying148 Tryz.errRow Tryz.underlying225 Tryz.underlying227 rfl rfl Tryz.underlying9 (by kernel_rfl) (by kernel_rfl)
  obtain ⟨a2, s2, hv2, -⟩ := laid_sentinel h5 Tryz.gSyn (by kernel_rfl) Tryz.underlying148 Tryz.errRow Tryz.underlying225 Tryz.underlying227 rfl rfl Tryz.underlying9 (by kernel_rfl) (by kernel_rfl)
  have r1 : Lib.VarReads Tryz.prog W "unicode/utf8.first" Lib.firstData := by
    rw [show Lib.firstData = Rows.laid_unicode_utf8_first by kernel_rfl]
    exact Lib.laidMet.reads h (.tail _ (.tail _ (.tail _ (.tail _ (.tail _ (.tail _ (.head _)))))))
  have r2 : Lib.VarReads Tryz.prog W "unicode/utf8.acceptRanges" Lib.acceptData := by
    rw [show Lib.acceptData = Rows.laid_unicode_utf8_acceptRanges by kernel_rfl]
    exact Lib.laidMet.reads h (.tail _ (.tail _ (.tail _ (.head _))))
  have hutf : Lib.Utf8Tabs (Tryz.laysValid_ren.g 3) (Tryz.laysValid_ren.g 4) W :=
    utf8Tabs_of_readsT (U8Types.of196 Tryz.laysValid) ⟨by kernel_rfl, by kernel_rfl, by kernel_rfl, by kernel_rfl, by kernel_rfl, by kernel_rfl, by kernel_rfl⟩ r1 r2
  refine ⟨⟨_, _, hv2⟩, ⟨_, _, hv1⟩, htab, hutf, ?_⟩
  obtain ⟨g, t, cs, fuel, p, -, -, hv, -⟩ := Lib.laidMet.reads h (n := "math/bits.deBruijn64tab") (d := Rows.laid_math_bits_deBruijn64tab) (.tail _ (.head _))
  unfold World.var? at hv
  rw [show Tryz.prog.globalNamed "math/bits.deBruijn64tab" = some 7 by kernel_rfl, Option.bind_some] at hv
  split at hv
  · rename_i hh
    exact (Array.getElem?_eq_some_iff.1 hh).1
  · cases hv
end Go.Proofs.YthnbeebilomchaaGreatDoor

namespace Go.Proofs.YthnbeebilomchaaGreatDoor
open Go Go.RowKit Go.ChangeAt Go.ChangeShapes Go.WideShapes

theorem Tryz.laidOutV : laidOutB Tryz.prog = true := by kernel_rfl
def zeroDoc : Value := .agg #[.int .i64 0, .bool false, .int .i64 0, .string ⟨#[]⟩, .slice none 0 0, .slice none 0 0]
def zeroRead {H : Type} : DataW H := .agg [.lit (.int .i64 0), .lit (.bool false), .lit (.int .i64 0), .lit (.string []), .nil, .nil]
theorem answers_row {H : Type} (os : Os) (enc : TypeId × Value → H) : (Rows.OpenSpec.upto Rows.rpcAnswersSpec).preRow enc Tryz.prog Tryz.f4 Rows.rpcAnswersUptoRow.domain false laidAll ((World.laidAll Tryz.prog os laidAll).forCall (fun _ _ => 0) ⟨#[], #[zeroDoc, zeroDoc, .int .i64 0], []⟩).memory #[zeroDoc, zeroDoc, .int .i64 0] := by
  have hx : DataW.whole enc Tryz.prog ((World.laidAll Tryz.prog os laidAll).forCall (fun _ _ => 0) ⟨#[], #[zeroDoc, zeroDoc, .int .i64 0], []⟩).memory Tryz.f4.params.toList (Rows.OpenSpec.upto Rows.rpcAnswersSpec).vars false #[zeroDoc, zeroDoc, .int .i64 0].toList 8 = some ([zeroRead, zeroRead, .lit (.int .i64 0)], [], []) := by kernel_rfl
  exact OpenSpec.preRow_of_cond 8 hx (by kernel_rfl) (fun k hk => by cases hk; rfl) (by kernel_rfl) (by rw [MakeChecks.laidMetH_plain _ _ _ (by kernel_rfl)]; exact laidMet_laidAll _ (by kernel_rfl) (by kernel_rfl))

set_option maxRecDepth 100000 in
set_option maxHeartbeats 2000000 in
theorem answers_lifted (os : Os) (started : os.Started) (H : Type) (enc : TypeId × Value → H) (F : Stop.Interp) :
    ReturnsInHanded {} Tryz.checked os 4 .any ((Rows.OpenSpec.upto Rows.rpcAnswersSpec).preRow enc Tryz.prog Tryz.f4 Rows.rpcAnswersUptoRow.domain false laidAll) (((Rows.OpenSpec.upto Rows.rpcAnswersSpec).at F).post enc Tryz.prog Tryz.f4 false true false false) := by
  refine returnsInHanded_of_row (C := Tryz.checked) (s := Rows.OpenSpec.upto Rows.rpcAnswersSpec) Tryz.ownL started (by kernel_rfl) Tryz.func4
    ⟨World.laidAll Tryz.prog os laidAll, fun _ _ => 0, ⟨#[], #[zeroDoc, zeroDoc, .int .i64 0], []⟩, World.laidAll_os _ _ _, World.shaped_of_ZipB (by kernel_rfl) (by kernel_rfl), rfl, (Input.okWide_of_okWideB (by kernel_rfl)).2, answers_row os enc, by
      simp only [Assume.holds]
      exact ⟨by simp, by simp, fun _ => Modest.zero, by simp, by simp⟩⟩ ?_
  intro W base args ds gs before hval0 hW _ hk _ hL _ _
  have hW' := hW
  obtain ⟨p, q, hA0, hV, rfl, hfz, hnd⟩ := hW
  have hA : DataW.TrodAll enc Tryz.prog W 0 (fun _ => true) true Tryz.f4.params.toList args.toList ds p := hA0
  have hval : ∀ (j : Nat) t v, Tryz.f4.params[j]? = some t → args[j]? = some v → Value.okWide Tryz.prog W .any base t v := hval0
  rw [Tryz.params4] at hA hval
  obtain ⟨v0, v1, v2, d0, d1, d2, p0, p1, p2, rfl, rfl, rfl, h0, h1, h2⟩ := trodAll_three hA
  obtain ⟨rfl, rfl⟩ := trodVars_none hV
  obtain ⟨n2, rfl, rfl, rfl, wn2⟩ := open_int Tryz.underlying3 (hval 2 3 v2 rfl rfl) h2
  have hlt0 : ∀ x ∈ p0, x.block < W.heap.size := fun x hx => hW'.lt x (by simp [hx])
  have hlt1 : ∀ x ∈ p1, x.block < W.heap.size := fun x hx => hW'.lt x (by simp [hx])
  have hk' : Rows.uptoBulkAll [d0, d1, .lit (.int .i64 n2)] ≤ 1048576 := of_decide_eq_true (hk _ rfl)
  rw [bulk_cons, bulk_cons, bulk_cons] at hk'
  obtain ⟨cs0, rfl, -⟩ := okWide_struct Tryz.underlying26 (hval 0 26 v0 rfl rfl)
  obtain ⟨f0, h0'⟩ := h0
  obtain ⟨x, hx0, hp0, hw0⟩ := open_doc f0 cs0.toList _ h0'
  have hb0 : sizeV x.v ≤ 1048576 := by
    have : sizeV x.v ≤ Rows.uptoBulk d0 := hw0
    omega
  have hcs0 : (Value.agg cs0) = x.val := by unfold VD.val; rw [← hx0]
  obtain ⟨cs1, rfl, -⟩ := okWide_struct Tryz.underlying26 (hval 1 26 v1 rfl rfl)
  obtain ⟨f1, h1'⟩ := h1
  obtain ⟨y, hx1, hp1, hw1⟩ := open_doc f1 cs1.toList _ h1'
  have hb1 : sizeV y.v ≤ 1048576 := by
    have : sizeV y.v ≤ Rows.uptoBulk d1 := hw1
    omega
  have hcs1 : (Value.agg cs1) = y.val := by unfold VD.val; rw [← hx1]
  clear hA0 hval0
  rw [hcs0]
  rw [hcs1]
  refine (answers_any x y n2 W (glob_of hL) hp0 hp1 hb0 hb1).mono fun e W' hres => ?_
  obtain ⟨rfl, hb⟩ := hres
  have t0 := Below.trod Tryz.laidOutV (by kernel_rfl) (of_decide_eq_true (by kernel_rfl)) ⟨f0, h0'⟩ hb hlt0
  rw [hcs0] at t0
  have t1 := Below.trod Tryz.laidOutV (by kernel_rfl) (of_decide_eq_true (by kernel_rfl)) ⟨f1, h1'⟩ hb hlt1
  rw [hcs1] at t1
  rw [hcs0, hcs1] at hW'
  refine ⟨_, rfl, _, _, _, [], p0 ++ (p1 ++ []), [], hW', ?_, ?_, ?_, hb.frame _, fun h => by cases h⟩
  · exact trodAll_mk1 (shut_bool Tryz.underlying4 true)
  · exact trodAll_mk3 t0 t1 (shut_int Tryz.underlying3 wn2)
  · rfl

theorem answers_holds : Rows.RpcAnswersUptoSaid :=
  OpenClaim.holds_of_cond 4 Tryz.f4 rfl rfl rfl rfl rfl rfl rfl ⟨rfl, rfl, rfl, rfl, rfl⟩ rfl rfl rfl rfl rfl (by kernel_rfl) Tryz.func4 (by kernel_rfl)
    (of_decide_eq_true (by kernel_rfl)) (by unfold Func.isWrapper; first | (rw [if_pos (by decide +kernel)]; kernel_rfl) | (rw [if_neg (by decide +kernel)]; exact ⟨rfl, rfl⟩))
    (fun os started H enc _ F => by rw [OpenClaim.pre_eq_preRow]; exact answers_lifted os started H enc F)

theorem answers_card : Rows.RpcAnswersUptoCardSaid :=
  Claim7.holds_tied_plain_at .later [] [.data, .data, .data, .data, .sentinel, .sentinel, .pinned] true (true, "53642fa45f886c356ad79fcdf48b1b3fb671cf86e0779d40d62ae12111470f8b") true answers_holds (fun _ h => by cases h) (by kernel_rfl) (fun _ h => by cases h) rpcAnswersUpto_row_tie rfl ⟨rfl, rfl⟩ (by kernel_rfl) rfl
    (fun f fn hf hfn => by
      obtain rfl : f = 4 := Option.some.inj ((show Tryz.prog.funcNamed "bolthole/boltholelaw04.RpcAnswers" = some 4 by kernel_rfl).symm.trans hf) |>.symm
      obtain rfl : fn = Tryz.f4 := (Option.some.inj (Tryz.func4.symm.trans hfn)).symm
      exact ⟨by kernel_rfl, fun j t ht => by
        rw [Tryz.params4] at ht
        have hm : t ∈ [26, 26, 3] := by simpa using Array.mem_of_getElem? ht
        have hall : ([26, 26, 3].all fun u => !Tryz.prog.wantsStandIn u) = true := by kernel_rfl
        exact (show Tryz.prog.wantsStandIn t = false by simpa using List.all_eq_true.1 hall t hm)⟩)
    (by kernel_rfl)
end Go.Proofs.YthnbeebilomchaaGreatDoor
