/- rpc.Write: walked. The live question of layer 4: walked. The document's Fail: walked. rpc.Reply, with what its rows are: walked. A value is copied into the program's type; walked. A value is copied into the document's type; walked. RpcAnswers: the law, walked. A call is copied: what is held. A call is copied back; walked. The document's Same at calls: walked. Whether a call is small: walked; what its message's size is at most. What a call that comes in holds, read off its reading. How great messages are, and what is read of them: plain. RpcBack: the law, walked. The document's place: walked. The document's change: walked. The document's changes: walked. -/
import Derived.Test.YthnbeebilomchaaGreatDoorMw4
import Derived.Deep.CutRange
import Derived.Test.YthnbeebilomchaaGreatDoorMw2
import Derived.Deep.RegionHeld3
import Derived.Test.YthnbeebilomchaaGreatDoorMw3
namespace Go.Proofs.YthnbeebilomchaaGreatDoor
open Go Go.RowKit

theorem params_any (P : Nat → Prop) (c : CD) (w : World) (hP : ∀ g, w.heap.size ≤ g → P g) (h4 : 4 ≤ c.kind) (h9 : c.kind ≤ 9) (hc : ValAt w P c.other) (hrow : Row w 6 c.a c.changes.length (c.changes.flatMap E.cells)) (hn : c.changes.length ≤ 1048576) :
    Calls Tryz.prog 31 #[.agg (cdC c)] w (DocP w P (paramsW c.k)) := by
  rcases (show c.kind = 4 ∨ c.kind = 5 ∨ c.kind = 6 ∨ c.kind = 7 ∨ c.kind = 8 ∨ c.kind = 9 by omega) with h | h | h | h | h | h
  · exact params_4 P c w hP h hc
  · exact params_5 P c w hP h hc hrow hn
  · exact params_6 P c w hP h hc
  · exact params_7 P c w hP h hc
  · exact params_8 P c w hP h hc
  · exact params_9 P c w hP h hc
theorem same_k {a b : CD} (ha : 0 ≤ a.kind) (hb : 0 ≤ b.kind) : SameP a b ↔ a.k = b.k := by
  unfold SameP CD.k
  rw [C.mk.injEq]
  have e : a.kind.toNat = b.kind.toNat ↔ a.kind = b.kind := by omega
  rw [e]
  constructor
  · rintro ⟨h1, h2, h3, h4, h5, h6, ⟨h7, h8⟩, h9⟩; exact ⟨h1, h2, h3, h4, h5, h6, h7, h8, h9⟩
  · rintro ⟨h1, h2, h3, h4, h5, h6, h7, h8, h9⟩; exact ⟨h1, h2, h3, h4, h5, h6, ⟨h7, h8⟩, h9⟩
def wrOk (c : CD) : Prop := 1 ≤ c.kind ∧ c.kind ≤ 9 ∧ readC (msgW c.k) = (0, c.k)
def WriE (w : World) (c : CD) (e : Ending) (w' : World) : Prop := ∃ (d : VD) (n : Int), e = .returned (.tuple #[.agg #[.int .i64 d.sort, .bool d.on, .int .i64 d.n, .string ⟨d.text.toArray⟩, .slice d.a d.list.length d.c, .slice d.ka d.keys.length d.kc], .int .i64 n]) ∧ (wrOk c → n = 0 ∧ d.v = msgW c.k) ∧ (¬ wrOk c → n = 42 ∧ d.v = .null) ∧ ValAt w' (fun _ => True) d ∧ Below w.heap.size w w'
theorem null_size (v : V) : sizeV V.null ≤ sizeV v := by cases v; simp [V.null, sizeV, sizesV]; omega
theorem getD_size (v : V) (p : List Nm) : sizeV ((getV v p).getD .null) ≤ sizeV v := by
  cases h : getV v p with
  | none => exact null_size v
  | some y => exact getV_size p h
theorem chsL_len : ∀ {l : List V} {m : List E}, chsL l = some m → m.length = l.length
  | [], m, h => by rw [chsL] at h; cases h; rfl
  | v :: l, m, h => by
    rw [chsL] at h
    cases ha : chL v with
    | none => rw [ha] at h; cases h
    | some e =>
      rw [ha, Option.bind_some] at h
      cases hb : chsL l with
      | none => rw [hb] at h; cases h
      | some m' => rw [hb] at h; cases h; simp [chsL_len hb]
theorem tell_size {k : Nat} {x p : V} {y : C} (h : tellL k x p = some y) : y.id = x ∧ sizeV y.other ≤ sizeV p ∧ y.changes.length ≤ sizeV p := by
 refine ⟨(tell_kind h).2, ?_⟩
 have hz : sizeV V.null ≤ sizeV p := null_size p
 have h0 : ([] : List E).length ≤ sizeV p := Nat.zero_le _
 unfold tellL at h
 split at h
 ·
  cases h; exact ⟨hz, h0⟩
 split at h
 ·
  split at h
  ·
   rename_i y' hy
   split at h
   ·
    cases h; exact ⟨getV_size _ hy, h0⟩
   ·
    cases h
  ·
   cases h
 cases hn : gText p [kDoc, kUri] with
 | none => rw [hn] at h; cases h
 | some name =>
  rw [hn, Option.bind_some] at h
  split at h
  ·
   cases ha : gNum p [kDoc, kVersion] with
   | none => rw [ha] at h; cases h
   | some a =>
    rw [ha, Option.bind_some] at h
    cases hb : gText p [kDoc, kText] with
    | none => rw [hb] at h; cases h
    | some b => rw [hb] at h; cases h; exact ⟨hz, h0⟩
  split at h
  ·
   cases ha : gNum p [kDoc, kVersion] with
   | none => rw [ha] at h; cases h
   | some a =>
    rw [ha, Option.bind_some, gList_S] at h
    cases hg : getS p 4 [kChanges] with
    | none => rw [hg] at h; cases h
    | some z =>
     rw [hg, Option.map_some, Option.bind_some] at h
     cases hb : chsL z.list with
     | none => rw [hb] at h; cases h
     | some b =>
      rw [hb] at h; cases h
      refine ⟨hz, ?_⟩
      show b.length ≤ _
      rw [chsL_len hb]
      have h1 := list_len z
      have h2 := getS_size (v := p) (s := 4) (p := [kChanges])
      rw [hg] at h2
      exact Nat.le_trans h1 h2
  split at h
  ·
   cases ha : gPlace p [kPosition] with
   | none => rw [ha] at h; cases h
   | some a => rw [ha] at h; cases h; exact ⟨hz, h0⟩
  ·
   cases h; exact ⟨hz, h0⟩
theorem readC_size {v : V} {y : C} (h : readC v = (0, y)) : sizeV y.id ≤ sizeV v ∧ sizeV y.other ≤ sizeV v ∧ y.changes.length ≤ sizeV v := by
  unfold readC at h
  split at h
  · split at h
    · cases h
    · split at h
      · cases h
      · split at h
        · cases h
        · split at h
          · cases h
          · rename_i c' ht
            cases h
            obtain ⟨h1, h2, h3⟩ := tell_size ht
            have hp := getD_size v [kParams]
            exact ⟨by rw [h1]; exact getD_size v [kId], Nat.le_trans h2 hp, Nat.le_trans h3 hp⟩
  · cases h
structure WrS (w : World) (c : CD) (W : World) : Prop where
  below : Below w.heap.size w W
  cblk : Blk W w.heap.size (cdC c) 43
  rblk : Blk W (w.heap.size + 1) #[.int .i64 0, .bool false, .int .i64 0, .string { data := #[] }, .slice none 0 0, .slice none 0 0] 36
  cat : CallP W (fun g => g < w.heap.size) c
theorem WrS.ext {w : World} {c : CD} {W W' : World} (h : WrS w c W) (hb : Below W.heap.size W W') : WrS w c W' := ⟨h.below.trans (hb.mono h.below.size), h.cblk.ext hb, h.rblk.ext hb, ⟨h.cat.id.ext hb, h.cat.other.ext hb, h.cat.row.ext hb, h.cat.blk⟩⟩
theorem WrS.grow {w : World} {c : CD} {W W' : World} (h : WrS w c W) {row : Option Nat} (hg : W.grownBy W' row) (hr : ∀ k, row = some k → w.heap.size + 2 ≤ k) : WrS w c W' := by
  have hlo : ∀ k, k < w.heap.size + 2 → some k ≠ row := fun k hk e => by have := hr k e.symm; omega
  exact ⟨⟨hg.os.trans h.below.os, hg.tape.trans h.below.tape, hg.output.trans h.below.output, Nat.le_trans h.below.size hg.size, fun k hk => (hg.block k (by have := h.below.size; omega) (hlo k (by omega))).trans (h.below.block k hk)⟩, h.cblk.grown hg (hlo _ (by omega)), h.rblk.grown hg (hlo _ (by omega)),
    ⟨h.cat.id.congr fun g h1 h2 => hg.block g h2 (hlo g (by omega)), h.cat.other.congr fun g h1 h2 => hg.block g h2 (hlo g (by omega)), h.cat.row.congr fun g h0 h1 h2 => hg.block g h2 (hlo g (by have := h.cat.blk g (Nat.pos_of_mul_pos_right h0) h1; omega)), h.cat.blk⟩⟩
theorem WrS.sz {w : World} {c : CD} {W : World} (h : WrS w c W) : w.heap.size + 2 ≤ W.heap.size := h.rblk.lt
def msgL (c : C) : List (Nm × V) := (kJson, strW v20) :: ((if c.id.sort = 0 then [] else [(kId, c.id)]) ++ (kMethod, strW (methodN c.kind)) :: if 3 < c.kind then [(kParams, paramsW c)] else [])
theorem msg_map {c : CD} {L1 L : List Pt} {mn : Nm} {kd : Int} (h1 : L1 = (kJson, strD v20) :: (if c.id.sort = 0 then [] else [(kId, c.id)])) (hm : mn = methodN kd.toNat) (hk : kd = c.kind) (h : L.map (fun p => (p.1, p.2.v)) = if 3 < c.kind then [(kParams, paramsW c.k)] else []) :
    ((L1 ++ [(kMethod, strD mn)]) ++ L).map (fun p => (p.1, p.2.v)) = msgL c.k := by
  rw [List.map_append, h, h1, hm, hk]
  have e : (3 < c.kind) = (3 < c.k.kind) := by unfold CD.k; simp only [eq_iff_iff]; omega
  have e2 : (c.id.sort = 0) = (c.k.id.sort = 0) := by unfold CD.k; cases hd : c.id; rfl
  simp only [e, e2]
  unfold msgL
  split <;> split <;> rfl
theorem msg_vals {W : World} {P : Nat → Prop} {c : CD} {L1 : List Pt} {mn : Nm} (h1 : L1 = (kJson, strD v20) :: (if c.id.sort = 0 then [] else [(kId, c.id)])) (h : ValAt W P c.id) : ∀ p ∈ L1 ++ [(kMethod, strD mn)], ValAt W P p.2 := by
  intro p hp
  rw [h1] at hp
  split at hp
  · simp only [List.cons_append, List.nil_append, List.mem_cons, List.mem_nil_iff, or_false] at hp
    rcases hp with rfl | rfl
    · exact .leaf
    · exact .leaf
  · simp only [List.cons_append, List.nil_append, List.mem_cons, List.mem_nil_iff, or_false] at hp
    rcases hp with rfl | rfl | rfl
    · exact .leaf
    · exact h
    · exact .leaf
theorem msg_len {c : C} {L : List Pt} (h : L.map (fun p => (p.1, p.2.v)) = msgL c) : L.length ≤ 1000 := by
  have := congrArg List.length h
  rw [List.length_map] at this
  rw [this]
  unfold msgL
  split <;> split <;> simp
theorem load_call_g {ops : Array Oper} {rest : List Oper} {o : Oper} {a : Act} {w : World} {Q : Exit → Act → World → Prop} (hw : Region.wanted o (yielded ops a.tmps) = true) (x : Operand) (ho : o.op = .load 43 x) (g : Nat) (hx : a.eval x = .pointer (some ⟨g, 0, none⟩)) (c : CD) (hg : Blk w g (cdC c) 43)
    (h : wpList Tryz.prog ops Q rest (a.put o.dst (.agg (cdC c))) w) : wpList Tryz.prog ops Q (o :: rest) a w := by
  obtain ⟨fs, h1⟩ := call_under
  exact wpList_step fun K hK => by rw [if_pos hw]; exact wp_load_row _ x ho g hx _ _ _ _ hg h1 rfl call_size (hK _ _ h)
theorem index_method_at (k : Int) (h1 : 1 ≤ k) (h9 : k ≤ 9) (w : World) : Sem.run Tryz.prog (Instr.index 76 (.agg #[.string { data := #[] }, .string { data := #[105, 110, 105, 116, 105, 97, 108, 105, 122, 101] }, .string { data := #[115, 104, 117, 116, 100, 111, 119, 110] }, .string { data := #[101, 120, 105, 116] }, .string { data := #[116, 101, 120, 116, 68, 111, 99, 117, 109, 101, 110, 116, 47, 100, 105, 100, 79, 112, 101, 110] }, .string { data := #[116, 101, 120, 116, 68, 111, 99, 117, 109, 101, 110, 116, 47, 100, 105, 100, 67, 104, 97, 110, 103, 101] }, .string { data := #[116, 101, 120, 116, 68, 111, 99, 117, 109, 101, 110, 116, 47, 100, 105, 100, 67, 108, 111, 115, 101] }, .string { data := #[116, 101, 120, 116, 68, 111, 99, 117, 109, 101, 110, 116, 47, 104, 111, 118, 101, 114] }, .string { data := #[116, 101, 120, 116, 68, 111, 99, 117, 109, 101, 110, 116, 47, 100, 105, 97, 103, 110, 111, 115, 116, 105, 99] }, .string { data := #[36, 47, 99, 97, 110, 99, 101, 108, 82, 101, 113, 117, 101, 115, 116] }]) (.int .i64 k)) w = .ok (.string ⟨(methodN k.toNat).toArray⟩) w := by
 rcases (show k = 1 ∨ k = 2 ∨ k = 3 ∨ k = 4 ∨ k = 5 ∨ k = 6 ∨ k = 7 ∨ k = 8 ∨ k = 9 by omega) with rfl | rfl | rfl | rfl | rfl | rfl | rfl | rfl | rfl <;> kernel_rfl
theorem write_end {W : World} {tm : Array Value} {R : Ending → World → Prop} {g : Nat} {u0 u1 u2 u3 u4 u5 : Value} (h2 : tm.getD 2 undef = .pointer (some ⟨g, 0, none⟩)) {q : Int} (h3 : tm.getD 3 undef = .int .i64 q) (hB : Blk W g #[u0, u1, u2, u3, u4, u5] 36)
    (hR : R (.returned (.tuple #[.agg #[u0, u1, u2, u3, u4, u5], .int .i64 q])) W) : bodyPost Tryz.prog Tryz.f8 R .ret { tmps := tm, defers := [] } W := by
  have d0 := hB.cell 0
  have d1 := hB.cell 1
  have d2 := hB.cell 2
  have d3 := hB.cell 3
  have d4 := hB.cell 4
  have d5 := hB.cell 5
  simp only [List.getElem?_toArray, List.getElem?_cons_zero, List.getElem?_cons_succ] at d0 d1 d2 d3 d4 d5
  rw [Array.getD_eq_getD_getElem?] at h2 h3
  refine bodyPost_ret (v := .tuple #[.agg #[u0, u1, u2, u3, u4, u5], .int .i64 q]) ?_ rfl hR
  simp [results, Tryz.results8, go_sem, h2, h3, d0, d1, d2, d3, d4, d5]
theorem WrS.none {w : World} {c : CD} {W : World} (h : WrS w c W) (hn : ¬ wrOk c) : WriE w c (.returned (.tuple #[.agg #[.int .i64 0, .bool false, .int .i64 0, .string { data := #[] }, .slice none 0 0, .slice none 0 0], .int .i64 42])) (put6 W (w.heap.size + 1) 0 (.int .i64 0) (.bool false) (.int .i64 0) (.string { data := #[] }) (.slice none 0 0) (.slice none 0 0)) :=
  ⟨zeroD, 42, rfl, fun h => absurd h hn, fun _ => ⟨rfl, rfl⟩, .leaf, put6_below h.below (by omega)⟩
set_option maxHeartbeats 4000000 in
set_option maxRecDepth 20000 in
theorem write_call (c : CD) (w : World) (hc : CallAt w c) (hs : sizeV (msgW c.k) ≤ 1048576) (hs1 : sizeV c.id.v ≤ 1048576) (hs2 : sizeV c.other.v ≤ 1048576) (hn : c.changes.length ≤ 1048576) : Calls Tryz.prog 8 #[.agg (cdC c)] w (WriE w c) := by
 obtain ⟨W0, hW0⟩ : ∃ W0, W0 = (w.alloc (.cells (cdC c) 43)).alloc (.cells #[.int .i64 0, .bool false, .int .i64 0, .string { data := #[] }, .slice none 0 0, .slice none 0 0] 36) := ⟨_, rfl⟩
 have hb0 : Below w.heap.size w W0 := by rw [hW0]; exact (below_a1 w _).alloc (by simp) _
 have hcp : CallP w (fun g => g < w.heap.size) c := ⟨hc.id.mono fun _ _ h => h, hc.other.mono fun _ _ h => h, hc.row, fun g h1 h2 => hc.row.lt (by omega) h2⟩
 have HS : Hid (WrS w c W0) := Lib.hid ⟨hb0, by rw [hW0]; exact (Blk.new rfl).alloc _, by rw [hW0]; exact Blk.new (by simp), ⟨hcp.id.ext hb0, hcp.other.ext hb0, hcp.row.ext hb0, hcp.blk⟩⟩
 have HSM := Lib.hid hs
 have HSI := Lib.hid hs1
 have HSO := Lib.hid hs2
 have HNC := Lib.hid hn
 clear hc hcp hs hs1 hs2 hn hb0
 go_enter Tryz.func8, Tryz.ntmps8
 go_upto_region 1 with (fail)
 rw [← hW0]
 clear hW0
 obtain ⟨kd, hkd⟩ : ∃ q, q = c.kind := ⟨_, rfl⟩
 have c0 : W0.cell? ⟨w.heap.size, 0, none⟩ = some (.int .i64 kd) := by rw [hkd]; exact HS.out.cblk.cell 0
 have HKD := Lib.hid hkd
 clear hkd
 by_cases hr : 1 ≤ kd
 case neg =>
  have d1 : decide (kd ≤ 0) = true := by simp; omega
  have HN : Hid (¬ wrOk c) := Lib.hid (fun h => by have := h.1; rw [← HKD.out] at this; exact hr this)
  have f0 := HS.out.rblk.free 0
  have f1 := HS.out.rblk.free 1
  have f2 := HS.out.rblk.free 2
  have f3 := HS.out.rblk.free 3
  have f4 := HS.out.rblk.free 4
  have f5 := HS.out.rblk.free 5
  obtain ⟨z0, z1, z2, z3, z4, z5⟩ := HS.out.rblk.sixT
  clear hr
  go_wp2
  exact write_end (g := w.heap.size + 1) rfl rfl (store6 HS.out.rblk) (HS.out.none HN.out)
 by_cases hr2 : kd ≤ 9
 case neg =>
  have d1 : decide (kd ≤ 0) = false := by simp; omega
  have d2 : decide (10 ≤ kd) = true := by simp; omega
  have HN : Hid (¬ wrOk c) := Lib.hid (fun h => by have := h.2.1; rw [← HKD.out] at this; exact hr2 this)
  have f0 := HS.out.rblk.free 0
  have f1 := HS.out.rblk.free 1
  have f2 := HS.out.rblk.free 2
  have f3 := HS.out.rblk.free 3
  have f4 := HS.out.rblk.free 4
  have f5 := HS.out.rblk.free 5
  obtain ⟨z0, z1, z2, z3, z4, z5⟩ := HS.out.rblk.sixT
  clear hr hr2
  go_wp2
  exact write_end (g := w.heap.size + 1) rfl rfl (store6 HS.out.rblk) (HS.out.none HN.out)
 have d1 : decide (kd ≤ 0) = false := by simp; omega
 have d2 : decide (10 ≤ kd) = false := by simp; omega
 have HRG := Lib.hid (And.intro hr hr2)
 clear hr hr2
 go_wp2_with fail
 clear d1 d2 c0
 refine (str_any v20 W0).mono ?_
 rintro e w1 ⟨rfl, hb⟩
 have HSn := Lib.hid (HS.out.ext hb)
 clear hb HS
 have HS := HSn
 clear HSn
 obtain ⟨g0, hg0⟩ : ∃ g0, g0 = w1.heap.size := ⟨_, rfl⟩
 obtain ⟨w2, hw2⟩ : ∃ w2, w2 = w1.alloc (.cells ([(kJson, strD v20)].flatMap ptC).toArray 74) := ⟨_, rfl⟩
 have hb : Below w1.heap.size w1 w2 := by rw [hw2]; exact below_a1 _ _
 have HPg0 : Hid (PtsAt w2 (fun g => g ≠ w.heap.size + 1) (some ⟨g0, 0, none⟩) [(kJson, strD v20)]) := Lib.hid ⟨by rw [hw2, hg0]; exact row_blk (Blk.new rfl) (flat_length ptC 7 ptC_len _), fun p hp => by
  simp only [List.mem_cons, List.mem_nil_iff, or_false] at hp
  rcases hp with rfl
  exact .leaf⟩
 have HOg0 : Hid (Own w2 (w.heap.size + 2) 74 7 (some ⟨g0, 0, none⟩) [(kJson, strD v20)].length [(kJson, strD v20)].length ([(kJson, strD v20)].flatMap ptC)) := Lib.hid (by have := HS.out.sz; rw [hw2, hg0]; exact own_blk (cs := ([(kJson, strD v20)].flatMap ptC).toArray) (Blk.new rfl) (by omega) (by rw [List.size_toArray]; exact flat_length ptC 7 ptC_len _) (by simp [maxLen]))
 have HSn := Lib.hid (HS.out.ext hb)
 clear hb HS
 have HS := HSn
 clear HSn
 simp only [List.flatMap_cons, List.flatMap_nil] at hw2
 try simp only [ptC_str] at hw2
 try simp only [ptC_num] at hw2
 try simp only [ptC_of] at hw2
 try simp only [List.cons_append, List.nil_append] at hw2
 simp only [List.append_nil, kJson] at hw2
 have c1 := HS.out.cblk.cell 1
 unfold cdC at c1
 simp only [List.getElem?_toArray, List.getElem?_cons_zero, List.getElem?_cons_succ] at c1
 rw [hw2] at c1
 go_upto_if 23 with (fail)
 rw [← hw2, ← hg0]
 clear hw2 hg0 c1
 obtain ⟨L1, hL1⟩ : ∃ L : List Pt, L = (kJson, strD v20) :: (if c.id.sort = 0 then [] else [(kId, c.id)]) := ⟨_, rfl⟩
 have HL1 := Lib.hid hL1
 clear hL1
 go_cut [4] from 23 to 29 (fun l W => ∃ a n, l = .slice a L1.length n ∧ Hid (Own W (w.heap.size + 2) 74 7 a L1.length n (L1.flatMap ptC)) ∧ Hid (WrS w c W))
 case first =>
  by_cases hz : c.id.sort = 0
  case pos =>
   have hzb : (c.id.sort != 0) = false := by simpa using hz
   have HLE : Hid (L1 = [(kJson, strD v20)]) := Lib.hid (by rw [HL1.out, if_pos hz])
   clear hz
   go_wp2
   go_meet
   exact ⟨some ⟨g0, 0, none⟩, 1, by rw [HLE.out]; rfl, Lib.hid (by rw [HLE.out]; exact HOg0.out), HS⟩
  case neg =>
   have hzb : (c.id.sort != 0) = true := by simpa using hz
   have HLE : Hid (L1 = [(kJson, strD v20), (kId, c.id)]) := Lib.hid (by rw [HL1.out, if_neg hz])
   clear hz
   have c1 := HS.out.cblk.cell 1
   have c2 := HS.out.cblk.cell 2
   have c3 := HS.out.cblk.cell 3
   have c4 := HS.out.cblk.cell 4
   have c5 := HS.out.cblk.cell 5
   have c6 := HS.out.cblk.cell 6
   unfold cdC at c1 c2 c3 c4 c5 c6
   simp only [List.getElem?_toArray, List.getElem?_cons_zero, List.getElem?_cons_succ] at c1 c2 c3 c4 c5 c6
   go_wp2_with (at_builtin; refine wpList_append_Own rfl _ _ 75 rfl (w.heap.size + 2) 74 _ 7 104 Tryz.underlying75 Tryz.infoPart rfl (by decide) (some ⟨g0, 0, none⟩) 1 1 _ rfl (HOg0.out.alloc _) _ 1 1 [.string ⟨kId.toArray⟩, .int .i64 c.id.sort, .bool c.id.on, .int .i64 c.id.n, .string ⟨c.id.text.toArray⟩, .slice c.id.a c.id.list.length c.id.c, .slice c.id.ka c.id.keys.length c.id.kc] rfl (Row.new1 (by simp) rfl rfl) (by intro u hu; simp at hu; rcases hu with rfl | rfl | rfl | rfl | rfl | rfl | rfl <;> rfl) (by simp [maxLen]) (by simp) (by have := HS.out.sz; simp; omega) ?_; intro a7 c7 w4 ho7 hg7 hb7)
   have HSn := Lib.hid ((HS.out.ext (below_a1 _ _)).grow hg7 (HOg0.out.rowBase (Nat.le_refl _)))
   have HO7 : Hid (Own w4 (w.heap.size + 2) 74 7 a7 L1.length c7 (L1.flatMap ptC)) := Lib.hid (by rw [HLE.out]; simp only [List.flatMap_cons, List.flatMap_nil, ptC_of, List.append_nil]; exact ho7)
   clear HS ho7 hg7 hb7 c1 c2 c3 c4 c5 c6
   go_meet
   exact ⟨a7, c7, by rw [HLE.out]; rfl, HO7, HSn⟩
 case rest =>
  obtain ⟨a1, n1, rfl, HO1, HS1⟩ := hcut
  clear HS HPg0 HOg0
  have HS := HS1
  clear HS1
  have HKS : Hid (∀ W, WrS w c W → W.cell? ⟨w.heap.size, 0, none⟩ = some (.int .i64 kd)) := Lib.hid fun W h => by rw [HKD.out]; exact h.cblk.cell 0
  have HLN : Hid (L1.length ≤ 2) := Lib.hid (by rw [HL1.out]; split <;> simp)
  obtain ⟨mn, hmn⟩ : ∃ q, q = methodN kd.toNat := ⟨_, rfl⟩
  have HMN := Lib.hid hmn
  have HIX : Hid (∀ W : World, Sem.run Tryz.prog (Instr.index 76 (.agg methodVs.toArray) (.int .i64 kd)) W = .ok (.string ⟨mn.toArray⟩) W) := Lib.hid (by rw [hmn]; exact index_method_at kd HRG.out.1 HRG.out.2)
  clear hmn
  go_upto_region 6 with (fail)
  obtain ⟨Wd, hWd⟩ : ∃ Wd, Wd = wc.drew := ⟨_, rfl⟩
  have hb : Below wc.heap.size wc Wd := by rw [hWd]; exact (Below.refl _ _).drew
  have HSn := Lib.hid (HS.out.ext hb)
  have HO1n := Lib.hid (HO1.out.ext hb)
  clear HO1
  have HO1 := HO1n
  clear HO1n
  clear hb HS
  have HS := HSn
  clear HSn
  refine wp_region_held_drew (S := (fun w' => w'.cell? ⟨w.heap.size, 0, none⟩ = some (.int .i64 kd))) (by kernel_rfl) ?_ (fun hHeld => ?_)
  ·
   rw [← hWd]; exact HKS.out _ HS.out
  rw [← hWd] at hHeld ⊢
  clear hWd
  refine wpAnyH_take (i := 0) (oi := ⟨some 30, _, _, _, _, _⟩) (v := ?_) rfl (by kernel_rfl) (by kernel_rfl) (by kernel_rfl) (fun _ _ _ h => h) (Or.inl ⟨by rfl, ?_⟩) (by assumption) ?_; rotate_left; focus (intro w hSw; (try dsimp only at hSw); first | (go_simp; done) | (go_simp; with_reducible rfl))
  try simp only [Act.put, List.setIfInBounds_toArray, List.set_cons_succ, List.set_cons_zero]
  refine wpAnyH_take (i := 2) (oi := ⟨some 32, _, _, _, _, _⟩) (v := ?_) rfl (by kernel_rfl) (by kernel_rfl) (by kernel_rfl) (fun _ _ _ h => h) (Or.inl ⟨by rfl, ?_⟩) (by assumption) ?_; rotate_left; focus (intro w hSw; (try dsimp only at hSw); first | (go_simp; done) | (go_simp; with_reducible rfl))
  try simp only [Act.put, List.setIfInBounds_toArray, List.set_cons_succ, List.set_cons_zero]
  refine wpAnyH_take (i := 3) (oi := ⟨some 33, _, _, _, _, _⟩) (v := ?_) rfl (by kernel_rfl) (by kernel_rfl) (by kernel_rfl) (fun _ _ _ h => h) (Or.inl ⟨by rfl, ?_⟩) (by assumption) ?_; rotate_left; focus (intro w hSw; (try dsimp only at hSw); first | (go_simp; done) | (go_simp; with_reducible rfl))
  try simp only [Act.put, List.setIfInBounds_toArray, List.set_cons_succ, List.set_cons_zero]
  refine wpAnyH_ready (rs := [1]) (by kernel_rfl) (by simp) ?_
  refine AllReadyH.cons (i := 1) (o := ⟨some 31, _, _, _, _, _⟩) rfl (fun K hK => ?_) ?_
  ·
   go_simp
   refine (methods_any _).mono ?_
   rintro e wm ⟨rfl, hb⟩
   have HSn := Lib.hid (HS.out.ext hb)
   have HO1n := Lib.hid (HO1.out.ext hb)
   clear HO1
   have HO1 := HO1n
   clear HO1n
   clear hb HS
   have HS := HSn
   clear HSn
   refine hK.out _ _ ?_ (fun hHeld => ?_)
   ·
    exact HKS.out _ HS.out
   try simp only [Act.put, List.setIfInBounds_toArray, List.set_cons_succ, List.set_cons_zero]
   refine wpAnyH_take (i := 4) (oi := ⟨some 34, _, _, _, _, _⟩) (v := ?_) rfl (by kernel_rfl) (by kernel_rfl) (by kernel_rfl) (fun _ _ _ h => h) (Or.inl ⟨by rfl, ?_⟩) (by assumption) ?_; rotate_left; focus (intro w hSw; (try dsimp only at hSw); go_simp; rw [HIX.out]; rfl)
   try simp only [Act.put, List.setIfInBounds_toArray, List.set_cons_succ, List.set_cons_zero]
   refine wpAnyH_ready (rs := [5]) (by kernel_rfl) (by simp) ?_
   refine AllReadyH.cons (i := 5) (o := ⟨some 35, _, _, _, _, _⟩) rfl (fun K hK => ?_) ?_
   ·
    go_simp
    refine (str_any mn _).mono ?_
    rintro e wt ⟨rfl, hb⟩
    have HSn := Lib.hid (HS.out.ext hb)
    have HO1n := Lib.hid (HO1.out.ext hb)
    clear HO1
    have HO1 := HO1n
    clear HO1n
    clear hb HS
    have HS := HSn
    clear HSn
    refine hK.out _ _ ?_ (fun hHeld => ?_)
    ·
     exact HKS.out _ HS.out
    try simp only [Act.put, List.setIfInBounds_toArray, List.set_cons_succ, List.set_cons_zero]
    refine wpAnyH_take (i := 6) (oi := ⟨some 36, _, _, _, _, _⟩) (v := ?_) rfl (by kernel_rfl) (by kernel_rfl) (by kernel_rfl) (fun _ _ _ h => h) (Or.inl ⟨by rfl, ?_⟩) (by assumption) ?_; rotate_left; focus (intro w hSw; (try dsimp only at hSw); first | (go_simp; done) | (go_simp; with_reducible rfl))
    try simp only [Act.put, List.setIfInBounds_toArray, List.set_cons_succ, List.set_cons_zero]
    refine wpAnyH_ready (rs := [7]) (by kernel_rfl) (by simp) ?_
    refine AllReadyH.cons (i := 7) (o := ⟨some 37, _, _, _, _, _⟩) rfl (fun K hK => ?_) ?_
    ·
     obtain ⟨gv, hgv⟩ : ∃ gv, gv = wt.heap.size := ⟨_, rfl⟩
     obtain ⟨wv, hwv⟩ : ∃ wv, wv = wt.alloc (.cells ([(kMethod, strD mn)].flatMap ptC).toArray 74) := ⟨_, rfl⟩
     have hb : Below wt.heap.size wt wv := by rw [hwv]; exact below_a1 _ _
     have HPgv : Hid (PtsAt wv (fun g => g ≠ w.heap.size + 1) (some ⟨gv, 0, none⟩) [(kMethod, strD mn)]) := Lib.hid ⟨by rw [hwv, hgv]; exact row_blk (Blk.new rfl) (flat_length ptC 7 ptC_len _), fun p hp => by
      simp only [List.mem_cons, List.mem_nil_iff, or_false] at hp
      rcases hp with rfl
      exact .leaf⟩
     have HOgv : Hid (Own wv (w.heap.size + 2) 74 7 (some ⟨gv, 0, none⟩) [(kMethod, strD mn)].length [(kMethod, strD mn)].length ([(kMethod, strD mn)].flatMap ptC)) := Lib.hid (by have := HS.out.sz; rw [hwv, hgv]; exact own_blk (cs := ([(kMethod, strD mn)].flatMap ptC).toArray) (Blk.new rfl) (by omega) (by rw [List.size_toArray]; exact flat_length ptC 7 ptC_len _) (by simp [maxLen]))
     have HSn := Lib.hid (HS.out.ext hb)
     have HO1n := Lib.hid (HO1.out.ext hb)
     clear HO1
     have HO1 := HO1n
     clear HO1n
     clear hb HS
     have HS := HSn
     clear HSn
     simp only [List.flatMap_cons, List.flatMap_nil] at hwv
     try simp only [ptC_str] at hwv
     try simp only [ptC_num] at hwv
     try simp only [ptC_of] at hwv
     try simp only [List.cons_append, List.nil_append] at hwv
     simp only [List.append_nil, kMethod] at hwv
     go_simp
     rw [← hwv, ← hgv]
     clear hwv hgv
     refine hK.out _ _ ?_ (fun hHeld => ?_)
     ·
      exact HKS.out _ HS.out
     try simp only [Act.put, List.setIfInBounds_toArray, List.set_cons_succ, List.set_cons_zero]
     refine wpAnyH_ready (rs := [8]) (by kernel_rfl) (by simp) ?_
     refine AllReadyH.cons (i := 8) (o := ⟨some 38, _, _, _, _, _⟩) rfl (fun K hK => ?_) ?_
     ·
      refine step_append_Own (act := ⟨_, []⟩) rfl (.tmp 30) (.tmp 37) 75 rfl (w.heap.size + 2) 74 _ 7 104 Tryz.underlying75 Tryz.infoPart rfl (by decide) a1 L1.length n1 _ (by simp [go_sem]) HO1.out (some ⟨gv, 0, none⟩) 1 1 _ (by simp [go_sem]) HPgv.out.row ptC_one (by have := HLN.out; simp [maxLen]; omega) (by have := HLN.out; simp; omega) HS.out.sz ?_
      intro a7 c7 w7 ho7 hg7 hb7
      simp only [Act.put, List.setIfInBounds_toArray, List.set_cons_succ, List.set_cons_zero]
      have HSn := Lib.hid (HS.out.grow hg7 (HO1.out.rowBase (Nat.le_refl _)))
      have HO2 := Lib.hid ho7
      clear HS ho7 hg7 hb7 HO1 HPgv HOgv
      have HS := HSn
      clear HSn
      refine hK.out _ _ ?_ (fun hHeld => ?_)
      ·
       exact HKS.out _ HS.out
      try simp only [Act.put, List.setIfInBounds_toArray, List.set_cons_succ, List.set_cons_zero]
      refine wpAnyH_take (i := 9) (oi := ⟨some 4, _, _, _, _, _⟩) (v := ?_) rfl (by kernel_rfl) (by kernel_rfl) (by kernel_rfl) (fun _ _ _ h => h) (Or.inl ⟨by rfl, ?_⟩) (by assumption) ?_; rotate_left; focus (intro w hSw; (try dsimp only at hSw); first | (go_simp; done) | (go_simp; with_reducible rfl))
      try simp only [Act.put, List.setIfInBounds_toArray, List.set_cons_succ, List.set_cons_zero]
      refine wpAnyH_done (by kernel_rfl) ?_ _
      clear hHeld
      obtain ⟨L2, hL2⟩ : ∃ L, L = L1 ++ [(kMethod, strD mn)] := ⟨_, rfl⟩
      have hln : L1.length + 1 = L2.length := by rw [hL2]; simp
      have HP2 : Hid (Own w7 (w.heap.size + 2) 74 7 a7 L2.length c7 (L2.flatMap ptC)) := Lib.hid (by rw [← hln, hL2, List.flatMap_append]; exact HO2.out)
      have HL2 := Lib.hid hL2
      have HLN2 : Hid (L2.length ≤ 3) := Lib.hid (by have := HLN.out; omega)
      rw [hln]
      clear hL2 hln HO2
      have HVS : Hid (∀ W, WrS w c W → ∀ p ∈ L2, ValAt W (fun g => g ≠ w.heap.size + 1) p.2) := Lib.hid fun W h => by rw [HL2.out]; exact msg_vals HL1.out (h.cat.id.mono fun g h _ => by show _ ≠ _; omega)
      have HMM : Hid (∀ L : List Pt, L.map (fun p => (p.1, p.2.v)) = (if 3 < c.kind then [(kParams, paramsW c.k)] else []) → (L2 ++ L).map (fun p => (p.1, p.2.v)) = msgL c.k) := Lib.hid fun L h => by rw [HL2.out]; exact msg_map HL1.out HMN.out HKD.out h
      have c0 : w7.cell? ⟨w.heap.size, 0, none⟩ = some (.int .i64 kd) := HKS.out _ HS.out
      go_upto_if 41 with (fail)
      clear c0 HL1 HL2 HMN HLN HIX
      go_cut [4] from 41 to 47 (fun l W => ∃ L3 a n, l = .slice a (List.length L3) n ∧ Hid (PtsAt W (fun g => g ≠ w.heap.size + 1) a L3) ∧ Hid (L3.map (fun p => (p.1, p.2.v)) = msgL c.k) ∧ Hid (WrS w c W))
      case first =>
       by_cases hk3 : 3 < kd
       case neg =>
        have d4 : decide (3 < kd) = false := by simpa using hk3
        have HM3 : Hid (L2.map (fun p => (p.1, p.2.v)) = msgL c.k) := Lib.hid (by have := HMM.out [] (by rw [if_neg (by rw [← HKD.out]; exact hk3)]; rfl); rwa [List.append_nil] at this)
        rw [d4]
        clear hk3 d4
        go_wp2
        go_meet
        exact ⟨L2, a7, c7, rfl, Lib.hid ⟨HP2.out.row, HVS.out _ HS.out⟩, HM3, HS⟩
       case pos =>
        have d4 : decide (3 < kd) = true := by simpa using hk3
        have HK3 := Lib.hid hk3
        rw [d4]
        clear hk3 d4
        go_wp2_with ((with_reducible show wpList _ _ _ (⟨some 43, _, _, _, _, _⟩ :: _) _ _); refine load_call rfl _ rfl w.heap.size rfl c HS.out.cblk ?_)
        refine (params_any (fun g => g ≠ w.heap.size + 1 ∧ rowOf a7 c7 ≠ some g) c w7 (fun g hg => ⟨by have := HS.out.sz; omega, own_lt2 HP2.out hg⟩) (by have := HK3.out; have := HKD.out; omega) (by have := HRG.out.2; have := HKD.out; omega) (HS.out.cat.other.mono fun g h _ => ⟨by omega, fun e => by have := HP2.out.rowBase (Nat.le_refl _) _ e; omega⟩) HS.out.cat.row HNC.out).mono ?_
        rintro e w8 ⟨dp, rfl, hvp, hdp, hb⟩
        have HVP := Lib.hid hvp
        have HDP := Lib.hid hdp
        clear hvp hdp
        have HSn := Lib.hid (HS.out.ext hb)
        have HP2n := Lib.hid (HP2.out.ext hb)
        clear HP2
        have HP2 := HP2n
        clear HP2n
        clear hb HS
        have HS := HSn
        clear HSn
        go_wp2_with (at_builtin; refine wpList_append_Own rfl _ _ 75 rfl (w.heap.size + 2) 74 _ 7 104 Tryz.underlying75 Tryz.infoPart rfl (by decide) a7 L2.length c7 _ rfl (HP2.out.alloc _) _ 1 1 [.string ⟨kParams.toArray⟩, .int .i64 dp.sort, .bool dp.on, .int .i64 dp.n, .string ⟨dp.text.toArray⟩, .slice dp.a dp.list.length dp.c, .slice dp.ka dp.keys.length dp.kc] rfl (Row.new1 (by simp) rfl rfl) (by intro u hu; simp at hu; rcases hu with rfl | rfl | rfl | rfl | rfl | rfl | rfl <;> rfl) (by have := HLN2.out; simp [maxLen]; omega) (by have := HLN2.out; simp; omega) (by have := HS.out.sz; simp; omega) ?_; intro a9 c9 w9 ho9 hg9 hb9)
        have HSn := Lib.hid ((HS.out.ext (below_a1 _ _)).grow hg9 (HP2.out.rowBase (Nat.le_refl _)))
        have HD9 : Hid (ValAt w9 (fun g => g ≠ w.heap.size + 1) dp) := Lib.hid (((HDP.out.ext (below_a1 _ _)).congr fun g h1 h2 => hg9.block g h2 (fun e => h1.2 e.symm)).mono fun g h1 _ => h1.1)
        have HP9 : Hid (Row w9 7 a9 (L2.length + 1) ((L2 ++ [(kParams, dp)]).flatMap ptC)) := Lib.hid (by rw [List.flatMap_append]; simp only [List.flatMap_cons, List.flatMap_nil, ptC_of, List.append_nil]; exact ho9.row)
        clear HS ho9 hg9 hb9
        go_meet
        exact ⟨L2 ++ [(kParams, dp)], a9, c9, by rw [List.length_append]; rfl, Lib.hid ⟨by rw [List.length_append]; exact HP9.out, fun p hp => by
         rcases List.mem_append.1 hp with h | h
         ·
          exact HVS.out _ HSn.out p h
         ·
          rw [List.mem_singleton] at h; rw [h]; exact HD9.out⟩, Lib.hid (HMM.out _ (by rw [if_pos (by rw [← HKD.out]; exact HK3.out), ← HVP.out]; rfl)), HSn⟩
      case rest =>
       obtain ⟨L3, a3, n3, rfl, HP3, HM3, HS3⟩ := hcut
       clear HS HP2 HLN2 HVS HMM HKS
       have HS := HS3
       clear HS3
       go_wp2_with fail
       refine (record_any (fun g => g ≠ w.heap.size + 1) a3 n3 L3 wc (fun g hg => by have := HS.out.sz; show _ ≠ _; omega) HP3.out (msg_len HM3.out)).mono ?_
       rintro e w10 ⟨d, rfl, hvd, hdd, hb⟩
       have HV : Hid (d.v = msgW c.k) := Lib.hid (hvd.trans (congrArg recW HM3.out))
       have HD := Lib.hid hdd
       clear hvd hdd HP3 HM3
       have HSn := Lib.hid (HS.out.ext hb)
       clear hb HS
       have HS := HSn
       clear HSn
       go_upto_region 10 with (fail)
       obtain ⟨g5, hg5⟩ : ∃ g5, g5 = w10.heap.size := ⟨_, rfl⟩
       obtain ⟨w11, hw11⟩ : ∃ w11, w11 = w10.alloc (.cells #[.int .i64 d.sort, .bool d.on, .int .i64 d.n, .string ⟨d.text.toArray⟩, .slice d.a d.list.length d.c, .slice d.ka d.keys.length d.kc] 36) := ⟨_, rfl⟩
       have hb : Below w10.heap.size w10 w11 := by rw [hw11]; exact below_a1 _ _
       have HB5 : Hid (Blk w11 g5 #[.int .i64 d.sort, .bool d.on, .int .i64 d.n, .string ⟨d.text.toArray⟩, .slice d.a d.list.length d.c, .slice d.ka d.keys.length d.kc] 36) := Lib.hid (by rw [hw11, hg5]; exact Blk.new rfl)
       have HSn := Lib.hid (HS.out.ext hb)
       have HDn := Lib.hid (HD.out.ext hb)
       clear HD
       have HD := HDn
       clear HDn
       clear hb HS
       have HS := HSn
       clear HSn
       rw [← hw11, ← hg5]
       clear hw11 hg5
       obtain ⟨b0, b1, b2, b3, b4, b5⟩ := HB5.out.sixT
       go_wp2_with fail
       have hm := msg_any d w11 (HD.out.mono fun _ _ _ => trivial) (by rw [HV.out]; exact HSM.out)
       rw [VD.val6, HV.out] at hm
       refine hm.mono ?_
       clear hm b0 b1 b2 b3 b4 b5
       rintro e w12 ⟨c6, rfl, hc6, hk6, hkk, hb⟩
       have HC6 := Lib.hid hc6
       have HK6 := Lib.hid hk6
       have HKK := Lib.hid hkk
       clear hc6 hk6 hkk
       have HSn := Lib.hid (HS.out.ext hb)
       have HDn := Lib.hid (HD.out.ext hb)
       clear HD
       have HD := HDn
       clear HDn
       have HB5n := Lib.hid (HB5.out.ext hb)
       clear HB5
       have HB5 := HB5n
       clear HB5n
       clear hb HS
       have HS := HSn
       clear HSn
       obtain ⟨r, hr⟩ : ∃ r, r = (readC (msgW c.k)).1 := ⟨_, rfl⟩
       rw [← hr]
       have HR := Lib.hid hr
       clear hr
       obtain ⟨W6, hW6⟩ : ∃ q, q = (w12.alloc (.cells #[.int .i64 0, .int .i64 0, .bool false, .int .i64 0, .string { data := #[] }, .slice none 0 0, .slice none 0 0, .string { data := #[] }, .int .i64 0, .string { data := #[] }, .slice none 0 0, .int .i64 0, .int .i64 0, .int .i64 0, .bool false, .int .i64 0, .string { data := #[] }, .slice none 0 0, .slice none 0 0] 43)).setRow w12.heap.size (cdC c6) := ⟨_, rfl⟩
       have hb : Below w12.heap.size w12 W6 := by rw [hW6]; exact below_row (below_a1 _ _) (Nat.le_refl _) _
       have HBC : Hid (Blk W6 w12.heap.size (cdC c6) 43) := Lib.hid (by rw [hW6]; exact setRow_blk (cur := #[.int .i64 0, .int .i64 0, .bool false, .int .i64 0, .string { data := #[] }, .slice none 0 0, .slice none 0 0, .string { data := #[] }, .int .i64 0, .string { data := #[] }, .slice none 0 0, .int .i64 0, .int .i64 0, .int .i64 0, .bool false, .int .i64 0, .string { data := #[] }, .slice none 0 0, .slice none 0 0]) (Blk.new rfl))
       have HSn := Lib.hid (HS.out.ext hb)
       have HDn := Lib.hid (HD.out.ext hb)
       clear HD
       have HD := HDn
       clear HDn
       have HB5n := Lib.hid (HB5.out.ext hb)
       clear HB5
       have HB5 := HB5n
       clear HB5n
       have HC6n := Lib.hid (HC6.out.ext hb)
       clear HC6
       have HC6 := HC6n
       clear HC6n
       clear hb HS
       have HS := HSn
       clear HSn
       go_upto_region 11 with ((with_reducible show wpList _ _ _ (⟨none, Op.store 43 (Operand.tmp 6) _, _, _, _, _⟩ :: _) _ _); refine store_call rfl _ _ rfl w12.heap.size c6 zeroCD rfl rfl (Blk.new rfl) ?_; rw [← hW6]; clear hW6)
       by_cases hr0 : r = 0
       case neg =>
        have hrb : (r != 0) = true := by simpa using hr0
        have HN : Hid (¬ wrOk c) := Lib.hid fun h => hr0 (by rw [HR.out, h.2.2])
        clear hr0
        have f0 := HS.out.rblk.free 0
        have f1 := HS.out.rblk.free 1
        have f2 := HS.out.rblk.free 2
        have f3 := HS.out.rblk.free 3
        have f4 := HS.out.rblk.free 4
        have f5 := HS.out.rblk.free 5
        obtain ⟨z0, z1, z2, z3, z4, z5⟩ := HS.out.rblk.sixT
        go_wp2
        exact write_end (g := w.heap.size + 1) rfl rfl (store6 HS.out.rblk) (HS.out.none HN.out)
       case pos =>
        have hrb : (r != 0) = false := by simpa using hr0
        have HE : Hid (readC (msgW c.k) = (0, c6.k)) := Lib.hid (by rw [HKK.out, ← hr0, HR.out])
        clear hr0
        go_wp2_with (first | ((with_reducible show wpList _ _ _ (⟨some 58, _, _, _, _, _⟩ :: _) _ _); refine load_call_g rfl _ rfl w12.heap.size rfl c6 HBC.out ?_) | ((with_reducible show wpList _ _ _ (⟨some 59, _, _, _, _, _⟩ :: _) _ _); refine load_call_g rfl _ rfl w.heap.size rfl c HS.out.cblk ?_))
        have hz := readC_size HE.out
        refine (same_call c6 c W6 HC6.out ⟨HS.out.cat.id.mono fun _ _ _ => trivial, HS.out.cat.other.mono fun _ _ _ => trivial, HS.out.cat.row⟩ (Nat.le_trans hz.1 HSM.out) (Nat.le_trans hz.2.1 HSM.out) (Nat.le_trans hz.2.2 HSM.out) HNC.out).mono ?_
        clear hz
        rintro e w14 ⟨u, rfl, hb, b, rfl, hbb⟩
        have HQ : Hid (b = true ↔ c6.k = c.k) := Lib.hid (hbb.trans (same_k HK6.out (by have := HRG.out.1; have := HKD.out; omega)))
        clear hbb
        have HSn := Lib.hid (HS.out.ext hb)
        have HDn := Lib.hid (HD.out.ext hb)
        clear HD
        have HD := HDn
        clear HDn
        have HB5n := Lib.hid (HB5.out.ext hb)
        clear HB5
        have HB5 := HB5n
        clear HB5n
        clear hb HS
        have HS := HSn
        clear HSn
        cases b with
        | false =>
         have HN : Hid (¬ wrOk c) := Lib.hid fun h => by have h3 := HE.out.symm.trans h.2.2; exact absurd (HQ.out.2 (Prod.mk.inj h3).2) (by decide)
         have f0 := HS.out.rblk.free 0
         have f1 := HS.out.rblk.free 1
         have f2 := HS.out.rblk.free 2
         have f3 := HS.out.rblk.free 3
         have f4 := HS.out.rblk.free 4
         have f5 := HS.out.rblk.free 5
         obtain ⟨z0, z1, z2, z3, z4, z5⟩ := HS.out.rblk.sixT
         go_wp2
         exact write_end (g := w.heap.size + 1) rfl rfl (store6 HS.out.rblk) (HS.out.none HN.out)
        | true =>
         have HY : Hid (wrOk c) := Lib.hid ⟨by have := HRG.out.1; have := HKD.out; omega, by have := HRG.out.2; have := HKD.out; omega, by rw [HE.out, HQ.out.1 rfl]⟩
         obtain ⟨b0, b1, b2, b3, b4, b5⟩ := HB5.out.sixT
         have f0 := HS.out.rblk.free 0
         have f1 := HS.out.rblk.free 1
         have f2 := HS.out.rblk.free 2
         have f3 := HS.out.rblk.free 3
         have f4 := HS.out.rblk.free 4
         have f5 := HS.out.rblk.free 5
         obtain ⟨z0, z1, z2, z3, z4, z5⟩ := HS.out.rblk.sixT
         go_wp2
         refine write_end (g := w.heap.size + 1) rfl rfl (store6 HS.out.rblk) ?_
         exact ⟨d, 0, rfl, fun _ => ⟨rfl, HV.out⟩, fun h => absurd HY.out h, (HD.out.congr fun g h _ => put6_other h).mono fun _ _ _ => trivial, put6_below HS.out.below (by omega)⟩
     exact AllReadyH.nil
    exact AllReadyH.nil
   exact AllReadyH.nil
  exact AllReadyH.nil
end Go.Proofs.YthnbeebilomchaaGreatDoor

namespace Go.Proofs.YthnbeebilomchaaGreatDoor
open Go Go.RowKit

def liveL : Nm := [123, 34, 106, 115, 111, 110, 114, 112, 99, 34, 58, 34, 50, 46, 48, 34, 44, 34, 105, 100, 34, 58, 55, 44, 34, 109, 101, 116, 104, 111, 100, 34, 58, 34, 116, 101, 120, 116, 68, 111, 99, 117, 109, 101, 110, 116, 47, 104, 111, 118, 101, 114, 34, 44, 34, 112, 97, 114, 97, 109, 115, 34, 58, 123, 34, 116, 101, 120, 116, 68, 111, 99, 117, 109, 101, 110, 116, 34, 58, 123, 34, 117, 114, 105, 34, 58, 34, 97, 34, 125, 44, 34, 112, 111, 115, 105, 116, 105, 111, 110, 34, 58, 123, 34, 108, 105, 110, 101, 34, 58, 51, 44, 34, 99, 104, 97, 114, 97, 99, 116, 101, 114, 34, 58, 52, 125, 125, 125]
def liveC : C := { C.zero with kind := 7, id := numW 7, name := [97], pl := 3, pu := 4 }
def liveV : V := msgW liveC
theorem live_msg : msgW liveC = liveV := rfl
theorem live_read : readL liveL = .ok liveV [] := by kernel_rfl
theorem live_call : readC liveV = (0, liveC) := by kernel_rfl
theorem live_null : (readC zeroD.v).1 = 42 := by kernel_rfl
theorem live_size : sizeV liveV ≤ 1048576 := by decide +kernel
set_option maxHeartbeats 4000000 in
set_option maxRecDepth 20000 in
theorem live_any (w : World) (hG : Glob w) : Calls Tryz.prog 7 #[] w (BoE w true) := by
 have h1 := read_any liveL w hG (by decide)
 rw [live_read] at h1
 have H1 := Lib.hid h1
 have HG := Lib.hid hG
 unfold liveL at H1
 clear h1 hG
 go_enter Tryz.func7, Tryz.ntmps7
 go_wp2_with fail
 refine H1.out.mono ?_
 intro e w1 h
 obtain ⟨d, rfl, hdv, hva, hb⟩ := readE_ok h
 have HB : Hid (Below w.heap.size w w1) := Lib.hid hb
 have HV := Lib.hid hdv
 have HD := Lib.hid hva
 clear h hdv hva hb H1
 obtain ⟨g1, hg1⟩ : ∃ q, q = w1.heap.size := ⟨_, rfl⟩
 obtain ⟨w2, hw2⟩ : ∃ q, q = w1.alloc (.cells #[.int .i64 d.sort, .bool d.on, .int .i64 d.n, .string ⟨d.text.toArray⟩, .slice d.a d.list.length d.c, .slice d.ka d.keys.length d.kc] 36) := ⟨_, rfl⟩
 have hb : Below w1.heap.size w1 w2 := by rw [hw2]; exact below_a1 _ _
 have H1 : Hid (Blk w2 g1 #[.int .i64 d.sort, .bool d.on, .int .i64 d.n, .string ⟨d.text.toArray⟩, .slice d.a d.list.length d.c, .slice d.ka d.keys.length d.kc] 36) := Lib.hid (by rw [hw2, hg1]; exact Blk.new rfl)
 have HBn := Lib.hid (HB.out.trans (hb.mono HB.out.size))
 have HDn := Lib.hid (HD.out.ext hb)
 clear HD
 have HD := HDn
 clear HDn
 clear hb HB
 have HB := HBn
 clear HBn
 go_upto_region 2 with (fail)
 rw [← hw2, ← hg1]
 clear hw2 hg1
 obtain ⟨b0, b1, b2, b3, b4, b5⟩ := H1.out.sixT
 go_wp2_with fail
 have hm := msg_any d w2 HD.out (by rw [HV.out]; exact live_size)
 rw [VD.val6, HV.out, live_call] at hm
 refine hm.mono ?_
 clear hm b0 b1 b2 b3 b4 b5
 rintro e w3 ⟨c, rfl, hc, hk, hkk, hb⟩
 have HC := Lib.hid hc
 have HK : Hid (c.kind = 7) := Lib.hid (by have := congrArg C.kind hkk; change c.kind.toNat = 7 at this; omega)
 have HKK : Hid (c.k = liveC) := Lib.hid hkk
 clear hc hk hkk
 have HBn := Lib.hid (HB.out.trans (hb.mono HB.out.size))
 have HDn := Lib.hid (HD.out.ext hb)
 clear HD
 have HD := HDn
 clear HDn
 have H1n := Lib.hid (H1.out.ext hb)
 clear H1
 have H1 := H1n
 clear H1n
 clear hb HB
 have HB := HBn
 clear HBn
 obtain ⟨g3, hg3⟩ : ∃ q, q = w3.heap.size := ⟨_, rfl⟩
 obtain ⟨w4, hw4⟩ : ∃ q, q = (w3.alloc (.cells #[.int .i64 0, .int .i64 0, .bool false, .int .i64 0, .string { data := #[] }, .slice none 0 0, .slice none 0 0, .string { data := #[] }, .int .i64 0, .string { data := #[] }, .slice none 0 0, .int .i64 0, .int .i64 0, .int .i64 0, .bool false, .int .i64 0, .string { data := #[] }, .slice none 0 0, .slice none 0 0] 43)).setRow w3.heap.size (cdC c) := ⟨_, rfl⟩
 have hb : Below w3.heap.size w3 w4 := by rw [hw4]; exact below_row (below_a1 _ _) (Nat.le_refl _) _
 have H3 : Hid (Blk w4 g3 (cdC c) 43) := Lib.hid (by rw [hw4, hg3]; exact setRow_blk (cur := #[.int .i64 0, .int .i64 0, .bool false, .int .i64 0, .string { data := #[] }, .slice none 0 0, .slice none 0 0, .string { data := #[] }, .int .i64 0, .string { data := #[] }, .slice none 0 0, .int .i64 0, .int .i64 0, .int .i64 0, .bool false, .int .i64 0, .string { data := #[] }, .slice none 0 0, .slice none 0 0]) (Blk.new rfl))
 have HBn := Lib.hid (HB.out.trans (hb.mono HB.out.size))
 have HDn := Lib.hid (HD.out.ext hb)
 clear HD
 have HD := HDn
 clear HDn
 have H1n := Lib.hid (H1.out.ext hb)
 clear H1
 have H1 := H1n
 clear H1n
 have HCn := Lib.hid (HC.out.ext hb)
 clear HC
 have HC := HCn
 clear HCn
 clear hb HB
 have HB := HBn
 clear HBn
 go_upto_region 3 with (((with_reducible show wpList _ _ _ (⟨none, Op.store 43 (Operand.tmp 3) _, _, _, _, _⟩ :: _) _ _); refine store_call rfl _ _ rfl w3.heap.size c zeroCD rfl rfl (Blk.new rfl) ?_; rw [← hw4, ← hg3]; clear hw4 hg3))
 go_wp2_with ((with_reducible show wpList _ _ _ (⟨some 19, _, _, _, _, _⟩ :: _) _ _); refine load_call rfl _ rfl g3 rfl c H3.out ?_)
 refine (write_call c w4 HC.out (by rw [HKK.out, live_msg]; exact live_size) (by have := congrArg C.id HKK.out; change c.id.v = _ at this; rw [this]; decide) (by have := congrArg C.other HKK.out; change c.other.v = _ at this; rw [this]; decide) (by have := congrArg C.changes HKK.out; change c.changes = _ at this; rw [this]; decide)).mono ?_
 rintro e w5 ⟨d2, n2, rfl, hok, -, hd2, hb⟩
 obtain ⟨rfl, hv2⟩ := hok ⟨by rw [HK.out]; decide, by rw [HK.out]; decide, by rw [HKK.out, live_msg, live_call]⟩
 have HV2 : Hid (d2.v = liveV) := Lib.hid (by rw [hv2, HKK.out, live_msg])
 have HD2 := Lib.hid hd2
 clear hok hv2 hd2
 have HBn := Lib.hid (HB.out.trans (hb.mono HB.out.size))
 have HDn := Lib.hid (HD.out.ext hb)
 clear HD
 have HD := HDn
 clear HDn
 have H1n := Lib.hid (H1.out.ext hb)
 clear H1
 have H1 := H1n
 clear H1n
 have HCn := Lib.hid (HC.out.ext hb)
 clear HC
 have HC := HCn
 clear HCn
 have H3n := Lib.hid (H3.out.ext hb)
 clear H3
 have H3 := H3n
 clear H3n
 clear hb HB
 have HB := HBn
 clear HBn
 obtain ⟨g5, hg5⟩ : ∃ q, q = w5.heap.size := ⟨_, rfl⟩
 obtain ⟨w6, hw6⟩ : ∃ q, q = w5.alloc (.cells #[.int .i64 d2.sort, .bool d2.on, .int .i64 d2.n, .string ⟨d2.text.toArray⟩, .slice d2.a d2.list.length d2.c, .slice d2.ka d2.keys.length d2.kc] 36) := ⟨_, rfl⟩
 have hb : Below w5.heap.size w5 w6 := by rw [hw6]; exact below_a1 _ _
 have H5 : Hid (Blk w6 g5 #[.int .i64 d2.sort, .bool d2.on, .int .i64 d2.n, .string ⟨d2.text.toArray⟩, .slice d2.a d2.list.length d2.c, .slice d2.ka d2.keys.length d2.kc] 36) := Lib.hid (by rw [hw6, hg5]; exact Blk.new rfl)
 have HBn := Lib.hid (HB.out.trans (hb.mono HB.out.size))
 have HDn := Lib.hid (HD.out.ext hb)
 clear HD
 have HD := HDn
 clear HDn
 have H1n := Lib.hid (H1.out.ext hb)
 clear H1
 have H1 := H1n
 clear H1n
 have HCn := Lib.hid (HC.out.ext hb)
 clear HC
 have HC := HCn
 clear HCn
 have H3n := Lib.hid (H3.out.ext hb)
 clear H3
 have H3 := H3n
 clear H3n
 have HD2n := Lib.hid (HD2.out.ext hb)
 clear HD2
 have HD2 := HD2n
 clear HD2n
 clear hb HB
 have HB := HBn
 clear HBn
 go_upto_region 4 with (fail)
 rw [← hw6, ← hg5]
 clear hw6 hg5
 go_wp2_with fail
 have hm := msg_any zeroD w6 .leaf (by decide)
 rw [VD.val6] at hm
 refine hm.mono ?_
 clear hm
 rintro e w7 ⟨c7, rfl, -, -, -, hb⟩
 rw [show (readC zeroD.v).1 = 42 from live_null]
 have HBn := Lib.hid (HB.out.trans (hb.mono HB.out.size))
 have HDn := Lib.hid (HD.out.ext hb)
 clear HD
 have HD := HDn
 clear HDn
 have H1n := Lib.hid (H1.out.ext hb)
 clear H1
 have H1 := H1n
 clear H1n
 have HCn := Lib.hid (HC.out.ext hb)
 clear HC
 have HC := HCn
 clear HCn
 have H3n := Lib.hid (H3.out.ext hb)
 clear H3
 have H3 := H3n
 clear H3n
 have HD2n := Lib.hid (HD2.out.ext hb)
 clear HD2
 have HD2 := HD2n
 clear HD2n
 have H5n := Lib.hid (H5.out.ext hb)
 clear H5
 have H5 := H5n
 clear H5n
 clear hb HB
 have HB := HBn
 clear HBn
 obtain ⟨g7, hg7⟩ : ∃ q, q = w7.heap.size := ⟨_, rfl⟩
 obtain ⟨w8, hw8⟩ : ∃ q, q = (w7.alloc (.cells #[.int .i64 0, .int .i64 0, .bool false, .int .i64 0, .string { data := #[] }, .slice none 0 0, .slice none 0 0, .string { data := #[] }, .int .i64 0, .string { data := #[] }, .slice none 0 0, .int .i64 0, .int .i64 0, .int .i64 0, .bool false, .int .i64 0, .string { data := #[] }, .slice none 0 0, .slice none 0 0] 43)).setRow w7.heap.size (cdC c7) := ⟨_, rfl⟩
 have hb : Below w7.heap.size w7 w8 := by rw [hw8]; exact below_row (below_a1 _ _) (Nat.le_refl _) _
 have H7 : Hid (Blk w8 g7 (cdC c7) 43) := Lib.hid (by rw [hw8, hg7]; exact setRow_blk (cur := #[.int .i64 0, .int .i64 0, .bool false, .int .i64 0, .string { data := #[] }, .slice none 0 0, .slice none 0 0, .string { data := #[] }, .int .i64 0, .string { data := #[] }, .slice none 0 0, .int .i64 0, .int .i64 0, .int .i64 0, .bool false, .int .i64 0, .string { data := #[] }, .slice none 0 0, .slice none 0 0]) (Blk.new rfl))
 have HBn := Lib.hid (HB.out.trans (hb.mono HB.out.size))
 have HDn := Lib.hid (HD.out.ext hb)
 clear HD
 have HD := HDn
 clear HDn
 have H1n := Lib.hid (H1.out.ext hb)
 clear H1
 have H1 := H1n
 clear H1n
 have HCn := Lib.hid (HC.out.ext hb)
 clear HC
 have HC := HCn
 clear HCn
 have H3n := Lib.hid (H3.out.ext hb)
 clear H3
 have H3 := H3n
 clear H3n
 have HD2n := Lib.hid (HD2.out.ext hb)
 clear HD2
 have HD2 := HD2n
 clear HD2n
 have H5n := Lib.hid (H5.out.ext hb)
 clear H5
 have H5 := H5n
 clear H5n
 clear hb HB
 have HB := HBn
 clear HBn
 go_upto_region 5 with (((with_reducible show wpList _ _ _ (⟨none, Op.store 43 (Operand.tmp 7) _, _, _, _, _⟩ :: _) _ _); refine store_call rfl _ _ rfl w7.heap.size c7 zeroCD rfl rfl (Blk.new rfl) ?_; rw [← hw8, ← hg7]; clear hw8 hg7))
 have f0 : w8.cell? ⟨g3, 0, none⟩ = some (.int .i64 7) := by rw [← HK.out]; exact H3.out.cell 0
 have f3 : w8.cell? ⟨g3, 3, none⟩ = some (.int .i64 7) := by
  have h : c.id.n = 7 := by have := congrArg C.id HKK.out; change c.id.v = _ at this; rw [VD.v_eq] at this; injection this
  rw [← h]; exact H3.out.cell 3
 have f11 : w8.cell? ⟨g3, 11, none⟩ = some (.int .i64 3) := by
  have h : c.pl = 3 := congrArg C.pl HKK.out
  rw [← h]; exact H3.out.cell 11
 obtain ⟨b0, b1, b2, b3, b4, b5⟩ := H1.out.sixT
 obtain ⟨a0, a1, a2, a3, a4, a5⟩ := H5.out.sixT
 go_wp2_with fail
 clear b0 b1 b2 b3 b4 b5 a0 a1 a2 a3 a4 a5 f0 f3 f11
 have hs := same_any d d2 w8 HD.out HD2.out (by rw [HV.out]; exact live_size)
 rw [VD.val6, VD.val6] at hs
 refine hs.mono ?_
 clear hs
 rintro e w9 ⟨u, rfl, hb, b, rfl, hbb⟩
 obtain rfl : b = true := hbb.2 (by rw [HV.out, HV2.out])
 clear hbb
 have HBn := Lib.hid (HB.out.trans (hb.mono HB.out.size))
 clear hb HB
 have HB := HBn
 clear HBn
 go_wp2_with fail
 refine (code_any 233 w9).mono ?_
 rintro e w10 ⟨rfl, hb⟩
 rw [show codeN 233 = -32800 from rfl]
 have HBn := Lib.hid (HB.out.trans (hb.mono HB.out.size))
 clear hb HB
 have HB := HBn
 clear HBn
 go_wp2
 go_ret
 exact ⟨rfl, HB.out⟩
end Go.Proofs.YthnbeebilomchaaGreatDoor

namespace Go.Proofs.YthnbeebilomchaaGreatDoor
open Go Go.RowKit

end Go.Proofs.YthnbeebilomchaaGreatDoor

namespace Go.Proofs.YthnbeebilomchaaGreatDoor
open Go Go.RowKit

end Go.Proofs.YthnbeebilomchaaGreatDoor

namespace Go.Proofs.YthnbeebilomchaaGreatDoor
open Go Go.RowKit

theorem of_end {W : World} {tm : Array Value} {R : Ending → World → Prop} {g : Nat} {u0 u1 u2 u3 u4 u5 : Value} (h2 : tm.getD 2 undef = .pointer (some ⟨g, 0, none⟩)) (hB : Blk W g #[u0, u1, u2, u3, u4, u5] 36)
    (hR : R (.returned (.agg #[u0, u1, u2, u3, u4, u5])) W) : bodyPost Tryz.prog Tryz.f15 R .ret { tmps := tm, defers := [] } W := by
  obtain ⟨d0, d1, d2, d3, d4, d5⟩ := hB.sixT
  rw [Array.getD_eq_getD_getElem?] at h2
  refine bodyPost_ret (v := .agg #[u0, u1, u2, u3, u4, u5]) ?_ rfl hR
  simp [results, Tryz.results15, go_sem, h2, d0, d1, d2, d3, d4, d5]
set_option maxHeartbeats 8000000 in
theorem of_any (d : VD) : ∀ (B : Nat) (W : World), B ≤ W.heap.size → ValAt W (fun k => k < B) d → sizeV d.v ≤ 1048576 → Calls Tryz.prog 15 #[d.val] W (OfE B W d.v) := by
 induction d using VD.ind with
 | h s o n t a c ks ka kc keys ih =>
  intro B W hBW h hw
  have hks : ks.length ≤ 1048576 := by
   have h1 := sizeV_eq (.mk s o n t a c ks ka kc keys)
   have h2 := sizesV_len (ks.map VD.v)
   simp only [VD.list, List.length_map] at h1 h2
   omega
  have HV := Lib.hid h
  have HI : Hid (∀ x ∈ ks, ∀ V, W.heap.size ≤ V.heap.size → ValAt V (fun k => k < B) x → Calls Tryz.prog 15 #[x.val] V (OfE B V x.v)) := Lib.hid fun x hx V hV hv => ih x hx B V (by omega) hv (by
   have h1 := sizeV_eq (.mk s o n t a c ks ka kc keys)
   have h2 := sizesV_mem (l := ks.map VD.v) (List.mem_map_of_mem hx)
   simp only [VD.list] at h1
   omega)
  clear ih h hw
  have hst := OV.start 36 26 B W (.mk s o n t a c ks ka kc keys)
  unfold box3V at hst
  simp only [VD.sort, VD.on, VD.n, VD.text, VD.a, VD.list, VD.c, VD.ka, VD.keys, VD.kc] at hst
  have HST := Lib.hid hst
  clear hst
  unfold VD.val VD.cells strV
  go_enter Tryz.func15, Tryz.ntmps15
  go_wp2_with fail
  go_loopw [4] (fun i wr => ∃ (vs : List VD) (la : Option Addr) (lc : Nat), vs.length ≤ ks.length ∧ i = .int .i64 vs.length ∧ Hid (OV 36 26 B W wr (VD.mk s o n t a c ks ka kc keys) vs la lc) ∧ Hid (vs.map VD.v = (ks.take vs.length).map VD.v)) (fun i _ => ks.length - (intOf i).toNat)
  case atStart => exact ⟨[], none, 0, Nat.zero_le _, rfl, HST, Lib.hid rfl⟩
  case round =>
   obtain ⟨vs, la, lc, hq, rfl, HO, HE⟩ := hrel
   have hwr := HO.out.blk.lt
   by_cases hlt : vs.length < ks.length
   ·
    obtain ⟨x, hx⟩ := get_some hlt
    have hxm := List.mem_of_getElem? hx
    have hvr := (HV.out.ext HO.out.below)
    obtain ⟨eb, eo, ha, c0, c1, c2, c3, c4, c5⟩ := val_at hvr.row hx
    simp only [VD.a] at ha
    subst ha
    unfold strV at c3
    have hebB : eb < B := hvr.blk eb (by simp only [VD.list]; omega) rfl
    have a4 : wr.cell? ⟨W.heap.size, 4, none⟩ = some (.slice (some ⟨eb, eo, none⟩) ks.length c) := HO.out.arg.cell 4
    have HS : Hid (∀ w' : World, (∀ k, k ≤ W.heap.size → w'.heap[k]? = wr.heap[k]?) → w'.cell? ⟨W.heap.size, 4, none⟩ = some (.slice (some ⟨eb, eo, none⟩) ks.length c) ∧ w'.cell? ⟨eb, eo + vs.length * 6, none⟩ = some (.int .i64 x.sort) ∧ w'.cell? ⟨eb, eo + vs.length * 6 + 1, none⟩ = some (.bool x.on) ∧ w'.cell? ⟨eb, eo + vs.length * 6 + 2, none⟩ = some (.int .i64 x.n) ∧ w'.cell? ⟨eb, eo + vs.length * 6 + 3, none⟩ = some (.string ⟨x.text.toArray⟩) ∧ w'.cell? ⟨eb, eo + vs.length * 6 + 4, none⟩ = some (.slice x.a x.list.length x.c) ∧ w'.cell? ⟨eb, eo + vs.length * 6 + 5, none⟩ = some (.slice x.ka x.keys.length x.kc)) := Lib.hid fun w' hw => by
     have k : ∀ g j, g ≤ W.heap.size → w'.cell? ⟨g, j, none⟩ = wr.cell? ⟨g, j, none⟩ := fun g j hg => World.cell?_of_block (w := wr) (a := ⟨g, j, none⟩) (hw g hg)
     exact ⟨(k _ _ (Nat.le_refl _)).trans a4, (k _ _ (by omega)).trans c0, (k _ _ (by omega)).trans c1, (k _ _ (by omega)).trans c2, (k _ _ (by omega)).trans c3, (k _ _ (by omega)).trans c4, (k _ _ (by omega)).trans c5⟩
    have HT : Hid ((ks.take (vs.length + 1)).map VD.v = (ks.take vs.length).map VD.v ++ [x.v]) := Lib.hid (by rw [List.take_add_one, hx, Option.toList_some, List.map_append]; rfl)
    have hdr : Below wr.heap.size wr wr.drew := (Below.refl _ _).drew
    have HO1 := Lib.hid (HO.out.ext hdr)
    have hc := HI.out x hxm wr.drew HO1.out.below.size ((hvr.kid x hxm).ext hdr)
    rw [VD.val6] at hc
    have Hc := Lib.hid hc
    have hq0 := HO1.out.blk.cell 4
    clear hdr hc hx hxm hvr hebB
    go_upto_region 5 with (fail)
    refine wp_region_held_drew (S := fun w' => w'.cell? ⟨W.heap.size, 4, none⟩ = some (.slice (some ⟨eb, eo, none⟩) ks.length c) ∧ w'.cell? ⟨eb, eo + vs.length * 6, none⟩ = some (.int .i64 x.sort) ∧ w'.cell? ⟨eb, eo + vs.length * 6 + 1, none⟩ = some (.bool x.on) ∧ w'.cell? ⟨eb, eo + vs.length * 6 + 2, none⟩ = some (.int .i64 x.n) ∧ w'.cell? ⟨eb, eo + vs.length * 6 + 3, none⟩ = some (.string ⟨x.text.toArray⟩) ∧ w'.cell? ⟨eb, eo + vs.length * 6 + 4, none⟩ = some (.slice x.a x.list.length x.c) ∧ w'.cell? ⟨eb, eo + vs.length * 6 + 5, none⟩ = some (.slice x.ka x.keys.length x.kc)) (by kernel_rfl) ?_ (fun hHeld => ?_)
    ·
     exact HS.out _ (fun _ _ => rfl)
    refine wpAnyH_take (i := 0) (oi := ⟨some 23, _, _, _, _, _⟩) (v := ?_) rfl (by kernel_rfl) (by kernel_rfl) (by kernel_rfl) (fun _ _ _ h => h) (Or.inl ⟨by rfl, ?_⟩) (by assumption) ?_; rotate_left; focus (intro w hSw; (try dsimp only at hSw); first | (go_simp; done) | (go_simp; with_reducible rfl))
    try simp only [Act.put, List.setIfInBounds_toArray, List.set_cons_succ, List.set_cons_zero]
    refine wpAnyH_take (i := 2) (oi := ⟨some 25, _, _, _, _, _⟩) (v := ?_) rfl (by kernel_rfl) (by kernel_rfl) (by kernel_rfl) (fun _ _ _ h => h) (Or.inl ⟨by rfl, ?_⟩) (by assumption) ?_; rotate_left; focus (intro w hSw; (try dsimp only at hSw); first | (go_simp; done) | (go_simp; with_reducible rfl))
    try simp only [Act.put, List.setIfInBounds_toArray, List.set_cons_succ, List.set_cons_zero]
    refine wpAnyH_take (i := 3) (oi := ⟨some 26, _, _, _, _, _⟩) (v := ?_) rfl (by kernel_rfl) (by kernel_rfl) (by kernel_rfl) (fun _ _ _ h => h) (Or.inl ⟨by rfl, ?_⟩) (by assumption) ?_; rotate_left; focus (intro w hSw; (try dsimp only at hSw); obtain ⟨s4, s0, s1, s2, s3, s5, s6⟩ := hSw; first | (go_simp; done) | (go_simp; with_reducible rfl))
    try simp only [Act.put, List.setIfInBounds_toArray, List.set_cons_succ, List.set_cons_zero]
    refine wpAnyH_take (i := 4) (oi := ⟨some 27, _, _, _, _, _⟩) (v := ?_) rfl (by kernel_rfl) (by kernel_rfl) (by kernel_rfl) (fun _ _ _ h => h) (Or.inl ⟨by rfl, ?_⟩) (by assumption) ?_; rotate_left; focus (intro w hSw; (try dsimp only at hSw); first | (go_simp; done) | (go_simp; with_reducible rfl))
    try simp only [Act.put, List.setIfInBounds_toArray, List.set_cons_succ, List.set_cons_zero]
    refine wpAnyH_take (i := 5) (oi := ⟨some 28, _, _, _, _, _⟩) (v := ?_) rfl (by kernel_rfl) (by kernel_rfl) (by kernel_rfl) (fun _ _ _ h => h) (Or.inl ⟨by rfl, ?_⟩) (by assumption) ?_; rotate_left; focus (intro w hSw; (try dsimp only at hSw); first | (go_simp; done) | (go_simp; with_reducible rfl))
    try simp only [Act.put, List.setIfInBounds_toArray, List.set_cons_succ, List.set_cons_zero]
    refine wpAnyH_take (i := 6) (oi := ⟨some 29, _, _, _, _, _⟩) (v := ?_) rfl (by kernel_rfl) (by kernel_rfl) (by kernel_rfl) (fun _ _ _ h => h) (Or.inl ⟨by rfl, ?_⟩) (by assumption) ?_; rotate_left; focus (intro w hSw; (try dsimp only at hSw); obtain ⟨s4, s0, s1, s2, s3, s5, s6⟩ := hSw; first | (go_simp; done) | (go_simp; with_reducible rfl))
    try simp only [Act.put, List.setIfInBounds_toArray, List.set_cons_succ, List.set_cons_zero]
    refine wpAnyH_ready (rs := [1, 7]) (by kernel_rfl) (by simp) ?_
    refine AllReadyH.cons (i := 1) (o := ⟨some 24, _, _, _, _, _⟩) rfl (fun K hK => ?_) ?_
    ·
     go_simp
     refine hK.out _ _ ?_ (fun hHeld => ?_)
     ·
      exact hHeld
     try simp only [Act.put, List.setIfInBounds_toArray, List.set_cons_succ, List.set_cons_zero]
     refine wpAnyH_ready (rs := [7]) (by kernel_rfl) (by simp) ?_
     refine AllReadyH.cons (i := 7) (o := ⟨some 30, _, _, _, _, _⟩) rfl (fun K hK => ?_) ?_
     ·
      go_simp
      refine Hc.out.mono ?_
      rintro e w2 ⟨d2, rfl, hd2, hva2, hb2⟩
      have HO2 := Lib.hid (HO1.out.ext hb2)
      have Hown2 := Lib.hid HO2.out.own
      have HB2 := Lib.hid hb2
      have HVA2 := Lib.hid hva2
      have HD2 := Lib.hid hd2
      have hws2 := HO2.out.blk.lt
      have hq2 := HO2.out.blk.cell 4
      have HH2 : Hid (∀ k, k ≤ W.heap.size → w2.heap[k]? = wr.heap[k]?) := Lib.hid fun k hk => hb2.block k (show k < wr.heap.size by omega)
      have hq3 := (HO2.out.blk.alloc (.cells #[.int .i64 d2.sort, .bool d2.on, .int .i64 d2.n, .string ⟨d2.text.toArray⟩, .slice d2.a d2.list.length d2.c, .slice d2.ka d2.keys.length d2.kc] 36)).cell 4
      have HH3 : Hid (∀ k, k ≤ W.heap.size → (w2.alloc (.cells #[.int .i64 d2.sort, .bool d2.on, .int .i64 d2.n, .string ⟨d2.text.toArray⟩, .slice d2.a d2.list.length d2.c, .slice d2.ka d2.keys.length d2.kc] 36)).heap[k]? = wr.heap[k]?) := Lib.hid fun k hk => (Below.heap_alloc _ _ k (by omega)).trans (HH2.out k hk)
      clear hb2 hva2 hd2
      refine hK.out _ _ ?_ (fun hHeld => ?_)
      ·
       exact HS.out _ HH2.out
      try simp only [Act.put, List.setIfInBounds_toArray, List.set_cons_succ, List.set_cons_zero]
      refine wpAnyH_ready (rs := [8]) (by kernel_rfl) (by simp) ?_
      refine AllReadyH.cons (i := 8) (o := ⟨some 31, _, _, _, _, _⟩) rfl (fun K hK => ?_) ?_
      ·
       go_simp
       refine hK.out _ _ ?_ (fun hHeld => ?_)
       ·
        exact HS.out _ HH3.out
       try simp only [Act.put, List.setIfInBounds_toArray, List.set_cons_succ, List.set_cons_zero]
       refine wpAnyH_ready (rs := [9]) (by kernel_rfl) (by simp) ?_
       refine AllReadyH.cons (i := 9) (o := ⟨some 32, _, _, _, _, _⟩) rfl (fun K hK => ?_) ?_
       ·
        refine step_append_Own rfl (.tmp 24) (.tmp 31) 34 rfl (W.heap.size + 3) 36 _ 6 88 Tryz.underlying34 Tryz.infoVal rfl (by decide) la vs.length lc _ (by simp [go_sem]) (by exact Hown2.out.alloc _) _ 1 1 [.int .i64 d2.sort, .bool d2.on, .int .i64 d2.n, .string ⟨d2.text.toArray⟩, .slice d2.a d2.list.length d2.c, .slice d2.ka d2.keys.length d2.kc] (by simp [go_sem]; rfl) (by exact Row.new1 (by simp) rfl rfl) (by intro u hu; simp at hu; rcases hu with rfl | rfl | rfl | rfl | rfl | rfl <;> rfl) (by unfold maxLen; omega) (by omega) (by simp; omega) ?_
        intro a6 c6 w6 hown6 hg6 hbk6
        have HO6 := Lib.hid hown6
        have HG6 := Lib.hid hg6
        have HK6 := Lib.hid hbk6
        have HH6 : Hid (∀ k, k ≤ W.heap.size → w6.heap[k]? = wr.heap[k]?) := Lib.hid fun k hk => (hg6.block k (by simp; omega) (fun e => HO2.out.own.apart (by omega) e)).trans (HH3.out k hk)
        have HH7 : Hid (∀ k, k ≤ W.heap.size → (w6.setCell ⟨W.heap.size + 2, 4, none⟩ (.slice a6 (vs.length + 1) c6)).heap[k]? = wr.heap[k]?) := Lib.hid fun k hk => (Below.heap_setCell _ ⟨W.heap.size + 2, 4, none⟩ _ k (by show k ≠ W.heap.size + 2; omega)).trans (HH6.out k hk)
        have hb6 : Blk w6 (W.heap.size + 2) #[.int .i64 s, .bool o, .int .i64 n, .string ⟨t.toArray⟩, .slice la vs.length lc, .slice ka keys.length kc] 36 := (hg6.block (W.heap.size + 2) (by simp; omega) (fun e => HO2.out.own.apart (by omega) e)).trans (HO2.out.blk.alloc _)
        have hq6 := hb6.cell 4
        have hf6 := hb6.free 4
        clear hown6 hg6 hbk6 hb6
        refine hK.out _ _ ?_ (fun hHeld => ?_)
        ·
         exact HS.out _ HH6.out
        try simp only [Act.put, List.setIfInBounds_toArray, List.set_cons_succ, List.set_cons_zero]
        refine wpAnyH_take (i := 10) (oi := ⟨some 33, _, _, _, _, _⟩) (v := ?_) rfl (by kernel_rfl) (by kernel_rfl) (by kernel_rfl) (fun _ _ _ h => h) (Or.inl ⟨by rfl, ?_⟩) (by assumption) ?_; rotate_left; focus (intro w hSw; (try dsimp only at hSw); first | (go_simp; done) | (go_simp; with_reducible rfl))
        try simp only [Act.put, List.setIfInBounds_toArray, List.set_cons_succ, List.set_cons_zero]
        refine wpAnyH_ready (rs := [11]) (by kernel_rfl) (by simp) ?_
        refine AllReadyH.cons (i := 11) (o := ⟨none, _, _, _, _, _⟩) rfl (fun K hK => ?_) ?_
        ·
         go_simp
         refine hK.out _ _ ?_ (fun hHeld => ?_)
         ·
          exact HS.out _ HH7.out
         try simp only [Act.put, List.setIfInBounds_toArray, List.set_cons_succ, List.set_cons_zero]
         refine wpAnyH_done (by kernel_rfl) ?_ _
         have HN : Hid (OV 36 26 B W (w6.setCell ⟨W.heap.size + 2, 4, none⟩ (.slice a6 (vs.length + 1) c6)) (VD.mk s o n t (some ⟨eb, eo, none⟩) c ks ka kc keys) (vs ++ [d2]) a6 c6) := Lib.hid (HO1.out.push hBW HB2.out HVA2.out _ (by rw [List.flatMap_append, List.flatMap_singleton, cells_list]; exact HO6.out) HG6.out HK6.out)
         go_wp2
         go_roundw
         case rel => exact ⟨vs ++ [d2], a6, c6, by rw [List.length_append]; exact hlt, by rw [List.length_append]; go_num, HN, Lib.hid (by rw [List.length_append, List.map_append, HE.out]; simp [HT.out, HD2.out])⟩
         case measure => simp [intOf]; omega
        exact AllReadyH.nil
       exact AllReadyH.nil
      exact AllReadyH.nil
     exact AllReadyH.nil
    refine AllReadyH.cons (i := 7) (o := ⟨some 30, _, _, _, _, _⟩) rfl (fun K hK => ?_) ?_
    ·
     go_simp
     refine Hc.out.mono ?_
     rintro e w2 ⟨d2, rfl, hd2, hva2, hb2⟩
     have HO2 := Lib.hid (HO1.out.ext hb2)
     have Hown2 := Lib.hid HO2.out.own
     have HB2 := Lib.hid hb2
     have HVA2 := Lib.hid hva2
     have HD2 := Lib.hid hd2
     have hws2 := HO2.out.blk.lt
     have hq2 := HO2.out.blk.cell 4
     have HH2 : Hid (∀ k, k ≤ W.heap.size → w2.heap[k]? = wr.heap[k]?) := Lib.hid fun k hk => hb2.block k (show k < wr.heap.size by omega)
     have hq3 := (HO2.out.blk.alloc (.cells #[.int .i64 d2.sort, .bool d2.on, .int .i64 d2.n, .string ⟨d2.text.toArray⟩, .slice d2.a d2.list.length d2.c, .slice d2.ka d2.keys.length d2.kc] 36)).cell 4
     have HH3 : Hid (∀ k, k ≤ W.heap.size → (w2.alloc (.cells #[.int .i64 d2.sort, .bool d2.on, .int .i64 d2.n, .string ⟨d2.text.toArray⟩, .slice d2.a d2.list.length d2.c, .slice d2.ka d2.keys.length d2.kc] 36)).heap[k]? = wr.heap[k]?) := Lib.hid fun k hk => (Below.heap_alloc _ _ k (by omega)).trans (HH2.out k hk)
     clear hb2 hva2 hd2
     refine hK.out _ _ ?_ (fun hHeld => ?_)
     ·
      exact HS.out _ HH2.out
     try simp only [Act.put, List.setIfInBounds_toArray, List.set_cons_succ, List.set_cons_zero]
     refine wpAnyH_ready (rs := [1, 8]) (by kernel_rfl) (by simp) ?_
     refine AllReadyH.cons (i := 1) (o := ⟨some 24, _, _, _, _, _⟩) rfl (fun K hK => ?_) ?_
     ·
      go_simp
      refine hK.out _ _ ?_ (fun hHeld => ?_)
      ·
       exact hHeld
      try simp only [Act.put, List.setIfInBounds_toArray, List.set_cons_succ, List.set_cons_zero]
      refine wpAnyH_ready (rs := [8]) (by kernel_rfl) (by simp) ?_
      refine AllReadyH.cons (i := 8) (o := ⟨some 31, _, _, _, _, _⟩) rfl (fun K hK => ?_) ?_
      ·
       go_simp
       refine hK.out _ _ ?_ (fun hHeld => ?_)
       ·
        exact HS.out _ HH3.out
       try simp only [Act.put, List.setIfInBounds_toArray, List.set_cons_succ, List.set_cons_zero]
       refine wpAnyH_ready (rs := [9]) (by kernel_rfl) (by simp) ?_
       refine AllReadyH.cons (i := 9) (o := ⟨some 32, _, _, _, _, _⟩) rfl (fun K hK => ?_) ?_
       ·
        refine step_append_Own rfl (.tmp 24) (.tmp 31) 34 rfl (W.heap.size + 3) 36 _ 6 88 Tryz.underlying34 Tryz.infoVal rfl (by decide) la vs.length lc _ (by simp [go_sem]) (by exact Hown2.out.alloc _) _ 1 1 [.int .i64 d2.sort, .bool d2.on, .int .i64 d2.n, .string ⟨d2.text.toArray⟩, .slice d2.a d2.list.length d2.c, .slice d2.ka d2.keys.length d2.kc] (by simp [go_sem]; rfl) (by exact Row.new1 (by simp) rfl rfl) (by intro u hu; simp at hu; rcases hu with rfl | rfl | rfl | rfl | rfl | rfl <;> rfl) (by unfold maxLen; omega) (by omega) (by simp; omega) ?_
        intro a6 c6 w6 hown6 hg6 hbk6
        have HO6 := Lib.hid hown6
        have HG6 := Lib.hid hg6
        have HK6 := Lib.hid hbk6
        have HH6 : Hid (∀ k, k ≤ W.heap.size → w6.heap[k]? = wr.heap[k]?) := Lib.hid fun k hk => (hg6.block k (by simp; omega) (fun e => HO2.out.own.apart (by omega) e)).trans (HH3.out k hk)
        have HH7 : Hid (∀ k, k ≤ W.heap.size → (w6.setCell ⟨W.heap.size + 2, 4, none⟩ (.slice a6 (vs.length + 1) c6)).heap[k]? = wr.heap[k]?) := Lib.hid fun k hk => (Below.heap_setCell _ ⟨W.heap.size + 2, 4, none⟩ _ k (by show k ≠ W.heap.size + 2; omega)).trans (HH6.out k hk)
        have hb6 : Blk w6 (W.heap.size + 2) #[.int .i64 s, .bool o, .int .i64 n, .string ⟨t.toArray⟩, .slice la vs.length lc, .slice ka keys.length kc] 36 := (hg6.block (W.heap.size + 2) (by simp; omega) (fun e => HO2.out.own.apart (by omega) e)).trans (HO2.out.blk.alloc _)
        have hq6 := hb6.cell 4
        have hf6 := hb6.free 4
        clear hown6 hg6 hbk6 hb6
        refine hK.out _ _ ?_ (fun hHeld => ?_)
        ·
         exact HS.out _ HH6.out
        try simp only [Act.put, List.setIfInBounds_toArray, List.set_cons_succ, List.set_cons_zero]
        refine wpAnyH_take (i := 10) (oi := ⟨some 33, _, _, _, _, _⟩) (v := ?_) rfl (by kernel_rfl) (by kernel_rfl) (by kernel_rfl) (fun _ _ _ h => h) (Or.inl ⟨by rfl, ?_⟩) (by assumption) ?_; rotate_left; focus (intro w hSw; (try dsimp only at hSw); first | (go_simp; done) | (go_simp; with_reducible rfl))
        try simp only [Act.put, List.setIfInBounds_toArray, List.set_cons_succ, List.set_cons_zero]
        refine wpAnyH_ready (rs := [11]) (by kernel_rfl) (by simp) ?_
        refine AllReadyH.cons (i := 11) (o := ⟨none, _, _, _, _, _⟩) rfl (fun K hK => ?_) ?_
        ·
         go_simp
         refine hK.out _ _ ?_ (fun hHeld => ?_)
         ·
          exact HS.out _ HH7.out
         try simp only [Act.put, List.setIfInBounds_toArray, List.set_cons_succ, List.set_cons_zero]
         refine wpAnyH_done (by kernel_rfl) ?_ _
         have HN : Hid (OV 36 26 B W (w6.setCell ⟨W.heap.size + 2, 4, none⟩ (.slice a6 (vs.length + 1) c6)) (VD.mk s o n t (some ⟨eb, eo, none⟩) c ks ka kc keys) (vs ++ [d2]) a6 c6) := Lib.hid (HO1.out.push hBW HB2.out HVA2.out _ (by rw [List.flatMap_append, List.flatMap_singleton, cells_list]; exact HO6.out) HG6.out HK6.out)
         go_wp2
         go_roundw
         case rel => exact ⟨vs ++ [d2], a6, c6, by rw [List.length_append]; exact hlt, by rw [List.length_append]; go_num, HN, Lib.hid (by rw [List.length_append, List.map_append, HE.out]; simp [HT.out, HD2.out])⟩
         case measure => simp [intOf]; omega
        exact AllReadyH.nil
       exact AllReadyH.nil
      exact AllReadyH.nil
     refine AllReadyH.cons (i := 8) (o := ⟨some 31, _, _, _, _, _⟩) rfl (fun K hK => ?_) ?_
     ·
      go_simp
      refine hK.out _ _ ?_ (fun hHeld => ?_)
      ·
       exact HS.out _ HH3.out
      try simp only [Act.put, List.setIfInBounds_toArray, List.set_cons_succ, List.set_cons_zero]
      refine wpAnyH_ready (rs := [1]) (by kernel_rfl) (by simp) ?_
      refine AllReadyH.cons (i := 1) (o := ⟨some 24, _, _, _, _, _⟩) rfl (fun K hK => ?_) ?_
      ·
       go_simp
       refine hK.out _ _ ?_ (fun hHeld => ?_)
       ·
        exact hHeld
       try simp only [Act.put, List.setIfInBounds_toArray, List.set_cons_succ, List.set_cons_zero]
       refine wpAnyH_ready (rs := [9]) (by kernel_rfl) (by simp) ?_
       refine AllReadyH.cons (i := 9) (o := ⟨some 32, _, _, _, _, _⟩) rfl (fun K hK => ?_) ?_
       ·
        refine step_append_Own rfl (.tmp 24) (.tmp 31) 34 rfl (W.heap.size + 3) 36 _ 6 88 Tryz.underlying34 Tryz.infoVal rfl (by decide) la vs.length lc _ (by simp [go_sem]) (by exact Hown2.out.alloc _) _ 1 1 [.int .i64 d2.sort, .bool d2.on, .int .i64 d2.n, .string ⟨d2.text.toArray⟩, .slice d2.a d2.list.length d2.c, .slice d2.ka d2.keys.length d2.kc] (by simp [go_sem]; rfl) (by exact Row.new1 (by simp) rfl rfl) (by intro u hu; simp at hu; rcases hu with rfl | rfl | rfl | rfl | rfl | rfl <;> rfl) (by unfold maxLen; omega) (by omega) (by simp; omega) ?_
        intro a6 c6 w6 hown6 hg6 hbk6
        have HO6 := Lib.hid hown6
        have HG6 := Lib.hid hg6
        have HK6 := Lib.hid hbk6
        have HH6 : Hid (∀ k, k ≤ W.heap.size → w6.heap[k]? = wr.heap[k]?) := Lib.hid fun k hk => (hg6.block k (by simp; omega) (fun e => HO2.out.own.apart (by omega) e)).trans (HH3.out k hk)
        have HH7 : Hid (∀ k, k ≤ W.heap.size → (w6.setCell ⟨W.heap.size + 2, 4, none⟩ (.slice a6 (vs.length + 1) c6)).heap[k]? = wr.heap[k]?) := Lib.hid fun k hk => (Below.heap_setCell _ ⟨W.heap.size + 2, 4, none⟩ _ k (by show k ≠ W.heap.size + 2; omega)).trans (HH6.out k hk)
        have hb6 : Blk w6 (W.heap.size + 2) #[.int .i64 s, .bool o, .int .i64 n, .string ⟨t.toArray⟩, .slice la vs.length lc, .slice ka keys.length kc] 36 := (hg6.block (W.heap.size + 2) (by simp; omega) (fun e => HO2.out.own.apart (by omega) e)).trans (HO2.out.blk.alloc _)
        have hq6 := hb6.cell 4
        have hf6 := hb6.free 4
        clear hown6 hg6 hbk6 hb6
        refine hK.out _ _ ?_ (fun hHeld => ?_)
        ·
         exact HS.out _ HH6.out
        try simp only [Act.put, List.setIfInBounds_toArray, List.set_cons_succ, List.set_cons_zero]
        refine wpAnyH_take (i := 10) (oi := ⟨some 33, _, _, _, _, _⟩) (v := ?_) rfl (by kernel_rfl) (by kernel_rfl) (by kernel_rfl) (fun _ _ _ h => h) (Or.inl ⟨by rfl, ?_⟩) (by assumption) ?_; rotate_left; focus (intro w hSw; (try dsimp only at hSw); first | (go_simp; done) | (go_simp; with_reducible rfl))
        try simp only [Act.put, List.setIfInBounds_toArray, List.set_cons_succ, List.set_cons_zero]
        refine wpAnyH_ready (rs := [11]) (by kernel_rfl) (by simp) ?_
        refine AllReadyH.cons (i := 11) (o := ⟨none, _, _, _, _, _⟩) rfl (fun K hK => ?_) ?_
        ·
         go_simp
         refine hK.out _ _ ?_ (fun hHeld => ?_)
         ·
          exact HS.out _ HH7.out
         try simp only [Act.put, List.setIfInBounds_toArray, List.set_cons_succ, List.set_cons_zero]
         refine wpAnyH_done (by kernel_rfl) ?_ _
         have HN : Hid (OV 36 26 B W (w6.setCell ⟨W.heap.size + 2, 4, none⟩ (.slice a6 (vs.length + 1) c6)) (VD.mk s o n t (some ⟨eb, eo, none⟩) c ks ka kc keys) (vs ++ [d2]) a6 c6) := Lib.hid (HO1.out.push hBW HB2.out HVA2.out _ (by rw [List.flatMap_append, List.flatMap_singleton, cells_list]; exact HO6.out) HG6.out HK6.out)
         go_wp2
         go_roundw
         case rel => exact ⟨vs ++ [d2], a6, c6, by rw [List.length_append]; exact hlt, by rw [List.length_append]; go_num, HN, Lib.hid (by rw [List.length_append, List.map_append, HE.out]; simp [HT.out, HD2.out])⟩
         case measure => simp [intOf]; omega
        exact AllReadyH.nil
       exact AllReadyH.nil
      exact AllReadyH.nil
     exact AllReadyH.nil
    exact AllReadyH.nil
   ·
    have hlen : vs.length = ks.length := by omega
    have HF := Lib.hid (HO.out.fin hBW HV.out (by rw [HE.out, hlen, List.take_length]; rfl))
    have y := HO.out.blk.sixT
    obtain ⟨y0, y1, y2, y3, y4, y5⟩ := y
    have f0 := HO.out.res.free 0
    have f1 := HO.out.res.free 1
    have f2 := HO.out.res.free 2
    have f3 := HO.out.res.free 3
    have f4 := HO.out.res.free 4
    have f5 := HO.out.res.free 5
    have a4 : wr.cell? ⟨W.heap.size, 4, none⟩ = some (.slice a ks.length c) := HO.out.arg.cell 4
    have z := HO.out.res.sixT
    obtain ⟨z0, z1, z2, z3, z4, z5⟩ := z
    have hrl := HO.out.res.lt
    clear HE hlen
    go_wp2
    refine of_end (g := W.heap.size + 1) rfl (store6 HO.out.res) ?_
    exact HF.out
end Go.Proofs.YthnbeebilomchaaGreatDoor

namespace Go.Proofs.YthnbeebilomchaaGreatDoor
open Go Go.RowKit

theorem to_end {W : World} {tm : Array Value} {R : Ending → World → Prop} {g : Nat} {u0 u1 u2 u3 u4 u5 : Value} (h2 : tm.getD 2 undef = .pointer (some ⟨g, 0, none⟩)) (hB : Blk W g #[u0, u1, u2, u3, u4, u5] 26)
    (hR : R (.returned (.agg #[u0, u1, u2, u3, u4, u5])) W) : bodyPost Tryz.prog Tryz.f12 R .ret { tmps := tm, defers := [] } W := by
  obtain ⟨d0, d1, d2, d3, d4, d5⟩ := hB.sixT
  rw [Array.getD_eq_getD_getElem?] at h2
  refine bodyPost_ret (v := .agg #[u0, u1, u2, u3, u4, u5]) ?_ rfl hR
  simp [results, Tryz.results12, go_sem, h2, d0, d1, d2, d3, d4, d5]
set_option maxHeartbeats 8000000 in
theorem to_any (d : VD) : ∀ (B : Nat) (W : World), B ≤ W.heap.size → ValAt W (fun k => k < B) d → sizeV d.v ≤ 1048576 → Calls Tryz.prog 12 #[d.val] W (OfE B W d.v) := by
 induction d using VD.ind with
 | h s o n t a c ks ka kc keys ih =>
  intro B W hBW h hw
  have hks : ks.length ≤ 1048576 := by
   have h1 := sizeV_eq (.mk s o n t a c ks ka kc keys)
   have h2 := sizesV_len (ks.map VD.v)
   simp only [VD.list, List.length_map] at h1 h2
   omega
  have HV := Lib.hid h
  have HI : Hid (∀ x ∈ ks, ∀ V, W.heap.size ≤ V.heap.size → ValAt V (fun k => k < B) x → Calls Tryz.prog 12 #[x.val] V (OfE B V x.v)) := Lib.hid fun x hx V hV hv => ih x hx B V (by omega) hv (by
   have h1 := sizeV_eq (.mk s o n t a c ks ka kc keys)
   have h2 := sizesV_mem (l := ks.map VD.v) (List.mem_map_of_mem hx)
   simp only [VD.list] at h1
   omega)
  clear ih h hw
  have hst := OV.start 26 36 B W (.mk s o n t a c ks ka kc keys)
  unfold box3V at hst
  simp only [VD.sort, VD.on, VD.n, VD.text, VD.a, VD.list, VD.c, VD.ka, VD.keys, VD.kc] at hst
  have HST := Lib.hid hst
  clear hst
  unfold VD.val VD.cells strV
  go_enter Tryz.func12, Tryz.ntmps12
  go_wp2_with fail
  go_loopw [4] (fun i wr => ∃ (vs : List VD) (la : Option Addr) (lc : Nat), vs.length ≤ ks.length ∧ i = .int .i64 vs.length ∧ Hid (OV 26 36 B W wr (VD.mk s o n t a c ks ka kc keys) vs la lc) ∧ Hid (vs.map VD.v = (ks.take vs.length).map VD.v)) (fun i _ => ks.length - (intOf i).toNat)
  case atStart => exact ⟨[], none, 0, Nat.zero_le _, rfl, HST, Lib.hid rfl⟩
  case round =>
   obtain ⟨vs, la, lc, hq, rfl, HO, HE⟩ := hrel
   have hwr := HO.out.blk.lt
   by_cases hlt : vs.length < ks.length
   ·
    obtain ⟨x, hx⟩ := get_some hlt
    have hxm := List.mem_of_getElem? hx
    have hvr := (HV.out.ext HO.out.below)
    obtain ⟨eb, eo, ha, c0, c1, c2, c3, c4, c5⟩ := val_at hvr.row hx
    simp only [VD.a] at ha
    subst ha
    unfold strV at c3
    have hebB : eb < B := hvr.blk eb (by simp only [VD.list]; omega) rfl
    have a4 : wr.cell? ⟨W.heap.size, 4, none⟩ = some (.slice (some ⟨eb, eo, none⟩) ks.length c) := HO.out.arg.cell 4
    have HS : Hid (∀ w' : World, (∀ k, k ≤ W.heap.size → w'.heap[k]? = wr.heap[k]?) → w'.cell? ⟨W.heap.size, 4, none⟩ = some (.slice (some ⟨eb, eo, none⟩) ks.length c) ∧ w'.cell? ⟨eb, eo + vs.length * 6, none⟩ = some (.int .i64 x.sort) ∧ w'.cell? ⟨eb, eo + vs.length * 6 + 1, none⟩ = some (.bool x.on) ∧ w'.cell? ⟨eb, eo + vs.length * 6 + 2, none⟩ = some (.int .i64 x.n) ∧ w'.cell? ⟨eb, eo + vs.length * 6 + 3, none⟩ = some (.string ⟨x.text.toArray⟩) ∧ w'.cell? ⟨eb, eo + vs.length * 6 + 4, none⟩ = some (.slice x.a x.list.length x.c) ∧ w'.cell? ⟨eb, eo + vs.length * 6 + 5, none⟩ = some (.slice x.ka x.keys.length x.kc)) := Lib.hid fun w' hw => by
     have k : ∀ g j, g ≤ W.heap.size → w'.cell? ⟨g, j, none⟩ = wr.cell? ⟨g, j, none⟩ := fun g j hg => World.cell?_of_block (w := wr) (a := ⟨g, j, none⟩) (hw g hg)
     exact ⟨(k _ _ (Nat.le_refl _)).trans a4, (k _ _ (by omega)).trans c0, (k _ _ (by omega)).trans c1, (k _ _ (by omega)).trans c2, (k _ _ (by omega)).trans c3, (k _ _ (by omega)).trans c4, (k _ _ (by omega)).trans c5⟩
    have HT : Hid ((ks.take (vs.length + 1)).map VD.v = (ks.take vs.length).map VD.v ++ [x.v]) := Lib.hid (by rw [List.take_add_one, hx, Option.toList_some, List.map_append]; rfl)
    have hdr : Below wr.heap.size wr wr.drew := (Below.refl _ _).drew
    have HO1 := Lib.hid (HO.out.ext hdr)
    have hc := HI.out x hxm wr.drew HO1.out.below.size ((hvr.kid x hxm).ext hdr)
    rw [VD.val6] at hc
    have Hc := Lib.hid hc
    have hq0 := HO1.out.blk.cell 4
    clear hdr hc hx hxm hvr hebB
    go_upto_region 5 with (fail)
    refine wp_region_held_drew (S := fun w' => w'.cell? ⟨W.heap.size, 4, none⟩ = some (.slice (some ⟨eb, eo, none⟩) ks.length c) ∧ w'.cell? ⟨eb, eo + vs.length * 6, none⟩ = some (.int .i64 x.sort) ∧ w'.cell? ⟨eb, eo + vs.length * 6 + 1, none⟩ = some (.bool x.on) ∧ w'.cell? ⟨eb, eo + vs.length * 6 + 2, none⟩ = some (.int .i64 x.n) ∧ w'.cell? ⟨eb, eo + vs.length * 6 + 3, none⟩ = some (.string ⟨x.text.toArray⟩) ∧ w'.cell? ⟨eb, eo + vs.length * 6 + 4, none⟩ = some (.slice x.a x.list.length x.c) ∧ w'.cell? ⟨eb, eo + vs.length * 6 + 5, none⟩ = some (.slice x.ka x.keys.length x.kc)) (by kernel_rfl) ?_ (fun hHeld => ?_)
    ·
     exact HS.out _ (fun _ _ => rfl)
    refine wpAnyH_take (i := 0) (oi := ⟨some 23, _, _, _, _, _⟩) (v := ?_) rfl (by kernel_rfl) (by kernel_rfl) (by kernel_rfl) (fun _ _ _ h => h) (Or.inl ⟨by rfl, ?_⟩) (by assumption) ?_; rotate_left; focus (intro w hSw; (try dsimp only at hSw); first | (go_simp; done) | (go_simp; with_reducible rfl))
    try simp only [Act.put, List.setIfInBounds_toArray, List.set_cons_succ, List.set_cons_zero]
    refine wpAnyH_take (i := 2) (oi := ⟨some 25, _, _, _, _, _⟩) (v := ?_) rfl (by kernel_rfl) (by kernel_rfl) (by kernel_rfl) (fun _ _ _ h => h) (Or.inl ⟨by rfl, ?_⟩) (by assumption) ?_; rotate_left; focus (intro w hSw; (try dsimp only at hSw); first | (go_simp; done) | (go_simp; with_reducible rfl))
    try simp only [Act.put, List.setIfInBounds_toArray, List.set_cons_succ, List.set_cons_zero]
    refine wpAnyH_take (i := 3) (oi := ⟨some 26, _, _, _, _, _⟩) (v := ?_) rfl (by kernel_rfl) (by kernel_rfl) (by kernel_rfl) (fun _ _ _ h => h) (Or.inl ⟨by rfl, ?_⟩) (by assumption) ?_; rotate_left; focus (intro w hSw; (try dsimp only at hSw); obtain ⟨s4, s0, s1, s2, s3, s5, s6⟩ := hSw; first | (go_simp; done) | (go_simp; with_reducible rfl))
    try simp only [Act.put, List.setIfInBounds_toArray, List.set_cons_succ, List.set_cons_zero]
    refine wpAnyH_take (i := 4) (oi := ⟨some 27, _, _, _, _, _⟩) (v := ?_) rfl (by kernel_rfl) (by kernel_rfl) (by kernel_rfl) (fun _ _ _ h => h) (Or.inl ⟨by rfl, ?_⟩) (by assumption) ?_; rotate_left; focus (intro w hSw; (try dsimp only at hSw); first | (go_simp; done) | (go_simp; with_reducible rfl))
    try simp only [Act.put, List.setIfInBounds_toArray, List.set_cons_succ, List.set_cons_zero]
    refine wpAnyH_take (i := 5) (oi := ⟨some 28, _, _, _, _, _⟩) (v := ?_) rfl (by kernel_rfl) (by kernel_rfl) (by kernel_rfl) (fun _ _ _ h => h) (Or.inl ⟨by rfl, ?_⟩) (by assumption) ?_; rotate_left; focus (intro w hSw; (try dsimp only at hSw); first | (go_simp; done) | (go_simp; with_reducible rfl))
    try simp only [Act.put, List.setIfInBounds_toArray, List.set_cons_succ, List.set_cons_zero]
    refine wpAnyH_take (i := 6) (oi := ⟨some 29, _, _, _, _, _⟩) (v := ?_) rfl (by kernel_rfl) (by kernel_rfl) (by kernel_rfl) (fun _ _ _ h => h) (Or.inl ⟨by rfl, ?_⟩) (by assumption) ?_; rotate_left; focus (intro w hSw; (try dsimp only at hSw); obtain ⟨s4, s0, s1, s2, s3, s5, s6⟩ := hSw; first | (go_simp; done) | (go_simp; with_reducible rfl))
    try simp only [Act.put, List.setIfInBounds_toArray, List.set_cons_succ, List.set_cons_zero]
    refine wpAnyH_ready (rs := [1, 7]) (by kernel_rfl) (by simp) ?_
    refine AllReadyH.cons (i := 1) (o := ⟨some 24, _, _, _, _, _⟩) rfl (fun K hK => ?_) ?_
    ·
     go_simp
     refine hK.out _ _ ?_ (fun hHeld => ?_)
     ·
      exact hHeld
     try simp only [Act.put, List.setIfInBounds_toArray, List.set_cons_succ, List.set_cons_zero]
     refine wpAnyH_ready (rs := [7]) (by kernel_rfl) (by simp) ?_
     refine AllReadyH.cons (i := 7) (o := ⟨some 30, _, _, _, _, _⟩) rfl (fun K hK => ?_) ?_
     ·
      go_simp
      refine Hc.out.mono ?_
      rintro e w2 ⟨d2, rfl, hd2, hva2, hb2⟩
      have HO2 := Lib.hid (HO1.out.ext hb2)
      have Hown2 := Lib.hid HO2.out.own
      have HB2 := Lib.hid hb2
      have HVA2 := Lib.hid hva2
      have HD2 := Lib.hid hd2
      have hws2 := HO2.out.blk.lt
      have hq2 := HO2.out.blk.cell 4
      have HH2 : Hid (∀ k, k ≤ W.heap.size → w2.heap[k]? = wr.heap[k]?) := Lib.hid fun k hk => hb2.block k (show k < wr.heap.size by omega)
      have hq3 := (HO2.out.blk.alloc (.cells #[.int .i64 d2.sort, .bool d2.on, .int .i64 d2.n, .string ⟨d2.text.toArray⟩, .slice d2.a d2.list.length d2.c, .slice d2.ka d2.keys.length d2.kc] 26)).cell 4
      have HH3 : Hid (∀ k, k ≤ W.heap.size → (w2.alloc (.cells #[.int .i64 d2.sort, .bool d2.on, .int .i64 d2.n, .string ⟨d2.text.toArray⟩, .slice d2.a d2.list.length d2.c, .slice d2.ka d2.keys.length d2.kc] 26)).heap[k]? = wr.heap[k]?) := Lib.hid fun k hk => (Below.heap_alloc _ _ k (by omega)).trans (HH2.out k hk)
      clear hb2 hva2 hd2
      refine hK.out _ _ ?_ (fun hHeld => ?_)
      ·
       exact HS.out _ HH2.out
      try simp only [Act.put, List.setIfInBounds_toArray, List.set_cons_succ, List.set_cons_zero]
      refine wpAnyH_ready (rs := [8]) (by kernel_rfl) (by simp) ?_
      refine AllReadyH.cons (i := 8) (o := ⟨some 31, _, _, _, _, _⟩) rfl (fun K hK => ?_) ?_
      ·
       go_simp
       refine hK.out _ _ ?_ (fun hHeld => ?_)
       ·
        exact HS.out _ HH3.out
       try simp only [Act.put, List.setIfInBounds_toArray, List.set_cons_succ, List.set_cons_zero]
       refine wpAnyH_ready (rs := [9]) (by kernel_rfl) (by simp) ?_
       refine AllReadyH.cons (i := 9) (o := ⟨some 32, _, _, _, _, _⟩) rfl (fun K hK => ?_) ?_
       ·
        refine step_append_Own rfl (.tmp 24) (.tmp 31) 23 rfl (W.heap.size + 3) 26 _ 6 88 Tryz.underlying23 Tryz.infoDoc rfl (by decide) la vs.length lc _ (by simp [go_sem]) (by exact Hown2.out.alloc _) _ 1 1 [.int .i64 d2.sort, .bool d2.on, .int .i64 d2.n, .string ⟨d2.text.toArray⟩, .slice d2.a d2.list.length d2.c, .slice d2.ka d2.keys.length d2.kc] (by simp [go_sem]; rfl) (by exact Row.new1 (by simp) rfl rfl) (by intro u hu; simp at hu; rcases hu with rfl | rfl | rfl | rfl | rfl | rfl <;> rfl) (by unfold maxLen; omega) (by omega) (by simp; omega) ?_
        intro a6 c6 w6 hown6 hg6 hbk6
        have HO6 := Lib.hid hown6
        have HG6 := Lib.hid hg6
        have HK6 := Lib.hid hbk6
        have HH6 : Hid (∀ k, k ≤ W.heap.size → w6.heap[k]? = wr.heap[k]?) := Lib.hid fun k hk => (hg6.block k (by simp; omega) (fun e => HO2.out.own.apart (by omega) e)).trans (HH3.out k hk)
        have HH7 : Hid (∀ k, k ≤ W.heap.size → (w6.setCell ⟨W.heap.size + 2, 4, none⟩ (.slice a6 (vs.length + 1) c6)).heap[k]? = wr.heap[k]?) := Lib.hid fun k hk => (Below.heap_setCell _ ⟨W.heap.size + 2, 4, none⟩ _ k (by show k ≠ W.heap.size + 2; omega)).trans (HH6.out k hk)
        have hb6 : Blk w6 (W.heap.size + 2) #[.int .i64 s, .bool o, .int .i64 n, .string ⟨t.toArray⟩, .slice la vs.length lc, .slice ka keys.length kc] 26 := (hg6.block (W.heap.size + 2) (by simp; omega) (fun e => HO2.out.own.apart (by omega) e)).trans (HO2.out.blk.alloc _)
        have hq6 := hb6.cell 4
        have hf6 := hb6.free 4
        clear hown6 hg6 hbk6 hb6
        refine hK.out _ _ ?_ (fun hHeld => ?_)
        ·
         exact HS.out _ HH6.out
        try simp only [Act.put, List.setIfInBounds_toArray, List.set_cons_succ, List.set_cons_zero]
        refine wpAnyH_take (i := 10) (oi := ⟨some 33, _, _, _, _, _⟩) (v := ?_) rfl (by kernel_rfl) (by kernel_rfl) (by kernel_rfl) (fun _ _ _ h => h) (Or.inl ⟨by rfl, ?_⟩) (by assumption) ?_; rotate_left; focus (intro w hSw; (try dsimp only at hSw); first | (go_simp; done) | (go_simp; with_reducible rfl))
        try simp only [Act.put, List.setIfInBounds_toArray, List.set_cons_succ, List.set_cons_zero]
        refine wpAnyH_ready (rs := [11]) (by kernel_rfl) (by simp) ?_
        refine AllReadyH.cons (i := 11) (o := ⟨none, _, _, _, _, _⟩) rfl (fun K hK => ?_) ?_
        ·
         go_simp
         refine hK.out _ _ ?_ (fun hHeld => ?_)
         ·
          exact HS.out _ HH7.out
         try simp only [Act.put, List.setIfInBounds_toArray, List.set_cons_succ, List.set_cons_zero]
         refine wpAnyH_done (by kernel_rfl) ?_ _
         have HN : Hid (OV 26 36 B W (w6.setCell ⟨W.heap.size + 2, 4, none⟩ (.slice a6 (vs.length + 1) c6)) (VD.mk s o n t (some ⟨eb, eo, none⟩) c ks ka kc keys) (vs ++ [d2]) a6 c6) := Lib.hid (HO1.out.push hBW HB2.out HVA2.out _ (by rw [List.flatMap_append, List.flatMap_singleton, cells_list]; exact HO6.out) HG6.out HK6.out)
         go_wp2
         go_roundw
         case rel => exact ⟨vs ++ [d2], a6, c6, by rw [List.length_append]; exact hlt, by rw [List.length_append]; go_num, HN, Lib.hid (by rw [List.length_append, List.map_append, HE.out]; simp [HT.out, HD2.out])⟩
         case measure => simp [intOf]; omega
        exact AllReadyH.nil
       exact AllReadyH.nil
      exact AllReadyH.nil
     exact AllReadyH.nil
    refine AllReadyH.cons (i := 7) (o := ⟨some 30, _, _, _, _, _⟩) rfl (fun K hK => ?_) ?_
    ·
     go_simp
     refine Hc.out.mono ?_
     rintro e w2 ⟨d2, rfl, hd2, hva2, hb2⟩
     have HO2 := Lib.hid (HO1.out.ext hb2)
     have Hown2 := Lib.hid HO2.out.own
     have HB2 := Lib.hid hb2
     have HVA2 := Lib.hid hva2
     have HD2 := Lib.hid hd2
     have hws2 := HO2.out.blk.lt
     have hq2 := HO2.out.blk.cell 4
     have HH2 : Hid (∀ k, k ≤ W.heap.size → w2.heap[k]? = wr.heap[k]?) := Lib.hid fun k hk => hb2.block k (show k < wr.heap.size by omega)
     have hq3 := (HO2.out.blk.alloc (.cells #[.int .i64 d2.sort, .bool d2.on, .int .i64 d2.n, .string ⟨d2.text.toArray⟩, .slice d2.a d2.list.length d2.c, .slice d2.ka d2.keys.length d2.kc] 26)).cell 4
     have HH3 : Hid (∀ k, k ≤ W.heap.size → (w2.alloc (.cells #[.int .i64 d2.sort, .bool d2.on, .int .i64 d2.n, .string ⟨d2.text.toArray⟩, .slice d2.a d2.list.length d2.c, .slice d2.ka d2.keys.length d2.kc] 26)).heap[k]? = wr.heap[k]?) := Lib.hid fun k hk => (Below.heap_alloc _ _ k (by omega)).trans (HH2.out k hk)
     clear hb2 hva2 hd2
     refine hK.out _ _ ?_ (fun hHeld => ?_)
     ·
      exact HS.out _ HH2.out
     try simp only [Act.put, List.setIfInBounds_toArray, List.set_cons_succ, List.set_cons_zero]
     refine wpAnyH_ready (rs := [1, 8]) (by kernel_rfl) (by simp) ?_
     refine AllReadyH.cons (i := 1) (o := ⟨some 24, _, _, _, _, _⟩) rfl (fun K hK => ?_) ?_
     ·
      go_simp
      refine hK.out _ _ ?_ (fun hHeld => ?_)
      ·
       exact hHeld
      try simp only [Act.put, List.setIfInBounds_toArray, List.set_cons_succ, List.set_cons_zero]
      refine wpAnyH_ready (rs := [8]) (by kernel_rfl) (by simp) ?_
      refine AllReadyH.cons (i := 8) (o := ⟨some 31, _, _, _, _, _⟩) rfl (fun K hK => ?_) ?_
      ·
       go_simp
       refine hK.out _ _ ?_ (fun hHeld => ?_)
       ·
        exact HS.out _ HH3.out
       try simp only [Act.put, List.setIfInBounds_toArray, List.set_cons_succ, List.set_cons_zero]
       refine wpAnyH_ready (rs := [9]) (by kernel_rfl) (by simp) ?_
       refine AllReadyH.cons (i := 9) (o := ⟨some 32, _, _, _, _, _⟩) rfl (fun K hK => ?_) ?_
       ·
        refine step_append_Own rfl (.tmp 24) (.tmp 31) 23 rfl (W.heap.size + 3) 26 _ 6 88 Tryz.underlying23 Tryz.infoDoc rfl (by decide) la vs.length lc _ (by simp [go_sem]) (by exact Hown2.out.alloc _) _ 1 1 [.int .i64 d2.sort, .bool d2.on, .int .i64 d2.n, .string ⟨d2.text.toArray⟩, .slice d2.a d2.list.length d2.c, .slice d2.ka d2.keys.length d2.kc] (by simp [go_sem]; rfl) (by exact Row.new1 (by simp) rfl rfl) (by intro u hu; simp at hu; rcases hu with rfl | rfl | rfl | rfl | rfl | rfl <;> rfl) (by unfold maxLen; omega) (by omega) (by simp; omega) ?_
        intro a6 c6 w6 hown6 hg6 hbk6
        have HO6 := Lib.hid hown6
        have HG6 := Lib.hid hg6
        have HK6 := Lib.hid hbk6
        have HH6 : Hid (∀ k, k ≤ W.heap.size → w6.heap[k]? = wr.heap[k]?) := Lib.hid fun k hk => (hg6.block k (by simp; omega) (fun e => HO2.out.own.apart (by omega) e)).trans (HH3.out k hk)
        have HH7 : Hid (∀ k, k ≤ W.heap.size → (w6.setCell ⟨W.heap.size + 2, 4, none⟩ (.slice a6 (vs.length + 1) c6)).heap[k]? = wr.heap[k]?) := Lib.hid fun k hk => (Below.heap_setCell _ ⟨W.heap.size + 2, 4, none⟩ _ k (by show k ≠ W.heap.size + 2; omega)).trans (HH6.out k hk)
        have hb6 : Blk w6 (W.heap.size + 2) #[.int .i64 s, .bool o, .int .i64 n, .string ⟨t.toArray⟩, .slice la vs.length lc, .slice ka keys.length kc] 26 := (hg6.block (W.heap.size + 2) (by simp; omega) (fun e => HO2.out.own.apart (by omega) e)).trans (HO2.out.blk.alloc _)
        have hq6 := hb6.cell 4
        have hf6 := hb6.free 4
        clear hown6 hg6 hbk6 hb6
        refine hK.out _ _ ?_ (fun hHeld => ?_)
        ·
         exact HS.out _ HH6.out
        try simp only [Act.put, List.setIfInBounds_toArray, List.set_cons_succ, List.set_cons_zero]
        refine wpAnyH_take (i := 10) (oi := ⟨some 33, _, _, _, _, _⟩) (v := ?_) rfl (by kernel_rfl) (by kernel_rfl) (by kernel_rfl) (fun _ _ _ h => h) (Or.inl ⟨by rfl, ?_⟩) (by assumption) ?_; rotate_left; focus (intro w hSw; (try dsimp only at hSw); first | (go_simp; done) | (go_simp; with_reducible rfl))
        try simp only [Act.put, List.setIfInBounds_toArray, List.set_cons_succ, List.set_cons_zero]
        refine wpAnyH_ready (rs := [11]) (by kernel_rfl) (by simp) ?_
        refine AllReadyH.cons (i := 11) (o := ⟨none, _, _, _, _, _⟩) rfl (fun K hK => ?_) ?_
        ·
         go_simp
         refine hK.out _ _ ?_ (fun hHeld => ?_)
         ·
          exact HS.out _ HH7.out
         try simp only [Act.put, List.setIfInBounds_toArray, List.set_cons_succ, List.set_cons_zero]
         refine wpAnyH_done (by kernel_rfl) ?_ _
         have HN : Hid (OV 26 36 B W (w6.setCell ⟨W.heap.size + 2, 4, none⟩ (.slice a6 (vs.length + 1) c6)) (VD.mk s o n t (some ⟨eb, eo, none⟩) c ks ka kc keys) (vs ++ [d2]) a6 c6) := Lib.hid (HO1.out.push hBW HB2.out HVA2.out _ (by rw [List.flatMap_append, List.flatMap_singleton, cells_list]; exact HO6.out) HG6.out HK6.out)
         go_wp2
         go_roundw
         case rel => exact ⟨vs ++ [d2], a6, c6, by rw [List.length_append]; exact hlt, by rw [List.length_append]; go_num, HN, Lib.hid (by rw [List.length_append, List.map_append, HE.out]; simp [HT.out, HD2.out])⟩
         case measure => simp [intOf]; omega
        exact AllReadyH.nil
       exact AllReadyH.nil
      exact AllReadyH.nil
     refine AllReadyH.cons (i := 8) (o := ⟨some 31, _, _, _, _, _⟩) rfl (fun K hK => ?_) ?_
     ·
      go_simp
      refine hK.out _ _ ?_ (fun hHeld => ?_)
      ·
       exact HS.out _ HH3.out
      try simp only [Act.put, List.setIfInBounds_toArray, List.set_cons_succ, List.set_cons_zero]
      refine wpAnyH_ready (rs := [1]) (by kernel_rfl) (by simp) ?_
      refine AllReadyH.cons (i := 1) (o := ⟨some 24, _, _, _, _, _⟩) rfl (fun K hK => ?_) ?_
      ·
       go_simp
       refine hK.out _ _ ?_ (fun hHeld => ?_)
       ·
        exact hHeld
       try simp only [Act.put, List.setIfInBounds_toArray, List.set_cons_succ, List.set_cons_zero]
       refine wpAnyH_ready (rs := [9]) (by kernel_rfl) (by simp) ?_
       refine AllReadyH.cons (i := 9) (o := ⟨some 32, _, _, _, _, _⟩) rfl (fun K hK => ?_) ?_
       ·
        refine step_append_Own rfl (.tmp 24) (.tmp 31) 23 rfl (W.heap.size + 3) 26 _ 6 88 Tryz.underlying23 Tryz.infoDoc rfl (by decide) la vs.length lc _ (by simp [go_sem]) (by exact Hown2.out.alloc _) _ 1 1 [.int .i64 d2.sort, .bool d2.on, .int .i64 d2.n, .string ⟨d2.text.toArray⟩, .slice d2.a d2.list.length d2.c, .slice d2.ka d2.keys.length d2.kc] (by simp [go_sem]; rfl) (by exact Row.new1 (by simp) rfl rfl) (by intro u hu; simp at hu; rcases hu with rfl | rfl | rfl | rfl | rfl | rfl <;> rfl) (by unfold maxLen; omega) (by omega) (by simp; omega) ?_
        intro a6 c6 w6 hown6 hg6 hbk6
        have HO6 := Lib.hid hown6
        have HG6 := Lib.hid hg6
        have HK6 := Lib.hid hbk6
        have HH6 : Hid (∀ k, k ≤ W.heap.size → w6.heap[k]? = wr.heap[k]?) := Lib.hid fun k hk => (hg6.block k (by simp; omega) (fun e => HO2.out.own.apart (by omega) e)).trans (HH3.out k hk)
        have HH7 : Hid (∀ k, k ≤ W.heap.size → (w6.setCell ⟨W.heap.size + 2, 4, none⟩ (.slice a6 (vs.length + 1) c6)).heap[k]? = wr.heap[k]?) := Lib.hid fun k hk => (Below.heap_setCell _ ⟨W.heap.size + 2, 4, none⟩ _ k (by show k ≠ W.heap.size + 2; omega)).trans (HH6.out k hk)
        have hb6 : Blk w6 (W.heap.size + 2) #[.int .i64 s, .bool o, .int .i64 n, .string ⟨t.toArray⟩, .slice la vs.length lc, .slice ka keys.length kc] 26 := (hg6.block (W.heap.size + 2) (by simp; omega) (fun e => HO2.out.own.apart (by omega) e)).trans (HO2.out.blk.alloc _)
        have hq6 := hb6.cell 4
        have hf6 := hb6.free 4
        clear hown6 hg6 hbk6 hb6
        refine hK.out _ _ ?_ (fun hHeld => ?_)
        ·
         exact HS.out _ HH6.out
        try simp only [Act.put, List.setIfInBounds_toArray, List.set_cons_succ, List.set_cons_zero]
        refine wpAnyH_take (i := 10) (oi := ⟨some 33, _, _, _, _, _⟩) (v := ?_) rfl (by kernel_rfl) (by kernel_rfl) (by kernel_rfl) (fun _ _ _ h => h) (Or.inl ⟨by rfl, ?_⟩) (by assumption) ?_; rotate_left; focus (intro w hSw; (try dsimp only at hSw); first | (go_simp; done) | (go_simp; with_reducible rfl))
        try simp only [Act.put, List.setIfInBounds_toArray, List.set_cons_succ, List.set_cons_zero]
        refine wpAnyH_ready (rs := [11]) (by kernel_rfl) (by simp) ?_
        refine AllReadyH.cons (i := 11) (o := ⟨none, _, _, _, _, _⟩) rfl (fun K hK => ?_) ?_
        ·
         go_simp
         refine hK.out _ _ ?_ (fun hHeld => ?_)
         ·
          exact HS.out _ HH7.out
         try simp only [Act.put, List.setIfInBounds_toArray, List.set_cons_succ, List.set_cons_zero]
         refine wpAnyH_done (by kernel_rfl) ?_ _
         have HN : Hid (OV 26 36 B W (w6.setCell ⟨W.heap.size + 2, 4, none⟩ (.slice a6 (vs.length + 1) c6)) (VD.mk s o n t (some ⟨eb, eo, none⟩) c ks ka kc keys) (vs ++ [d2]) a6 c6) := Lib.hid (HO1.out.push hBW HB2.out HVA2.out _ (by rw [List.flatMap_append, List.flatMap_singleton, cells_list]; exact HO6.out) HG6.out HK6.out)
         go_wp2
         go_roundw
         case rel => exact ⟨vs ++ [d2], a6, c6, by rw [List.length_append]; exact hlt, by rw [List.length_append]; go_num, HN, Lib.hid (by rw [List.length_append, List.map_append, HE.out]; simp [HT.out, HD2.out])⟩
         case measure => simp [intOf]; omega
        exact AllReadyH.nil
       exact AllReadyH.nil
      exact AllReadyH.nil
     exact AllReadyH.nil
    exact AllReadyH.nil
   ·
    have hlen : vs.length = ks.length := by omega
    have HF := Lib.hid (HO.out.fin hBW HV.out (by rw [HE.out, hlen, List.take_length]; rfl))
    have y := HO.out.blk.sixT
    obtain ⟨y0, y1, y2, y3, y4, y5⟩ := y
    have f0 := HO.out.res.free 0
    have f1 := HO.out.res.free 1
    have f2 := HO.out.res.free 2
    have f3 := HO.out.res.free 3
    have f4 := HO.out.res.free 4
    have f5 := HO.out.res.free 5
    have a4 : wr.cell? ⟨W.heap.size, 4, none⟩ = some (.slice a ks.length c) := HO.out.arg.cell 4
    have z := HO.out.res.sixT
    obtain ⟨z0, z1, z2, z3, z4, z5⟩ := z
    have hrl := HO.out.res.lt
    clear HE hlen
    go_wp2
    refine to_end (g := W.heap.size + 1) rfl (store6 HO.out.res) ?_
    exact HF.out
end Go.Proofs.YthnbeebilomchaaGreatDoor

namespace Go.Proofs.YthnbeebilomchaaGreatDoor
open Go Go.RowKit

structure AB (w W : World) (d f : VD) : Prop where
  one : Blk W w.heap.size #[.int .i64 d.sort, .bool d.on, .int .i64 d.n, .string ⟨d.text.toArray⟩, .slice d.a d.list.length d.c, .slice d.ka d.keys.length d.kc] 26
  two : Blk W (w.heap.size + 1) #[.int .i64 f.sort, .bool f.on, .int .i64 f.n, .string ⟨f.text.toArray⟩, .slice f.a f.list.length f.c, .slice f.ka f.keys.length f.kc] 26
  glob : Glob W
  va : ValAt W (fun k => k < w.heap.size) d
  vb : ValAt W (fun k => k < w.heap.size) f
  below : Below w.heap.size w W
  lo : 8 ≤ w.heap.size
theorem AB.sz {w W : World} {d f : VD} (h : AB w W d f) : w.heap.size + 2 ≤ W.heap.size := h.two.lt
theorem AB.keep {w W W' : World} {d f : VD} (h : AB w W d f) {B : Nat} (hb : Below B W W') (hB : w.heap.size + 2 ≤ B) : AB w W' d f :=
  ⟨h.one.below hb (by omega), h.two.below hb (by omega), h.glob.below hb (by have := h.lo; omega), h.va.congr fun g hg _ => hb.block g (by omega), h.vb.congr fun g hg _ => hb.block g (by omega), h.below.trans (hb.mono (by omega)), h.lo⟩
theorem AB.ext {w W W' : World} {d f : VD} (h : AB w W d f) (hb : Below W.heap.size W W') : AB w W' d f := h.keep hb h.sz
theorem AB.start {w : World} {d f : VD} (hG : Glob w) (hd : ValAt w (fun _ => True) d) (hf : ValAt w (fun _ => True) f) :
    AB w ((w.alloc (.cells #[.int .i64 d.sort, .bool d.on, .int .i64 d.n, .string ⟨d.text.toArray⟩, .slice d.a d.list.length d.c, .slice d.ka d.keys.length d.kc] 26)).alloc (.cells #[.int .i64 f.sort, .bool f.on, .int .i64 f.n, .string ⟨f.text.toArray⟩, .slice f.a f.list.length f.c, .slice f.ka f.keys.length f.kc] 26)) d f := by
  have hb : Below w.heap.size w ((w.alloc (.cells #[.int .i64 d.sort, .bool d.on, .int .i64 d.n, .string ⟨d.text.toArray⟩, .slice d.a d.list.length d.c, .slice d.ka d.keys.length d.kc] 26)).alloc (.cells #[.int .i64 f.sort, .bool f.on, .int .i64 f.n, .string ⟨f.text.toArray⟩, .slice f.a f.list.length f.c, .slice f.ka f.keys.length f.kc] 26)) := (below_a1 w _).alloc (by simp) _
  exact ⟨(Blk.new rfl).alloc _, Blk.new (by simp), hG.ext hb, (hd.mono fun _ _ h => h).ext hb, (hf.mono fun _ _ h => h).ext hb, hb, hG.size⟩
structure BoxA (w W : World) (g : Nat) (v : V) : Prop where
  lo : w.heap.size + 2 ≤ g
  ex : ∃ y : VD, y.v = v ∧ Blk W g #[.int .i64 y.sort, .bool y.on, .int .i64 y.n, .string ⟨y.text.toArray⟩, .slice y.a y.list.length y.c, .slice y.ka y.keys.length y.kc] 36 ∧ ValAt W (fun k => k ≠ g) y
theorem BoxA.ext {w W W' : World} {g : Nat} {v : V} (h : BoxA w W g v) (hb : Below W.heap.size W W') : BoxA w W' g v := by
  obtain ⟨y, h1, h2, h3⟩ := h.ex
  exact ⟨h.lo, y, h1, h2.ext hb, h3.ext hb⟩
def CopyS (x : Value) (v : V) (P : Nat → Prop) (W : World) : Prop := ∃ y : VD, x = .agg #[.int .i64 y.sort, .bool y.on, .int .i64 y.n, .string ⟨y.text.toArray⟩, .slice y.a y.list.length y.c, .slice y.ka y.keys.length y.kc] ∧ y.v = v ∧ ValAt W P y
theorem CopyS.ext {x : Value} {v : V} {P : Nat → Prop} {W W' : World} (h : CopyS x v P W) (hb : Below W.heap.size W W') : CopyS x v P W' := by
  obtain ⟨y, h1, h2, h3⟩ := h
  exact ⟨y, h1, h2, h3.ext hb⟩
theorem CopyS.mono {x : Value} {v : V} {P Q : Nat → Prop} {W : World} (h : CopyS x v P W) (hp : ∀ g, P g → g < W.heap.size → Q g) : CopyS x v Q W := by
  obtain ⟨y, h1, h2, h3⟩ := h
  exact ⟨y, h1, h2, h3.mono hp⟩
def NB (D : Nat → Bool) (s : Nat → Value) (g : Nat) : Prop := D 5 = true → s 7 ≠ .pointer (some ⟨g, 0, none⟩)
structure A3 (w : World) (d f : VD) (D : Nat → Bool) (s : Nat → Value) (W : World) : Prop where
  ab : AB w W d f
  c29 : D 1 = true → D 6 = false → CopyS (s 29) d.v (NB D s) W
  c31 : D 3 = true → D 6 = false → CopyS (s 31) f.v (NB D s) W
  c32 : D 4 = true → D 6 = false → CopyS (s 32) (replyW d.v f.v) (NB D s) W
  b0 : D 5 = true → ∃ g, s 7 = .pointer (some ⟨g, 0, none⟩) ∧ w.heap.size + 2 ≤ g ∧ (D 6 = false → Blk W g #[.int .i64 0, .bool false, .int .i64 0, .string { data := #[] }, .slice none 0 0, .slice none 0 0] 36) ∧ (D 6 = true → BoxA w W g (replyW d.v f.v))
section
variable {w : World} {d f : VD} {D : Nat → Bool} {s : Nat → Value} {W W' : World}
theorem A3.start (h : AB w W d f) (d1 : D 1 = false) (d3 : D 3 = false) (d4 : D 4 = false) (d5 : D 5 = false) : A3 w d f D s W :=
  ⟨h, fun e => (by rw [d1] at e; cases e), fun e => (by rw [d3] at e; cases e), fun e => (by rw [d4] at e; cases e), fun e => (by rw [d5] at e; cases e)⟩
theorem A3.nb (h : A3 w d f D s W) (d6 : D 6 = false) : ∀ g, W.heap.size ≤ g → NB D s g := by
  intro g hg h5 e
  obtain ⟨k, h1, -, h3, -⟩ := h.b0 h5
  rw [h1] at e
  injection e with e
  injection e with e
  injection e with e
  have := (h3 d6).lt
  omega
theorem A3.ext (h : A3 w d f D s W) (hb : Below W.heap.size W W') : A3 w d f D s W' :=
  ⟨h.ab.ext hb, fun e e' => (h.c29 e e').ext hb, fun e e' => (h.c31 e e').ext hb, fun e e' => (h.c32 e e').ext hb, fun e => by
    obtain ⟨g, h1, h2, h3, h4⟩ := h.b0 e
    exact ⟨g, h1, h2, fun q => (h3 q).ext hb, fun q => (h4 q).ext hb⟩⟩
theorem A3.op1 (h : A3 w d f D s W) (hb : Below W.heap.size W W') {x : Value} (hx : CopyS x d.v (NB D s) W') : A3 w d f (updD D 1) (updS s (some 29) x) W' :=
  { h.ext hb with c29 := fun _ _ => hx }
theorem A3.op3 (h : A3 w d f D s W) (hb : Below W.heap.size W W') {x : Value} (hx : CopyS x f.v (NB D s) W') : A3 w d f (updD D 3) (updS s (some 31) x) W' :=
  { h.ext hb with c31 := fun _ _ => hx }
theorem A3.op4 (h : A3 w d f D s W) (hb : Below W.heap.size W W') {x : Value} (hx : CopyS x (replyW d.v f.v) (NB D s) W') : A3 w d f (updD D 4) (updS s (some 32) x) W' :=
  { h.ext hb with c32 := fun _ _ => hx }
theorem A3.op5 (h : A3 w d f D s W) (d6 : D 6 = false) : A3 w d f (updD D 5) (updS s (some 7) (.pointer (some ⟨W.heap.size, 0, none⟩))) (W.alloc (.cells #[.int .i64 0, .bool false, .int .i64 0, .string { data := #[] }, .slice none 0 0, .slice none 0 0] 36)) := by
  have hb := below_a1 W (.cells #[.int .i64 0, .bool false, .int .i64 0, .string { data := #[] }, .slice none 0 0, .slice none 0 0] 36)
  have hn : ∀ g, NB D s g → g < W.heap.size → NB (updD D 5) (updS s (some 7) (.pointer (some ⟨W.heap.size, 0, none⟩))) g := by
    intro g _ hg _ e
    rw [updS_self] at e
    injection e with e
    injection e with e
    injection e with e
    omega
  exact ⟨h.ab.ext hb, fun e e' => ((h.c29 e e').mono hn).ext hb, fun e e' => ((h.c31 e e').mono hn).ext hb, fun e e' => ((h.c32 e e').mono hn).ext hb, fun _ => ⟨W.heap.size, rfl, h.ab.sz, fun _ => Blk.new rfl, fun e => (by rw [show updD D 5 6 = D 6 from rfl, d6] at e; cases e)⟩⟩
theorem A3.ends (h : A3 w d f D s W) (d5 : D 5 = true) (d6 : D 6 = true) : AB w W d f ∧ ∃ g, s 7 = .pointer (some ⟨g, 0, none⟩) ∧ BoxA w W g (replyW d.v f.v) := by
  obtain ⟨g, h1, -, -, h4⟩ := h.b0 d5
  exact ⟨h.ab, g, h1, h4 d6⟩
end
theorem A3.op6 {w : World} {d f : VD} {D : Nat → Bool} {s : Nat → Value} {W : World} (h : A3 w d f D s W) {g : Nat} {y : VD} (h7 : s 7 = .pointer (some ⟨g, 0, none⟩)) (hg : w.heap.size + 2 ≤ g) (hB : Blk W g #[.int .i64 0, .bool false, .int .i64 0, .string { data := #[] }, .slice none 0 0, .slice none 0 0] 36) (hv : y.v = replyW d.v f.v) (ha : ValAt W (NB D s) y) (d5 : D 5 = true) :
  A3 w d f (updD D 6) (updS s none undef) (put6 W g 0 (.int .i64 y.sort) (.bool y.on) (.int .i64 y.n) (.string ⟨y.text.toArray⟩) (.slice y.a y.list.length y.c) (.slice y.ka y.keys.length y.kc)) := by
 have hb : Below (w.heap.size + 2) W (put6 W g 0 (.int .i64 y.sort) (.bool y.on) (.int .i64 y.n) (.string ⟨y.text.toArray⟩) (.slice y.a y.list.length y.c) (.slice y.ka y.keys.length y.kc)) := put6_below (Below.refl _ _) hg
 refine ⟨h.ab.keep hb (Nat.le_refl _), fun _ e => (by rw [updD_self] at e; cases e), fun _ e => (by rw [updD_self] at e; cases e), fun _ e => (by rw [updD_self] at e; cases e), fun _ => ⟨g, h7, hg, fun e => (by rw [updD_self] at e; cases e), fun _ => ⟨hg, y, hv, store6 hB, ?_⟩⟩⟩
 have hne : ∀ k, NB D s k → k ≠ g := fun k hk e => hk d5 (by rw [h7, e])
 exact (ha.congr fun k hk _ => put6_other (hne k hk)).mono fun k hk _ => hne k hk
structure BX (W : World) (g : Nat) (x : VD) (v : V) : Prop where
  blk : Blk W g #[.int .i64 x.sort, .bool x.on, .int .i64 x.n, .string ⟨x.text.toArray⟩, .slice x.a x.list.length x.c, .slice x.ka x.keys.length x.kc] 36
  val : ValAt W (fun _ => True) x
  v : x.v = v
theorem BX.ext {W W' : World} {g : Nat} {x : VD} {v : V} (h : BX W g x v) (hb : Below W.heap.size W W') : BX W' g x v := ⟨h.blk.ext hb, h.val.ext hb, h.v⟩
theorem BX.new {W : World} {x : VD} {v : V} (hb : ValAt W (fun _ => True) x) (hv : x.v = v) : BX (W.alloc (.cells #[.int .i64 x.sort, .bool x.on, .int .i64 x.n, .string ⟨x.text.toArray⟩, .slice x.a x.list.length x.c, .slice x.ka x.keys.length x.kc] 36)) W.heap.size x v := ⟨Blk.new rfl, hb.ext (below_a1 _ _), hv⟩
theorem toA_any {W : World} {d : VD} (h : ValAt W (fun _ => True) d) (hz : sizeV d.v ≤ 1048576) : Calls Tryz.prog 12 #[.agg #[.int .i64 d.sort, .bool d.on, .int .i64 d.n, .string ⟨d.text.toArray⟩, .slice d.a d.list.length d.c, .slice d.ka d.keys.length d.kc]] W (DocE W d.v) := by
  have h1 := to_any d W.heap.size W (Nat.le_refl _) (h.mono fun _ _ h => h) hz
  rw [VD.val6] at h1
  refine h1.mono ?_
  rintro e w' ⟨y, rfl, hv, ha, hb⟩
  exact ⟨y, rfl, hv, ha.mono fun _ _ _ => trivial, hb⟩
theorem same_ok {W : World} {d e : VD} (hd : ValAt W (fun _ => True) d) (he : ValAt W (fun _ => True) e) (hs : sizeV d.v ≤ 1048576) (hv : d.v = e.v) : Calls Tryz.prog 11 #[.agg #[.int .i64 d.sort, .bool d.on, .int .i64 d.n, .string ⟨d.text.toArray⟩, .slice d.a d.list.length d.c, .slice d.ka d.keys.length d.kc], .agg #[.int .i64 e.sort, .bool e.on, .int .i64 e.n, .string ⟨e.text.toArray⟩, .slice e.a e.list.length e.c, .slice e.ka e.keys.length e.kc]] W (BoE W true) := by
  have h1 := sameR_any d e W hd he hs
  rw [VD.val6, VD.val6] at h1
  refine h1.mono ?_
  rintro r w' ⟨u, rfl, hb, b, rfl, hbb⟩
  obtain rfl : b = true := hbb.2 hv
  exact ⟨rfl, hb⟩
end Go.Proofs.YthnbeebilomchaaGreatDoor

namespace Go.Proofs.YthnbeebilomchaaGreatDoor
open Go Go.RowKit

def CopC (c c' : CD) : Prop := c'.kind = c.kind ∧ c'.id.v = c.id.v ∧ c'.name = c.name ∧ c'.version = c.version ∧ c'.text = c.text ∧ c'.pl = c.pl ∧ c'.pu = c.pu ∧ c'.other.v = c.other.v
structure CpS (TA T TE : TypeId) (w : World) (c : CD) (M g : Nat) (c' : CD) (W : World) : Prop where
  ab : Blk W w.heap.size (cdC c) TA
  rb : Blk W (w.heap.size + 1) (cdC zeroCD) T
  ob : Blk W g (cdC c') T
  lo : w.heap.size + 2 ≤ g
  gm : g < M
  ms : M ≤ W.heap.size
  id : ValAt W (fun k => (k ≠ w.heap.size + 1 ∧ k ≠ g) ∧ k < M) c'.id
  other : ValAt W (fun k => (k ≠ w.heap.size + 1 ∧ k ≠ g) ∧ k < M) c'.other
  own : Own W M TE 6 c'.a c'.changes.length c'.c (c'.changes.flatMap E.cells)
  below : Below w.heap.size w W
def NC (w : World) (D : Nat → Bool) (s : Nat → Value) (k : Nat) : Prop := k ≠ w.heap.size + 1 ∧ (D 17 = true → s 3 ≠ .pointer (some ⟨k, 0, none⟩))
structure O1 (TA T : TypeId) (w : World) (c : CD) (D : Nat → Bool) (s : Nat → Value) (W : World) : Prop where
 ab : Blk W w.heap.size (cdC c) TA
 rb : Blk W (w.heap.size + 1) (cdC zeroCD) T
 va : ValAt W (fun k => k < w.heap.size) c.id
 vo : ValAt W (fun k => k < w.heap.size) c.other
 below : Below w.heap.size w W
 c10 : D 4 = true → D 18 = false → CopyS (s 10) c.id.v (NC w D s) W
 c21 : D 15 = true → D 18 = false → CopyS (s 21) c.other.v (NC w D s) W
 c22 : D 16 = true → D 18 = false → ∃ c', CopC c c' ∧ (c'.a = none ∧ c'.c = 0 ∧ c'.changes = []) ∧ s 22 = .agg (cdC c') ∧ ValAt W (NC w D s) c'.id ∧ ValAt W (NC w D s) c'.other
 b0 : D 17 = true → ∃ g, s 3 = .pointer (some ⟨g, 0, none⟩) ∧ w.heap.size + 2 ≤ g ∧ (D 18 = false → Blk W g (cdC zeroCD) T) ∧ (D 18 = true → ∃ c', CopC c c' ∧ (c'.a = none ∧ c'.c = 0 ∧ c'.changes = []) ∧ Blk W g (cdC c') T ∧ ValAt W (fun k => k ≠ w.heap.size + 1 ∧ k ≠ g) c'.id ∧ ValAt W (fun k => k ≠ w.heap.size + 1 ∧ k ≠ g) c'.other)
section
variable {TA T TE : TypeId} {w : World} {c : CD} {D : Nat → Bool} {s : Nat → Value} {W W' : World}
theorem CpS.ext {M g : Nat} {c' : CD} (h : CpS TA T TE w c M g c' W) (hb : Below W.heap.size W W') : CpS TA T TE w c M g c' W' :=
  ⟨h.ab.ext hb, h.rb.ext hb, h.ob.ext hb, h.lo, h.gm, Nat.le_trans h.ms hb.size, h.id.ext hb, h.other.ext hb, h.own.ext hb, h.below.trans (hb.mono h.below.size)⟩
theorem O1.start (h1 : Blk W w.heap.size (cdC c) TA) (h2 : Blk W (w.heap.size + 1) (cdC zeroCD) T) (h3 : ValAt W (fun k => k < w.heap.size) c.id) (h4 : ValAt W (fun k => k < w.heap.size) c.other) (h5 : Below w.heap.size w W) (d4 : D 4 = false) (d15 : D 15 = false) (d16 : D 16 = false) (d17 : D 17 = false) : O1 TA T w c D s W :=
  ⟨h1, h2, h3, h4, h5, fun e => (by rw [d4] at e; cases e), fun e => (by rw [d15] at e; cases e), fun e => (by rw [d16] at e; cases e), fun e => (by rw [d17] at e; cases e)⟩
theorem O1.sz (h : O1 TA T w c D s W) : w.heap.size + 2 ≤ W.heap.size := h.rb.lt
theorem ptr_inj {a b : Nat} (e : Value.pointer (some ⟨a, 0, none⟩) = .pointer (some ⟨b, 0, none⟩)) : a = b := by
  injection e with e
  injection e with e
  injection e with e
theorem O1.nb (h : O1 TA T w c D s W) (d : D 18 = false) {k : Nat} (hk : k < w.heap.size ∨ W.heap.size ≤ k) : NC w D s k := by
  have hz := h.sz
  refine ⟨by omega, fun h5 e => ?_⟩
  obtain ⟨g, h1, h2, h3, -⟩ := h.b0 h5
  rw [h1] at e
  have := ptr_inj e
  have := (h3 d).lt
  omega
theorem O1.ext (h : O1 TA T w c D s W) (hb : Below W.heap.size W W') : O1 TA T w c D s W' :=
  ⟨h.ab.ext hb, h.rb.ext hb, h.va.ext hb, h.vo.ext hb, h.below.trans (hb.mono h.below.size), fun e e' => (h.c10 e e').ext hb, fun e e' => (h.c21 e e').ext hb, fun e e' => by
    obtain ⟨c', h1, h2, h3, h4, h5⟩ := h.c22 e e'
    exact ⟨c', h1, h2, h3, h4.ext hb, h5.ext hb⟩, fun e => by
    obtain ⟨g, h1, h2, h3, h4⟩ := h.b0 e
    exact ⟨g, h1, h2, fun q => (h3 q).ext hb, fun q => by
      obtain ⟨c', q1, q2, q3, q4, q5⟩ := h4 q
      exact ⟨c', q1, q2, q3.ext hb, q4.ext hb, q5.ext hb⟩⟩⟩
theorem O1.op4 (h : O1 TA T w c D s W) (hb : Below W.heap.size W W') {x : Value} (hx : CopyS x c.id.v (NC w D s) W') : O1 TA T w c (updD D 4) (updS s (some 10) x) W' :=
  { h.ext hb with c10 := fun _ _ => hx }
theorem O1.op15 (h : O1 TA T w c D s W) (hb : Below W.heap.size W W') {x : Value} (hx : CopyS x c.other.v (NC w D s) W') : O1 TA T w c (updD D 15) (updS s (some 21) x) W' :=
  { h.ext hb with c21 := fun _ _ => hx }
theorem O1.op16 (h : O1 TA T w c D s W) {y z : VD} (hy : ValAt W (NC w D s) y) (hz : ValAt W (NC w D s) z) (ey : y.v = c.id.v) (ez : z.v = c.other.v) : O1 TA T w c (updD D 16) (updS s (some 22) (.agg (cdC ⟨c.kind, y, c.name, c.version, c.text, none, 0, [], c.pl, c.pu, z⟩))) W :=
  { h with c22 := fun _ _ => ⟨⟨c.kind, y, c.name, c.version, c.text, none, 0, [], c.pl, c.pu, z⟩, ⟨rfl, ey, rfl, rfl, rfl, rfl, rfl, ez⟩, ⟨rfl, rfl, rfl⟩, rfl, hy, hz⟩ }
theorem O1.op17 (h : O1 TA T w c D s W) (d18 : D 18 = false) : O1 TA T w c (updD D 17) (updS s (some 3) (.pointer (some ⟨W.heap.size, 0, none⟩))) (W.alloc (.cells (cdC zeroCD) T)) := by
  have hb := below_a1 W (.cells (cdC zeroCD) T)
  have hn : ∀ g, NC w D s g → g < W.heap.size → NC w (updD D 17) (updS s (some 3) (.pointer (some ⟨W.heap.size, 0, none⟩))) g := by
    intro g h1 hg
    refine ⟨h1.1, fun _ e => ?_⟩
    rw [updS_self] at e
    have := ptr_inj e
    omega
  exact ⟨h.ab.ext hb, h.rb.ext hb, h.va.ext hb, h.vo.ext hb, h.below.trans (hb.mono h.below.size), fun e e' => ((h.c10 e e').mono hn).ext hb, fun e e' => ((h.c21 e e').mono hn).ext hb, fun e e' => by
    obtain ⟨c', h1, h2, h3, h4, h5⟩ := h.c22 e e'
    exact ⟨c', h1, h2, h3, (h4.mono hn).ext hb, (h5.mono hn).ext hb⟩, fun _ => ⟨W.heap.size, rfl, h.sz, fun _ => Blk.new rfl, fun e => (by rw [show updD D 17 18 = D 18 from rfl, d18] at e; cases e)⟩⟩
theorem O1.op18 (h : O1 TA T w c D s W) {g : Nat} {c' : CD} (h7 : s 3 = .pointer (some ⟨g, 0, none⟩)) (hg : w.heap.size + 2 ≤ g) (hB : Blk W g (cdC zeroCD) T) (hc : CopC c c') (hz : c'.a = none ∧ c'.c = 0 ∧ c'.changes = []) (hi : ValAt W (NC w D s) c'.id) (ho : ValAt W (NC w D s) c'.other) (d17 : D 17 = true) :
  O1 TA T w c (updD D 18) (updS s none undef) (W.setRow g (cdC c')) := by
 have hb : Below (w.heap.size + 2) W (W.setRow g (cdC c')) := below_row (Below.refl _ _) hg _
 have hne : ∀ k, NC w D s k → k ≠ g := fun k hk e => hk.2 d17 (by rw [h7, e])
 have h1 := h.ab.below hb (by omega)
 have h2 := h.rb.below hb (by omega)
 have h3 := h.below.trans (hb.mono (by omega : w.heap.size ≤ w.heap.size + 2))
 have keep : ∀ {y : VD}, ValAt W (NC w D s) y → ValAt (W.setRow g (cdC c')) (fun k => k ≠ w.heap.size + 1 ∧ k ≠ g) y := fun hy => (hy.congr fun k hk _ => setRow_far (hne k hk)).mono fun k hk _ => ⟨hk.1, hne k hk⟩
 refine ⟨h1, h2, h.va.congr fun k hk _ => hb.block k (by omega), h.vo.congr fun k hk _ => hb.block k (by omega), h3, fun _ e => (by rw [updD_self] at e; cases e), fun _ e => (by rw [updD_self] at e; cases e), fun _ e => (by rw [updD_self] at e; cases e), fun _ => ⟨g, h7, hg, fun e => (by rw [updD_self] at e; cases e), fun _ => ⟨c', hc, hz, setRow_blk hB, keep hi, keep ho⟩⟩⟩
theorem O1.ends (TE : TypeId) (h : O1 TA T w c D s W) (d17 : D 17 = true) (d18 : D 18 = true) : ∃ g c', s 3 = .pointer (some ⟨g, 0, none⟩) ∧ CopC c c' ∧ c'.changes = [] ∧ CpS TA T TE w c W.heap.size g c' W := by
  obtain ⟨g, h1, h2, -, h4⟩ := h.b0 d17
  obtain ⟨c', q1, q2, q3, q4, q5⟩ := h4 d18
  refine ⟨g, c', h1, q1, q2.2.2, h.ab, h.rb, q3, h2, q3.lt, Nat.le_refl _, q4.mono fun k hk hl => ⟨hk, hl⟩, q5.mono fun k hk hl => ⟨hk, hl⟩, ?_, h.below⟩
  rw [q2.1, q2.2.1, q2.2.2]
  exact Own.nil _ _ _ _
theorem CpS.app {M g : Nat} {c' : CD} (h : CpS TA T TE w c M g c' W) {e : E} {a' : Option Addr} {k : Nat} (ho : Own W' M TE 6 a' (c'.changes.length + 1) k (c'.changes.flatMap E.cells ++ e.cells)) (hg : W.grownBy W' (rowOf c'.a c'.c)) :
  CpS TA T TE w c M g { c' with changes := c'.changes ++ [e], a := a', c := k } (W'.setCell ⟨g, 10, none⟩ (.slice a' (c'.changes.length + 1) k)) := by
 have hlo := h.lo
 have hgm := h.gm
 have row : ∀ j, rowOf c'.a c'.c = some j → M ≤ j := fun j hj => h.own.rowBase (Nat.le_refl _) j hj
 have ne : ∀ b, b < M → some b ≠ rowOf c'.a c'.c := fun b hb e => by have := row b e.symm; omega
 have q0 : w.heap.size ≠ g := by omega
 have q1 : w.heap.size + 1 ≠ g := by omega
 have keep : ∀ {y : VD}, ValAt W (fun k => (k ≠ w.heap.size + 1 ∧ k ≠ g) ∧ k < M) y → ValAt (W'.setCell ⟨g, 10, none⟩ (.slice a' (c'.changes.length + 1) k)) (fun k => (k ≠ w.heap.size + 1 ∧ k ≠ g) ∧ k < M) y :=
  fun hy => hy.congr fun b hb hl => (Below.heap_setCell W' ⟨g, 10, none⟩ _ b hb.1.2).trans (hg.block b hl (ne b hb.2))
 refine ⟨(h.ab.grown hg (ne _ (by omega))).other (p := ⟨g, 10, none⟩) q0 _, (h.rb.grown hg (ne _ (by omega))).other (p := ⟨g, 10, none⟩) q1 _, ?_, hlo, hgm, by have := hg.size; have := h.ms; simp; omega, keep h.id, keep h.other, ?_, ?_⟩
 ·
  have := (h.ob.grown hg (ne _ hgm)).set 10 (.slice a' (c'.changes.length + 1) k)
  have e1 : (cdC c').setIfInBounds 10 (.slice a' (c'.changes.length + 1) k) = cdC { c' with changes := c'.changes ++ [e], a := a', c := k } := by
   simp [cdC]
  rw [e1] at this
  exact this
 ·
  simp only [List.length_append, List.length_singleton, List.flatMap_append, List.flatMap_cons, List.flatMap_nil, List.append_nil]
  exact ho.setCell_other (p := ⟨g, 10, none⟩) (fun e => by have := ho.base e; simp at this; omega) _
 ·
  exact (h.below.grown hg h.below.size (fun j hj => by have := row j hj; omega)).setCell (p := ⟨g, 10, none⟩) (by show w.heap.size ≤ g; omega) _
end
def CalE (w : World) (c : CD) (e : Ending) (w' : World) : Prop := ∃ c' : CD, e = .returned (.agg (cdC c')) ∧ CopC c c' ∧ c'.changes = c.changes ∧ CallAt w' c' ∧ Below w.heap.size w w'
theorem CpS.fin {TA T TE : TypeId} {w : World} {c : CD} {W : World} {M g : Nat} {c' : CD} (h : CpS TA T TE w c M g c' W) (hc : CopC c c') (hl : c'.changes = c.changes) : CalE w c (.returned (.agg (cdC c'))) (W.setRow (w.heap.size + 1) (cdC c')) := by
  have hlo := h.lo
  have hgm := h.gm
  have keep : ∀ {y : VD}, ValAt W (fun k => (k ≠ w.heap.size + 1 ∧ k ≠ g) ∧ k < M) y → ValAt (W.setRow (w.heap.size + 1) (cdC c')) (fun _ => True) y := fun hy => (hy.congr fun k hk _ => setRow_far hk.1.1).mono fun _ _ _ => trivial
  refine ⟨c', rfl, hc, hl, ⟨keep h.id, keep h.other, h.own.row.congr fun b _ hb _ => setRow_far (by have := h.own.base hb; omega)⟩, below_row h.below (by omega) _⟩
theorem copC_step {c c' : CD} (h : CopC c c') (l : List E) (a : Option Addr) (k : Nat) : CopC c { c' with changes := l, a := a, c := k } := h
theorem copC_k {c c' : CD} (h : CopC c c') (hl : c'.changes = c.changes) : c'.k = c.k := by
  obtain ⟨h1, h2, h3, h4, h5, h6, h7, h8⟩ := h
  unfold CD.k
  rw [h1, h2, h3, h4, h5, h6, h7, h8, hl]
theorem cd_rows {w : World} {c : CD} (h : CallAt w c) : ValAt w (fun k => k < w.heap.size) c.id ∧ ValAt w (fun k => k < w.heap.size) c.other := ⟨h.id.mono fun _ _ h => h, h.other.mono fun _ _ h => h⟩
theorem docCall_size : (Tryz.prog.info? 31).map (·.size) = some 19 := by kernel_rfl
theorem docCall_under : ∃ fs, Tryz.prog.underlying 31 = some (.struct fs) := by
  have h : (match Tryz.prog.underlying 31 with | some (.struct _) => true | _ => false) = true := by kernel_rfl
  cases hq : Tryz.prog.underlying 31 with
  | none => rw [hq] at h; cases h
  | some d => cases d <;> (rw [hq] at h; first | (cases h; done) | exact ⟨_, rfl⟩)
theorem load_doc {ops : Array Oper} {rest : List Oper} {o : Oper} {a : Act} {w : World} {Q : Exit → Act → World → Prop} (hgd : o.guard = none) (x : Operand) (ho : o.op = .load 31 x) (g : Nat) (hx : a.eval x = .pointer (some ⟨g, 0, none⟩)) (c : CD) (hg : Blk w g (cdC c) 31)
    (h : wpList Tryz.prog ops Q rest (a.put o.dst (.agg (cdC c))) w) : wpList Tryz.prog ops Q (o :: rest) a w := by
  obtain ⟨fs, h1⟩ := docCall_under
  exact wpList_load_row hgd _ x ho g hx _ _ _ _ hg h1 rfl docCall_size h
theorem store_doc {ops : Array Oper} {rest : List Oper} {o : Oper} {a : Act} {w : World} {Q : Exit → Act → World → Prop} (hgd : o.guard = none) (x y : Operand) (ho : o.op = .store 31 x y) (g : Nat) (c c' : CD) (hx : a.eval x = .pointer (some ⟨g, 0, none⟩)) (hy : a.eval y = .agg (cdC c)) (hg : Blk w g (cdC c') 31)
    (h : wpList Tryz.prog ops Q rest (a.put o.dst undef) (w.setRow g (cdC c))) : wpList Tryz.prog ops Q (o :: rest) a w :=
  wpList_store_row hgd _ x y ho g _ hx hy _ _ hg docCall_size rfl (cdC_one c) h
theorem Tryz.infoDocEdit : (Tryz.prog.info? 71).map (fun i => (i.zero, i.size, i.bytes)) = some (some (.agg #[.int .i64 0, .int .i64 0, .int .i64 0, .int .i64 0, .string ByteArray.empty, .bool false]), 6, 56) := by kernel_rfl
theorem of04_end {W : World} {tm : Array Value} {R : Ending → World → Prop} {g : Nat} {c : CD} (h2 : tm.getD 2 undef = .pointer (some ⟨g, 0, none⟩)) (hB : Blk W g (cdC c) 43)
    (hR : R (.returned (.agg (cdC c))) W) : bodyPost Tryz.prog Tryz.f9 R .ret { tmps := tm, defers := [] } W := by
  obtain ⟨fs, h1⟩ := call_under
  exact bodyPost_ret (v := .agg (cdC c)) (results_cell_row Tryz.results9 tm W g _ _ _ _ h2 hB h1 rfl call_size) rfl hR
theorem ofB_any {w W : World} {d : VD} (hs : w.heap.size ≤ W.heap.size) (h : ValAt W (fun k => k < w.heap.size) d) (hz : sizeV d.v ≤ 1048576) : Calls Tryz.prog 15 #[.agg #[.int .i64 d.sort, .bool d.on, .int .i64 d.n, .string ⟨d.text.toArray⟩, .slice d.a d.list.length d.c, .slice d.ka d.keys.length d.kc]] W (OfE w.heap.size W d.v) := by
  have h1 := of_any d w.heap.size W hs h hz
  rwa [VD.val6] at h1
set_option maxHeartbeats 8000000 in
set_option maxRecDepth 20000 in
theorem of04_any (c : CD) (w : World) (hc : CallAt w c) (hs1 : sizeV c.id.v ≤ 1048576) (hs2 : sizeV c.other.v ≤ 1048576) (hn : c.changes.length ≤ 1048576) : Calls Tryz.prog 9 #[.agg (cdC c)] w (CalE w c) := by
 obtain ⟨W1, hW1⟩ : ∃ q, q = (w.alloc (.cells (cdC c) 31)).alloc (.cells #[.int .i64 0, .int .i64 0, .bool false, .int .i64 0, .string { data := #[] }, .slice none 0 0, .slice none 0 0, .string { data := #[] }, .int .i64 0, .string { data := #[] }, .slice none 0 0, .int .i64 0, .int .i64 0, .int .i64 0, .bool false, .int .i64 0, .string { data := #[] }, .slice none 0 0, .slice none 0 0] 43) := ⟨_, rfl⟩
 have hb : Below w.heap.size w W1 := by rw [hW1]; exact (below_a1 w _).alloc (by simp) _
 have HAB : Hid (Blk W1 w.heap.size (cdC c) 31) := Lib.hid (by rw [hW1]; exact (Blk.new rfl).alloc _)
 have HRB : Hid (Blk W1 (w.heap.size + 1) (cdC zeroCD) 43) := Lib.hid (by rw [hW1]; exact Blk.new (by simp))
 have HVA : Hid (ValAt W1 (fun k => k < w.heap.size) c.id ∧ ValAt W1 (fun k => k < w.heap.size) c.other) := Lib.hid ⟨(cd_rows hc).1.ext hb, (cd_rows hc).2.ext hb⟩
 have HC : Hid (CallAt w c) := Lib.hid hc
 have HB1 : Hid (Below w.heap.size w W1) := Lib.hid hb
 have HS1 := Lib.hid hs1
 have HS2 := Lib.hid hs2
 have HN := Lib.hid hn
 clear hb hc hs1 hs2 hn
 go_enter Tryz.func9, Tryz.ntmps9
 go_upto_region 1 with (fail)
 rw [← hW1]
 clear hW1
 refine wp_region_held_drew (S := (fun w' => Blk w' w.heap.size (cdC c) 31)) (by kernel_rfl) ?_ (fun hHeld => ?_)
 ·
  exact HAB.out
 refine wpAnyH_take (i := 0) (oi := ⟨some 6, _, _, _, _, _⟩) (v := ?_) rfl (by kernel_rfl) (by kernel_rfl) (by kernel_rfl) (fun _ _ _ h => h) (Or.inl ⟨by rfl, ?_⟩) (by assumption) ?_; rotate_left; focus (intro w hSw; (try dsimp only at hSw); first | (go_simp; done) | (go_simp; with_reducible rfl))
 try simp only [Act.put, List.setIfInBounds_toArray, List.set_cons_succ, List.set_cons_zero]
 refine wpAnyH_take (i := 1) (oi := ⟨some 7, _, _, _, _, _⟩) (v := ?_) rfl (by kernel_rfl) (by kernel_rfl) (by kernel_rfl) (fun _ _ _ h => h) (Or.inl ⟨by rfl, ?_⟩) (by assumption) ?_; rotate_left; focus (intro w hSw; (try dsimp only at hSw); have b0 := Blk.cell hSw 0; unfold cdC at b0; simp only [List.getElem?_toArray, List.getElem?_cons_zero] at b0; first | (go_simp; done) | (go_simp; with_reducible rfl))
 try simp only [Act.put, List.setIfInBounds_toArray, List.set_cons_succ, List.set_cons_zero]
 refine wpAnyH_take (i := 2) (oi := ⟨some 8, _, _, _, _, _⟩) (v := ?_) rfl (by kernel_rfl) (by kernel_rfl) (by kernel_rfl) (fun _ _ _ h => h) (Or.inl ⟨by rfl, ?_⟩) (by assumption) ?_; rotate_left; focus (intro w hSw; (try dsimp only at hSw); first | (go_simp; done) | (go_simp; with_reducible rfl))
 try simp only [Act.put, List.setIfInBounds_toArray, List.set_cons_succ, List.set_cons_zero]
 refine wpAnyH_take (i := 3) (oi := ⟨some 9, _, _, _, _, _⟩) (v := ?_) rfl (by kernel_rfl) (by kernel_rfl) (by kernel_rfl) (fun _ _ _ h => h) (Or.inl ⟨by rfl, ?_⟩) (by assumption) ?_; rotate_left; focus (intro w hSw; (try dsimp only at hSw); have b1 := Blk.cell hSw 1; have b2 := Blk.cell hSw 2; have b3 := Blk.cell hSw 3; have b4 := Blk.cell hSw 4; have b5 := Blk.cell hSw 5; have b6 := Blk.cell hSw 6; unfold cdC at b1 b2 b3 b4 b5 b6; simp only [List.getElem?_toArray, List.getElem?_cons_zero, List.getElem?_cons_succ] at b1 b2 b3 b4 b5 b6; first | (go_simp; done) | (go_simp; with_reducible rfl))
 try simp only [Act.put, List.setIfInBounds_toArray, List.set_cons_succ, List.set_cons_zero]
 refine wpAnyH_take (i := 5) (oi := ⟨some 11, _, _, _, _, _⟩) (v := ?_) rfl (by kernel_rfl) (by kernel_rfl) (by kernel_rfl) (fun _ _ _ h => h) (Or.inl ⟨by rfl, ?_⟩) (by assumption) ?_; rotate_left; focus (intro w hSw; (try dsimp only at hSw); first | (go_simp; done) | (go_simp; with_reducible rfl))
 try simp only [Act.put, List.setIfInBounds_toArray, List.set_cons_succ, List.set_cons_zero]
 refine wpAnyH_take (i := 6) (oi := ⟨some 12, _, _, _, _, _⟩) (v := ?_) rfl (by kernel_rfl) (by kernel_rfl) (by kernel_rfl) (fun _ _ _ h => h) (Or.inl ⟨by rfl, ?_⟩) (by assumption) ?_; rotate_left; focus (intro w hSw; (try dsimp only at hSw); have b7 := Blk.cell hSw 7; unfold cdC at b7; simp only [List.getElem?_toArray, List.getElem?_cons_zero, List.getElem?_cons_succ] at b7; first | (go_simp; done) | (go_simp; with_reducible rfl))
 try simp only [Act.put, List.setIfInBounds_toArray, List.set_cons_succ, List.set_cons_zero]
 refine wpAnyH_take (i := 7) (oi := ⟨some 13, _, _, _, _, _⟩) (v := ?_) rfl (by kernel_rfl) (by kernel_rfl) (by kernel_rfl) (fun _ _ _ h => h) (Or.inl ⟨by rfl, ?_⟩) (by assumption) ?_; rotate_left; focus (intro w hSw; (try dsimp only at hSw); first | (go_simp; done) | (go_simp; with_reducible rfl))
 try simp only [Act.put, List.setIfInBounds_toArray, List.set_cons_succ, List.set_cons_zero]
 refine wpAnyH_take (i := 8) (oi := ⟨some 14, _, _, _, _, _⟩) (v := ?_) rfl (by kernel_rfl) (by kernel_rfl) (by kernel_rfl) (fun _ _ _ h => h) (Or.inl ⟨by rfl, ?_⟩) (by assumption) ?_; rotate_left; focus (intro w hSw; (try dsimp only at hSw); have b8 := Blk.cell hSw 8; unfold cdC at b8; simp only [List.getElem?_toArray, List.getElem?_cons_zero, List.getElem?_cons_succ] at b8; first | (go_simp; done) | (go_simp; with_reducible rfl))
 try simp only [Act.put, List.setIfInBounds_toArray, List.set_cons_succ, List.set_cons_zero]
 refine wpAnyH_take (i := 9) (oi := ⟨some 15, _, _, _, _, _⟩) (v := ?_) rfl (by kernel_rfl) (by kernel_rfl) (by kernel_rfl) (fun _ _ _ h => h) (Or.inl ⟨by rfl, ?_⟩) (by assumption) ?_; rotate_left; focus (intro w hSw; (try dsimp only at hSw); first | (go_simp; done) | (go_simp; with_reducible rfl))
 try simp only [Act.put, List.setIfInBounds_toArray, List.set_cons_succ, List.set_cons_zero]
 refine wpAnyH_take (i := 10) (oi := ⟨some 16, _, _, _, _, _⟩) (v := ?_) rfl (by kernel_rfl) (by kernel_rfl) (by kernel_rfl) (fun _ _ _ h => h) (Or.inl ⟨by rfl, ?_⟩) (by assumption) ?_; rotate_left; focus (intro w hSw; (try dsimp only at hSw); have b9 := Blk.cell hSw 9; unfold cdC at b9; simp only [List.getElem?_toArray, List.getElem?_cons_zero, List.getElem?_cons_succ] at b9; first | (go_simp; done) | (go_simp; with_reducible rfl))
 try simp only [Act.put, List.setIfInBounds_toArray, List.set_cons_succ, List.set_cons_zero]
 refine wpAnyH_take (i := 11) (oi := ⟨some 17, _, _, _, _, _⟩) (v := ?_) rfl (by kernel_rfl) (by kernel_rfl) (by kernel_rfl) (fun _ _ _ h => h) (Or.inl ⟨by rfl, ?_⟩) (by assumption) ?_; rotate_left; focus (intro w hSw; (try dsimp only at hSw); first | (go_simp; done) | (go_simp; with_reducible rfl))
 try simp only [Act.put, List.setIfInBounds_toArray, List.set_cons_succ, List.set_cons_zero]
 refine wpAnyH_take (i := 12) (oi := ⟨some 18, _, _, _, _, _⟩) (v := ?_) rfl (by kernel_rfl) (by kernel_rfl) (by kernel_rfl) (fun _ _ _ h => h) (Or.inl ⟨by rfl, ?_⟩) (by assumption) ?_; rotate_left; focus (intro w hSw; (try dsimp only at hSw); have b11 := Blk.cell hSw 11; have b12 := Blk.cell hSw 12; unfold cdC at b11 b12; simp only [List.getElem?_toArray, List.getElem?_cons_zero, List.getElem?_cons_succ] at b11 b12; first | (go_simp; done) | (go_simp; with_reducible rfl))
 try simp only [Act.put, List.setIfInBounds_toArray, List.set_cons_succ, List.set_cons_zero]
 refine wpAnyH_take (i := 13) (oi := ⟨some 19, _, _, _, _, _⟩) (v := ?_) rfl (by kernel_rfl) (by kernel_rfl) (by kernel_rfl) (fun _ _ _ h => h) (Or.inl ⟨by rfl, ?_⟩) (by assumption) ?_; rotate_left; focus (intro w hSw; (try dsimp only at hSw); first | (go_simp; done) | (go_simp; with_reducible rfl))
 try simp only [Act.put, List.setIfInBounds_toArray, List.set_cons_succ, List.set_cons_zero]
 refine wpAnyH_take (i := 14) (oi := ⟨some 20, _, _, _, _, _⟩) (v := ?_) rfl (by kernel_rfl) (by kernel_rfl) (by kernel_rfl) (fun _ _ _ h => h) (Or.inl ⟨by rfl, ?_⟩) (by assumption) ?_; rotate_left; focus (intro w hSw; (try dsimp only at hSw); have b13 := Blk.cell hSw 13; have b14 := Blk.cell hSw 14; have b15 := Blk.cell hSw 15; have b16 := Blk.cell hSw 16; have b17 := Blk.cell hSw 17; have b18 := Blk.cell hSw 18; unfold cdC at b13 b14 b15 b16 b17 b18; simp only [List.getElem?_toArray, List.getElem?_cons_zero, List.getElem?_cons_succ] at b13 b14 b15 b16 b17 b18; first | (go_simp; done) | (go_simp; with_reducible rfl))
 try simp only [Act.put, List.setIfInBounds_toArray, List.set_cons_succ, List.set_cons_zero]
 refine wpAnyH_invF [10, 21, 22, 3] [0, 1, 2, 3, 5, 6, 7, 8, 9, 10, 11, 12, 13, 14] (O1 31 43 w c) (by kernel_rfl) (by rfl) (by kernel_rfl) (by kernel_rfl) (Nat.le_of_ble_eq_true (by kernel_rfl)) ?_ ?_ ?_ ?_
 ·
  intro D s W hJ
  exact hJ.ab
 ·
  intro s
  exact O1.start HAB.out HRB.out (HVA.out.1.ext (Below.refl _ _).drew) (HVA.out.2.ext (Below.refl _ _).drew) HB1.out.drew rfl rfl rfl rfl
 ·
  refine InvAllF.skip (by kernel_rfl) ?_
  refine InvAllF.skip (by kernel_rfl) ?_
  refine InvAllF.skip (by kernel_rfl) ?_
  refine InvAllF.skip (by kernel_rfl) ?_
  refine InvAllF.cons (o := ⟨some 10, _, _, _, _, _⟩) (by kernel_rfl) (fun D s W hD hdep hno hJ K hK => ?_) ?_
  ·
   have n15 : D 15 = false := hno 15 (by kernel_rfl)
   have n16 : D 16 = false := hno 16 (by kernel_rfl)
   have n18 : D 18 = false := hno 18 (by kernel_rfl)
   clear hdep hno
   simp only [setAll, List.foldl_cons, List.foldl_nil, Act.put, List.setIfInBounds_toArray, List.set_cons_succ, List.set_cons_zero]
   have h1 := ofB_any (w := w) (W := W) (by have := hJ.sz; omega) hJ.va HS1.out
   have H1 := Lib.hid h1
   clear h1
   have HJ := Lib.hid hJ
   clear hJ
   go_simp
   refine H1.out.mono ?_
   rintro e w2 ⟨y, rfl, hyv, hya, hb⟩
   clear H1
   refine hK.out _ _ _ ?_ (HJ.out.op4 hb ⟨y, rfl, hyv, hya.mono fun k hk _ => HJ.out.nb n18 hk⟩)
   simp only [setAll, List.foldl_cons, List.foldl_nil, Act.put, List.setIfInBounds_toArray, List.set_cons_succ, List.set_cons_zero]
  refine InvAllF.skip (by kernel_rfl) ?_
  refine InvAllF.skip (by kernel_rfl) ?_
  refine InvAllF.skip (by kernel_rfl) ?_
  refine InvAllF.skip (by kernel_rfl) ?_
  refine InvAllF.skip (by kernel_rfl) ?_
  refine InvAllF.skip (by kernel_rfl) ?_
  refine InvAllF.skip (by kernel_rfl) ?_
  refine InvAllF.skip (by kernel_rfl) ?_
  refine InvAllF.skip (by kernel_rfl) ?_
  refine InvAllF.skip (by kernel_rfl) ?_
  refine InvAllF.cons (o := ⟨some 21, _, _, _, _, _⟩) (by kernel_rfl) (fun D s W hD hdep hno hJ K hK => ?_) ?_
  ·
   have e4 : D 4 = true := hdep 4 (by kernel_rfl)
   have n16 : D 16 = false := hno 16 (by kernel_rfl)
   have n18 : D 18 = false := hno 18 (by kernel_rfl)
   clear hdep hno
   simp only [setAll, List.foldl_cons, List.foldl_nil, Act.put, List.setIfInBounds_toArray, List.set_cons_succ, List.set_cons_zero]
   have h1 := ofB_any (w := w) (W := W) (by have := hJ.sz; omega) hJ.vo HS2.out
   have H1 := Lib.hid h1
   clear h1
   have HJ := Lib.hid hJ
   clear hJ
   go_simp
   refine H1.out.mono ?_
   rintro e w2 ⟨y, rfl, hyv, hya, hb⟩
   clear H1
   refine hK.out _ _ _ ?_ (HJ.out.op15 hb ⟨y, rfl, hyv, hya.mono fun k hk _ => HJ.out.nb n18 hk⟩)
   simp only [setAll, List.foldl_cons, List.foldl_nil, Act.put, List.setIfInBounds_toArray, List.set_cons_succ, List.set_cons_zero]
  refine InvAllF.cons (o := ⟨some 22, _, _, _, _, _⟩) (by kernel_rfl) (fun D s W hD hdep hno hJ K hK => ?_) ?_
  ·
   have e4 : D 4 = true := hdep 4 (by kernel_rfl)
   have e15 : D 15 = true := hdep 15 (by kernel_rfl)
   have n18 : D 18 = false := hno 18 (by kernel_rfl)
   clear hdep hno
   simp only [setAll, List.foldl_cons, List.foldl_nil, Act.put, List.setIfInBounds_toArray, List.set_cons_succ, List.set_cons_zero]
   obtain ⟨y1, q10, qv1, qa1⟩ := hJ.c10 e4 n18
   obtain ⟨y2, q21, qv2, qa2⟩ := hJ.c21 e15 n18
   have HQ1 := Lib.hid q10
   have HQ2 := Lib.hid q21
   have HV := Lib.hid (And.intro (And.intro qv1 qa1) (And.intro qv2 qa2))
   clear q10 q21 qv1 qa1 qv2 qa2
   have HJ := Lib.hid hJ
   clear hJ
   simp only [HQ1.out, HQ2.out]
   go_simp
   refine hK.out _ _ _ ?_ (HJ.out.op16 HV.out.1.2 HV.out.2.2 HV.out.1.1 HV.out.2.1)
   simp only [HQ1.out, HQ2.out, setAll, List.foldl_cons, List.foldl_nil, Act.put, List.setIfInBounds_toArray, List.set_cons_succ, List.set_cons_zero]
   rfl
  refine InvAllF.cons (o := ⟨some 3, _, _, _, _, _⟩) (by kernel_rfl) (fun D s W hD hdep hno hJ K hK => ?_) ?_
  ·
   have n18 : D 18 = false := hno 18 (by kernel_rfl)
   clear hdep hno
   simp only [setAll, List.foldl_cons, List.foldl_nil, Act.put, List.setIfInBounds_toArray, List.set_cons_succ, List.set_cons_zero]
   have HJ := Lib.hid hJ
   clear hJ
   go_simp
   refine hK.out _ _ _ ?_ (HJ.out.op17 n18)
   simp only [setAll, List.foldl_cons, List.foldl_nil, Act.put, List.setIfInBounds_toArray, List.set_cons_succ, List.set_cons_zero]
  refine InvAllF.cons (o := ⟨none, _, _, _, _, _⟩) (by kernel_rfl) (fun D s W hD hdep hno hJ K hK => ?_) ?_
  ·
   have e4 : D 4 = true := hdep 4 (by kernel_rfl)
   have e15 : D 15 = true := hdep 15 (by kernel_rfl)
   have e16 : D 16 = true := hdep 16 (by kernel_rfl)
   have e17 : D 17 = true := hdep 17 (by kernel_rfl)
   clear hdep hno
   simp only [setAll, List.foldl_cons, List.foldl_nil, Act.put, List.setIfInBounds_toArray, List.set_cons_succ, List.set_cons_zero]
   obtain ⟨c', qc, qz, q22, qi, qo⟩ := hJ.c22 e16 hD
   obtain ⟨g, q3, hg, hB, -⟩ := hJ.b0 e17
   have hB := hB hD
   have HQ := Lib.hid q22
   have HQ3 := Lib.hid q3
   have HV := Lib.hid (And.intro (And.intro qc qz) (And.intro qi qo))
   have HBK := Lib.hid hB
   clear q22 qc qz qi qo q3 hB
   have HJ := Lib.hid hJ
   clear hJ
   simp only [HQ.out, HQ3.out]
   rw [if_pos (by simp [Region.wanted])]
   refine wp_store_row 43 _ _ rfl g (cdC c') rfl rfl _ _ HBK.out call_size rfl (cdC_one c') ?_
   refine hK.out _ undef _ ?_ (HJ.out.op18 HQ3.out hg HBK.out HV.out.1.1 HV.out.1.2 HV.out.2.1 HV.out.2.2 e17)
   simp only [HQ.out, HQ3.out, setAll, List.foldl_cons, List.foldl_nil, Act.put, List.setIfInBounds_toArray, List.set_cons_succ, List.set_cons_zero]
  exact InvAllF.nil
 ·
  intro D s W hD hJ
  obtain ⟨g, c', q3, hcc, hcz, hcp⟩ := hJ.ends 82 (hD 17 (by decide)) (hD 18 (by decide))
  obtain ⟨M, hM⟩ : ∃ M, M = W.heap.size := ⟨_, rfl⟩
  rw [← hM] at hcp
  have HL0 := Lib.hid hcp
  have HCC := Lib.hid hcc
  have HCZ := Lib.hid hcz
  clear hJ hD hcc hcz hcp hM HAB HRB HVA HB1
  simp only [setAll, List.foldl_cons, List.foldl_nil, Act.put, List.setIfInBounds_toArray, List.set_cons_succ, List.set_cons_zero]
  rw [q3]
  clear q3
  generalize s 10 = u10
  generalize s 21 = u21
  generalize s 22 = u22
  clear s D
  have hn := HN.out
  obtain ⟨nc, hnc⟩ : ∃ q, q = c.changes.length := ⟨_, rfl⟩
  have HNC := Lib.hid hnc
  rw [← hnc] at hn
  clear hnc
  go_wp2_with fail
  go_loopw [4] (fun i wr => ∃ k : Nat, k ≤ nc ∧ i = .int .i64 k ∧ Hid (∃ c2, CopC c c2 ∧ c2.changes = c.changes.take k ∧ CpS 31 43 82 w c M g c2 wr)) (fun i _ => nc - (intOf i).toNat)
  case atStart => exact ⟨0, Nat.zero_le _, rfl, Lib.hid ⟨c', HCC.out, by rw [HCZ.out, List.take_zero], HL0.out⟩⟩
  case round =>
   obtain ⟨k, hk, rfl, hL⟩ := hrel
   obtain ⟨c2, hcc, hct, hcp⟩ := hL.out
   have HCC2 := Lib.hid hcc
   have HCT := Lib.hid hct
   have HL := Lib.hid hcp
   clear hL hcc hct hcp HL0 HCC HCZ
   have b10 := HL.out.ab.cell 10
   unfold cdC at b10
   simp only [List.getElem?_toArray, List.getElem?_cons_zero, List.getElem?_cons_succ] at b10
   rw [← HNC.out] at b10
   have hlb := HL.out.ab.lt
   by_cases hlt : k < nc
   ·
    obtain ⟨x, hx⟩ := get_some (l := c.changes) (by rw [← HNC.out]; exact hlt)
    have HX := Lib.hid hx
    have HLEN : Hid (c2.changes.length = k) := Lib.hid (by rw [HCT.out, List.length_take, ← HNC.out]; omega)
    obtain ⟨b, off, hab, q0, q1, q2, q3, q4, q5⟩ := edit_at ((HC.out.row).ext HL.out.below) hx
    rw [hab] at b10
    have HAB := Lib.hid hab
    clear hx hab
    have hbl : b < wr.heap.size := cell_lt q0
    obtain ⟨ge, hge⟩ : ∃ q, q = wr.heap.size := ⟨_, rfl⟩
    obtain ⟨W2, hW2⟩ : ∃ q, q = wr.alloc (.cells #[.int .i64 x.fl, .int .i64 x.fu, .int .i64 x.tl, .int .i64 x.tu, .string ⟨x.text.toArray⟩, .bool x.whole] 82) := ⟨_, rfl⟩
    have hb : Below wr.heap.size wr W2 := by rw [hW2]; exact below_a1 _ _
    have HL2 : Hid (CpS 31 43 82 w c M g c2 W2) := Lib.hid (HL.out.ext hb)
    have HE : Hid (Blk W2 ge (edC x) 82) := Lib.hid (by rw [hW2, hge]; exact Blk.new rfl)
    go_upto_region 9 with (fail)
    rw [← hge, ← hW2]
    clear hW2 hge hb q0 q1 q2 q3 q4 q5 b10 hlb hbl
    have b10 := HL2.out.ab.cell 10
    have o10 := HL2.out.ob.cell 10
    unfold cdC at b10 o10
    simp only [List.getElem?_toArray, List.getElem?_cons_zero, List.getElem?_cons_succ] at b10 o10
    rw [← HNC.out] at b10
    have f10 := HL2.out.ob.free 10
    have hxe := HE.out
    unfold edC at hxe
    obtain ⟨z0, z1, z2, z3, z4, z5⟩ := hxe.sixT
    clear hxe
    rw [HLEN.out] at o10
    have HO : Hid (Own (W2.alloc (.cells (edC x) 82)) M 82 6 c2.a k c2.c (c2.changes.flatMap E.cells)) := Lib.hid (by rw [← HLEN.out]; exact HL2.out.own.ext (below_a1 _ _))
    have HMS : Hid (M ≤ (W2.alloc (.cells (edC x) 82)).heap.size) := Lib.hid (by have := HL2.out.ms; simp; omega)
    unfold edC at HO HMS
    have hob := HL2.out.ob.lt
    go_wp2_with (at_builtin; refine wpList_append_Own rfl _ _ 41 rfl M 82 _ 6 56 Tryz.underlying41 Tryz.infoEdit rfl (by decide) c2.a k c2.c _ rfl HO.out (some ⟨W2.heap.size, 0, none⟩) 1 1 x.cells rfl (row_blk (Blk.new rfl) rfl) (by intro u hu; simp [E.cells] at hu; rcases hu with rfl | rfl | rfl | rfl | rfl | rfl <;> rfl) (by unfold maxLen; omega) (by omega) HMS.out ?_; intro a5 c5 w5 ho5 hg5 hb5; have HG5 := Lib.hid hg5; have HO5 := Lib.hid ho5; have HL5 := Lib.hid ((HL2.out.ext (below_a1 _ _)).app (by rw [HLEN.out]; exact ho5) hg5); have f5 := (HL2.out.ob.ext (below_a1 W2 (.cells #[.int .i64 x.fl, .int .i64 x.fu, .int .i64 x.tl, .int .i64 x.tu, .string ⟨x.text.toArray⟩, .bool x.whole] 82))).grown hg5 (by have := HL2.out.own.apart HL2.out.gm; exact this); have g10 := f5.free 10; have s10 := f5.cell 10; unfold cdC at s10; simp only [List.getElem?_toArray, List.getElem?_cons_zero, List.getElem?_cons_succ] at s10; clear hg5 ho5 hb5 f5 z0 z1 z2 z3 z4 z5 o10 f10 b10)
    go_roundw
    case rel => exact ⟨k + 1, by omega, by go_num, Lib.hid ⟨_, copC_step HCC2.out _ _ _, by rw [take_snoc1 HX.out, ← HCT.out], by rw [← HLEN.out]; exact HL5.out⟩⟩
    case measure => simp [intOf]; omega
   ·
    have hkn : k = nc := by omega
    subst hkn
    have HLT : Hid (c2.changes = c.changes) := Lib.hid (by rw [HCT.out, HNC.out, List.take_length])
    go_wp2_with (first | ((with_reducible show wpList _ _ _ (⟨some 70, _, _, _, _, _⟩ :: _) _ _); refine load_call rfl _ rfl g rfl c2 HL.out.ob ?_) | ((with_reducible show wpList _ _ _ (⟨none, Op.store 43 (Operand.tmp 2) _, _, _, _, _⟩ :: _) _ _); refine store_call rfl _ _ rfl (w.heap.size + 1) c2 zeroCD rfl rfl HL.out.rb ?_))
    exact of04_end (g := w.heap.size + 1) rfl (setRow_blk HL.out.rb) (HL.out.fin HCC2.out HLT.out)
end Go.Proofs.YthnbeebilomchaaGreatDoor

namespace Go.Proofs.YthnbeebilomchaaGreatDoor
open Go Go.RowKit

end Go.Proofs.YthnbeebilomchaaGreatDoor

namespace Go.Proofs.YthnbeebilomchaaGreatDoor
open Go Go.RowKit

structure SaR (w : World) (a b : CD) (W : World) : Prop where
  below : Below w.heap.size w W
  ablk : Blk W w.heap.size (cdC a) 31
  bblk : Blk W (w.heap.size + 1) (cdC b) 31
  aat : CallAt W a
  bat : CallAt W b
theorem SaR.ext {w : World} {a b : CD} {W W' : World} (h : SaR w a b W) (hb : Below W.heap.size W W') : SaR w a b W' := ⟨h.below.trans (hb.mono h.below.size), h.ablk.ext hb, h.bblk.ext hb, h.aat.ext hb, h.bat.ext hb⟩
theorem neq_place (a b c d : Int) (w : World) : (binOp .neq 29 (.agg #[.int .i64 a, .int .i64 b]) (.agg #[.int .i64 c, .int .i64 d])).run Tryz.prog w = .ok (.bool (!(a == c && b == d))) w := by
  by_cases h1 : a = c <;> by_cases h2 : b = d <;> simp [binOp, Op.equal, Op.maxDepth, go_sem, h1, h2]
set_option maxHeartbeats 4000000 in
theorem neq_editR (a b : E) (w : World) : (binOp .neq 71 (.agg #[.int .i64 a.fl, .int .i64 a.fu, .int .i64 a.tl, .int .i64 a.tu, .string ⟨a.text.toArray⟩, .bool a.whole]) (.agg #[.int .i64 b.fl, .int .i64 b.fu, .int .i64 b.tl, .int .i64 b.tu, .string ⟨b.text.toArray⟩, .bool b.whole])).run Tryz.prog w = .ok (.bool (!edB a b)) w := by
 unfold edB
 by_cases h1 : a.fl = b.fl
 ·
  by_cases h2 : a.fu = b.fu
  ·
   by_cases h3 : a.tl = b.tl
   ·
    by_cases h4 : a.tu = b.tu
    ·
     by_cases h5 : a.text = b.text
     ·
      by_cases h6 : a.whole = b.whole
      ·
       simp [binOp, Op.equal, Op.maxDepth, go_sem, h1, h2, h3, h4, h5, h6]
      ·
       simp [binOp, Op.equal, Op.maxDepth, go_sem, h1, h2, h3, h4, h5, h6]
     ·
      simp [binOp, Op.equal, Op.maxDepth, go_sem, h1, h2, h3, h4, h5]
    ·
     simp [binOp, Op.equal, Op.maxDepth, go_sem, h1, h2, h3, h4]
   ·
    simp [binOp, Op.equal, Op.maxDepth, go_sem, h1, h2, h3]
  ·
   simp [binOp, Op.equal, Op.maxDepth, go_sem, h1, h2]
 ·
  simp [binOp, Op.equal, Op.maxDepth, go_sem, h1]
set_option maxHeartbeats 8000000 in
set_option maxRecDepth 20000 in
theorem sameC_any (a b : CD) (w : World) (ha : CallAt w a) (hb : CallAt w b) (hsa : sizeV a.id.v ≤ 1048576) (hsa2 : sizeV a.other.v ≤ 1048576) (hn : a.changes.length ≤ 1048576) :
  Calls Tryz.prog 24 #[.agg (cdC a), .agg (cdC b)] w (Ret w (IsB (SameP a b))) := by
 obtain ⟨W0, hW0⟩ : ∃ W0, W0 = (w.alloc (.cells (cdC a) 31)).alloc (.cells (cdC b) 31) := ⟨_, rfl⟩
 have hb0 : Below w.heap.size w W0 := by rw [hW0]; exact (below_a1 w _).alloc (by simp) _
 have HS0 : Hid (SaR w a b W0) := Lib.hid ⟨hb0, by rw [hW0]; exact (Blk.new rfl).alloc _, by rw [hW0]; exact Blk.new (by simp), ha.ext hb0, hb.ext hb0⟩
 have HSA := Lib.hid hsa
 have HSO := Lib.hid hsa2
 have HNA := Lib.hid hn
 clear ha hb hsa hsa2 hn hb0
 go_enter Tryz.func24, Tryz.ntmps24
 go_upto_region 1 with (fail)
 rw [← hW0]
 clear hW0
 have a1 := HS0.out.ablk.cell 1
 have a2 := HS0.out.ablk.cell 2
 have a3 := HS0.out.ablk.cell 3
 have a4 := HS0.out.ablk.cell 4
 have a5 := HS0.out.ablk.cell 5
 have a6 := HS0.out.ablk.cell 6
 have b1 := HS0.out.bblk.cell 1
 have b2 := HS0.out.bblk.cell 2
 have b3 := HS0.out.bblk.cell 3
 have b4 := HS0.out.bblk.cell 4
 have b5 := HS0.out.bblk.cell 5
 have b6 := HS0.out.bblk.cell 6
 unfold cdC at a1 a2 a3 a4 a5 a6 b1 b2 b3 b4 b5 b6
 simp only [List.getElem?_toArray, List.getElem?_cons_zero, List.getElem?_cons_succ] at a1 a2 a3 a4 a5 a6 b1 b2 b3 b4 b5 b6
 have h1 := sameR_any a.id b.id W0 HS0.out.aat.id HS0.out.bat.id HSA.out
 rw [VD.val6, VD.val6] at h1
 have H1 := Lib.hid h1
 clear h1
 go_wp2_with fail
 refine H1.out.mono ?_
 rintro e W1 ⟨_, rfl, hb1, r1, rfl, hr1⟩
 have HR1 := Lib.hid hr1
 have HS1 := Lib.hid (HS0.out.ext hb1)
 clear a1 a2 a3 a4 a5 a6 b1 b2 b3 b4 b5 b6
 clear hb1 hr1 H1 HS0
 have a13 := HS1.out.ablk.cell 13
 have a14 := HS1.out.ablk.cell 14
 have a15 := HS1.out.ablk.cell 15
 have a16 := HS1.out.ablk.cell 16
 have a17 := HS1.out.ablk.cell 17
 have a18 := HS1.out.ablk.cell 18
 have b13 := HS1.out.bblk.cell 13
 have b14 := HS1.out.bblk.cell 14
 have b15 := HS1.out.bblk.cell 15
 have b16 := HS1.out.bblk.cell 16
 have b17 := HS1.out.bblk.cell 17
 have b18 := HS1.out.bblk.cell 18
 unfold cdC at a13 a14 a15 a16 a17 a18 b13 b14 b15 b16 b17 b18
 simp only [List.getElem?_toArray, List.getElem?_cons_zero, List.getElem?_cons_succ] at a13 a14 a15 a16 a17 a18 b13 b14 b15 b16 b17 b18
 have h1 := sameR_any a.other b.other W1 HS1.out.aat.other HS1.out.bat.other HSO.out
 rw [VD.val6, VD.val6] at h1
 have H1 := Lib.hid h1
 clear h1
 go_wp2_with fail
 refine H1.out.mono ?_
 rintro e W2 ⟨_, rfl, hb1, r2, rfl, hr1⟩
 have HR2 := Lib.hid hr1
 have HS2 := Lib.hid (HS1.out.ext hb1)
 clear a13 a14 a15 a16 a17 a18 b13 b14 b15 b16 b17 b18
 clear hb1 hr1 H1 HS1
 cases r1 with
 | false =>
  have HF : Hid (a.id.v ≠ b.id.v) := Lib.hid (fun h => by have := HR1.out.2 h; cases this)
  go_wp2
  go_ret
  exact ⟨_, rfl, HS2.out.below, false, rfl, ⟨(fun h => by cases h), fun h => absurd h.2.1 (by first | exact HF.out | (simpa using HF.out))⟩⟩
 | true =>
 have HE1 : Hid (a.id.v = b.id.v) := Lib.hid (HR1.out.1 rfl)
 cases r2 with
 | false =>
  have HF : Hid (a.other.v ≠ b.other.v) := Lib.hid (fun h => by have := HR2.out.2 h; cases this)
  go_wp2
  go_ret
  exact ⟨_, rfl, HS2.out.below, false, rfl, ⟨(fun h => by cases h), fun h => absurd h.2.2.2.2.2.2.2 (by first | exact HF.out | (simpa using HF.out))⟩⟩
 | true =>
 have HE2 : Hid (a.other.v = b.other.v) := Lib.hid (HR2.out.1 rfl)
 clear HR1 HR2
 have a0 := HS2.out.ablk.cell 0
 have a7 := HS2.out.ablk.cell 7
 have a8 := HS2.out.ablk.cell 8
 have a9 := HS2.out.ablk.cell 9
 have a10 := HS2.out.ablk.cell 10
 have a11 := HS2.out.ablk.cell 11
 have a12 := HS2.out.ablk.cell 12
 have b0 := HS2.out.bblk.cell 0
 have b7 := HS2.out.bblk.cell 7
 have b8 := HS2.out.bblk.cell 8
 have b9 := HS2.out.bblk.cell 9
 have b10 := HS2.out.bblk.cell 10
 have b11 := HS2.out.bblk.cell 11
 have b12 := HS2.out.bblk.cell 12
 unfold cdC at a0 a7 a8 a9 a10 a11 a12 b0 b7 b8 b9 b10 b11 b12
 simp only [List.getElem?_toArray, List.getElem?_cons_zero, List.getElem?_cons_succ] at a0 a7 a8 a9 a10 a11 a12 b0 b7 b8 b9 b10 b11 b12
 by_cases hk : a.kind = b.kind
 case neg =>
  have fk : (a.kind == b.kind) = false := by simpa using hk
  have HF := Lib.hid hk
  clear hk
  go_wp2
  go_ret
  exact ⟨_, rfl, HS2.out.below, false, rfl, ⟨(fun h => by cases h), fun h => absurd h.1 (by first | exact HF.out | (simpa using HF.out))⟩⟩
 have fk : (a.kind == b.kind) = true := by simpa using hk
 have HK := Lib.hid hk
 clear hk
 by_cases hn : a.name = b.name
 case neg =>
  have fn : (a.name == b.name) = false := by simpa using hn
  have HF := Lib.hid hn
  clear hn
  go_wp2
  go_ret
  exact ⟨_, rfl, HS2.out.below, false, rfl, ⟨(fun h => by cases h), fun h => absurd h.2.2.1 (by first | exact HF.out | (simpa using HF.out))⟩⟩
 have fn : (a.name == b.name) = true := by simpa using hn
 have HN := Lib.hid hn
 clear hn
 by_cases hv : a.version = b.version
 case neg =>
  have fv : (a.version == b.version) = false := by simpa using hv
  have HF := Lib.hid hv
  clear hv
  go_wp2
  go_ret
  exact ⟨_, rfl, HS2.out.below, false, rfl, ⟨(fun h => by cases h), fun h => absurd h.2.2.2.1 (by first | exact HF.out | (simpa using HF.out))⟩⟩
 have fv : (a.version == b.version) = true := by simpa using hv
 have HV := Lib.hid hv
 clear hv
 by_cases ht : a.text = b.text
 case neg =>
  have ft : (a.text == b.text) = false := by simpa using ht
  have HF := Lib.hid ht
  clear ht
  go_wp2
  go_ret
  exact ⟨_, rfl, HS2.out.below, false, rfl, ⟨(fun h => by cases h), fun h => absurd h.2.2.2.2.1 (by first | exact HF.out | (simpa using HF.out))⟩⟩
 have ft : (a.text == b.text) = true := by simpa using ht
 have HT := Lib.hid ht
 clear ht
 obtain ⟨r3, hr3⟩ : ∃ r, r = (a.pl == b.pl && a.pu == b.pu) := ⟨_, rfl⟩
 have hpl : ∀ w, (binOp .neq 29 (.agg #[.int .i64 a.pl, .int .i64 a.pu]) (.agg #[.int .i64 b.pl, .int .i64 b.pu])).run Tryz.prog w = .ok (.bool (!r3)) w := fun w => by rw [hr3]; exact neq_place _ _ _ _ w
 have HR3 := Lib.hid hr3
 clear hr3
 cases r3 with
 | false =>
  have HF : Hid (¬ (a.pl = b.pl ∧ a.pu = b.pu)) := Lib.hid (fun h => by have := HR3.out; rw [h.1, h.2] at this; simp at this)
  go_wp2
  go_ret
  exact ⟨_, rfl, HS2.out.below, false, rfl, ⟨(fun h => by cases h), fun h => absurd h.2.2.2.2.2.2.1 (by first | exact HF.out | (simpa using HF.out))⟩⟩
 | true =>
 have HE3 : Hid (a.pl = b.pl ∧ a.pu = b.pu) := Lib.hid (by have := HR3.out.symm; simpa using this)
 obtain ⟨n, hnn⟩ : ∃ n, n = a.changes.length := ⟨_, rfl⟩
 obtain ⟨m, hmm⟩ : ∃ n, n = b.changes.length := ⟨_, rfl⟩
 rw [← hnn] at a10
 rw [← hmm] at b10
 have HNN := Lib.hid hnn
 have HMM := Lib.hid hmm
 have hn1 : n ≤ 1048576 := by rw [hnn]; exact HNA.out
 clear hnn hmm HR3
 by_cases hln : n = m
 case neg =>
  have fl : ((n : Int) == (m : Int)) = false := by simp; omega
  have HF : Hid (a.changes ≠ b.changes) := Lib.hid (fun h => hln (by rw [HNN.out, HMM.out, h]))
  clear hln
  go_wp2
  go_ret
  exact ⟨_, rfl, HS2.out.below, false, rfl, ⟨(fun h => by cases h), fun h => absurd h.2.2.2.2.2.1 (by first | exact HF.out | (simpa using HF.out))⟩⟩
 subst hln
 have fl : ((n : Int) == (n : Int)) = true := by simp
 have HNA2 : Hid (n = a.changes.length ∧ n = b.changes.length) := Lib.hid ⟨HNN.out, HMM.out⟩
 clear HNN HMM HNA
 go_wp2
 clear a0 a7 a8 a9 a10 a11 a12 b0 b7 b8 b9 b10 b11 b12 fk fn fv ft fl hpl
 go_loopw [7] (fun i wr => ∃ k : Nat, k ≤ n ∧ i = .int .i64 k ∧ Hid (a.changes.take k = b.changes.take k) ∧ Hid (SaR w a b wr)) (fun i _ => n - (intOf i).toNat)
 case atStart => exact ⟨0, Nat.zero_le _, rfl, Lib.hid rfl, HS2⟩
 case round =>
  obtain ⟨k, hk, rfl, HQ, HB⟩ := hrel
  have a10 := HB.out.ablk.cell 10
  have b10 := HB.out.bblk.cell 10
  unfold cdC at a10 b10
  simp only [List.getElem?_toArray, List.getElem?_cons_zero, List.getElem?_cons_succ] at a10 b10
  rw [← HNA2.out.1] at a10
  rw [← HNA2.out.2] at b10
  by_cases hlt : k < n
  ·
   obtain ⟨x, hx⟩ := get_some (l := a.changes) (i := k) (by rw [← HNA2.out.1]; exact hlt)
   obtain ⟨y, hy⟩ := get_some (l := b.changes) (i := k) (by rw [← HNA2.out.2]; exact hlt)
   have HX := Lib.hid hx
   have HY := Lib.hid hy
   obtain ⟨b1, o1, e1, p0, p1, p2, p3, p4, p5⟩ := edit_at HB.out.aat.row hx
   obtain ⟨b2, o2, e2, d0, d1, d2, d3, d4, d5⟩ := edit_at HB.out.bat.row hy
   rw [e1] at a10
   rw [e2] at b10
   have hi0 : (0 : Int) ≤ (k : Int) := by omega
   have hi1 : (k : Int) < (n : Int) := by omega
   obtain ⟨q, he⟩ : ∃ e, e = edB x y := ⟨_, rfl⟩
   have hne : ∀ w, (binOp .neq 71 (.agg #[.int .i64 x.fl, .int .i64 x.fu, .int .i64 x.tl, .int .i64 x.tu, .string ⟨x.text.toArray⟩, .bool x.whole]) (.agg #[.int .i64 y.fl, .int .i64 y.fu, .int .i64 y.tl, .int .i64 y.tu, .string ⟨y.text.toArray⟩, .bool y.whole])).run Tryz.prog w = .ok (.bool (!q)) w := fun w => by rw [he]; exact neq_editR x y w
   have HE := Lib.hid he
   clear hx hy he e1 e2
   go_wp2_with fail
   cases q with
   | true =>
    go_quiet (fail)
    go_wp2
    go_roundw
    case rel => exact ⟨k + 1, by omega, by go_num, Lib.hid (eqEs_step HQ.out HX.out HY.out HE.out.symm), Lib.hid (HB.out.ext (below_drew (Below.refl _ _) _))⟩
    case measure => simp [intOf]; omega
   | false =>
    have HF : Hid (a.changes ≠ b.changes) := Lib.hid (fun h => by have := eqEs_no HX.out HY.out HE.out.symm; rw [(eqEs_iff _ _).2 h] at this; cases this)
    go_quiet (fail)
    go_wp2
    go_ret
    exact ⟨_, rfl, below_drew HB.out.below _, false, rfl, ⟨(fun h => by cases h), fun h => absurd h.2.2.2.2.2.1 (by first | exact HF.out | (simpa using HF.out))⟩⟩
  ·
   have hkn : k = n := by omega
   have HF : Hid (a.changes = b.changes) := Lib.hid (by have := HQ.out; rw [List.take_of_length_le (by rw [← HNA2.out.1]; omega), List.take_of_length_le (by rw [← HNA2.out.2]; omega)] at this; exact this)
   clear hkn
   go_wp2
   go_ret
   exact ⟨_, rfl, HB.out.below, true, rfl, ⟨fun _ => ⟨HK.out, HE1.out, HN.out, HV.out, HT.out, HF.out, HE3.out, HE2.out⟩, fun _ => rfl⟩⟩
end Go.Proofs.YthnbeebilomchaaGreatDoor

namespace Go.Proofs.YthnbeebilomchaaGreatDoor
open Go Go.RowKit

def chN (l : List E) : Nat := (l.map fun e => 1 + e.text.length).sum
def bulkC (c : CD) : Nat := sizeV c.id.v + sizeV c.other.v + (c.name.length + c.text.length) + chN c.changes
theorem chN_snoc {l : List E} {k : Nat} {x : E} (hx : l[k]? = some x) : chN (l.take (k + 1)) = chN (l.take k) + (1 + x.text.length) := by
  unfold chN
  rw [take_snoc1 hx, List.map_append, List.sum_append]
  simp
theorem chN_mem {l : List E} {x : E} (hx : x ∈ l) : 1 + x.text.length ≤ chN l := by
  unfold chN
  induction l with
  | nil => cases hx
  | cons y l ih =>
    simp only [List.map_cons, List.sum_cons]
    rcases List.mem_cons.1 hx with rfl | h
    · omega
    · have := ih h; omega
theorem chN_len (l : List E) : l.length ≤ chN l := by
  unfold chN
  induction l with
  | nil => simp
  | cons y l ih => simp only [List.map_cons, List.sum_cons, List.length_cons]; omega
def SmallC (c : CD) : Prop := c.name.length + c.text.length + chN c.changes ≤ 400 ∧ sizeV c.id.v ≤ 400 ∧ sizeV c.other.v ≤ 400
def SmaE (w : World) (c : CD) (e : Ending) (w' : World) : Prop := ∃ b : Bool, e = .returned (.bool b) ∧ (b = true → SmallC c) ∧ Below w.heap.size w w'
structure SmS (w : World) (c : CD) (W : World) : Prop where
  below : Below w.heap.size w W
  ablk : Blk W w.heap.size (cdC c) 31
  aat : CallAt W c
theorem SmS.ext {w : World} {c : CD} {W W' : World} (h : SmS w c W) (hb : Below W.heap.size W W') : SmS w c W' := ⟨h.below.trans (hb.mono h.below.size), h.ablk.ext hb, h.aat.ext hb⟩
set_option maxHeartbeats 8000000 in
set_option maxRecDepth 20000 in
theorem small_any (c : CD) (w : World) (hc : CallAt w c) (hs : bulkC c ≤ 1048576) : Calls Tryz.prog 6 #[.agg (cdC c)] w (SmaE w c) := by
 obtain ⟨W0, hW0⟩ : ∃ W0, W0 = w.alloc (.cells (cdC c) 31) := ⟨_, rfl⟩
 have hb0 : Below w.heap.size w W0 := by rw [hW0]; exact below_a1 _ _
 have HS0 : Hid (SmS w c W0) := Lib.hid ⟨hb0, by rw [hW0]; exact Blk.new rfl, hc.ext hb0⟩
 have HBU := Lib.hid hs
 clear hc hs hb0
 go_enter Tryz.func6, Tryz.ntmps6
 go_upto_region 1 with (fail)
 rw [← hW0]
 clear hW0
 obtain ⟨nc, hnc⟩ : ∃ n, n = c.changes.length := ⟨_, rfl⟩
 have HNC := Lib.hid hnc
 have h7 := HS0.out.ablk.cell 7
 have h9 := HS0.out.ablk.cell 9
 unfold cdC at h7 h9
 simp only [List.getElem?_toArray, List.getElem?_cons_zero, List.getElem?_cons_succ] at h7 h9
 have bn : c.name.length ≤ 1048576 := by have := HBU.out; unfold bulkC at this; omega
 have bt : c.text.length ≤ 1048576 := by have := HBU.out; unfold bulkC at this; omega
 have bc : nc ≤ 1048576 := by have := HBU.out; unfold bulkC at this; have := chN_len c.changes; omega
 clear hnc
 go_wp2_with fail
 go_loopw [3, 4] (fun a i wr => ∃ (k m : Nat), k ≤ nc ∧ i = .int .i64 k ∧ a = .int .i64 m ∧ m ≤ 4194304 ∧ Hid (m = c.name.length + c.text.length + chN (c.changes.take k)) ∧ Hid (SmS w c wr)) (fun _ i _ => nc - (intOf i).toNat)
 case atStart => exact ⟨0, c.name.length + c.text.length, Nat.zero_le _, rfl, by go_num, by omega, Lib.hid (by simp [chN]), HS0⟩
 case round =>
  obtain ⟨k, m, hk, rfl, rfl, hm, HM, HL⟩ := hrel
  clear h7 h9
  have h10 := HL.out.ablk.cell 10
  unfold cdC at h10
  simp only [List.getElem?_toArray, List.getElem?_cons_zero, List.getElem?_cons_succ] at h10
  rw [← HNC.out] at h10
  by_cases hlt : k < nc
  ·
   by_cases hsm : m ≤ 400
   ·
    obtain ⟨x, hx⟩ := get_some (l := c.changes) (by rw [← HNC.out]; exact hlt)
    have HX := Lib.hid hx
    obtain ⟨b, off, hab, q0, q1, q2, q3, q4, q5⟩ := edit_at HL.out.aat.row hx
    rw [hab] at h10
    have bx : x.text.length ≤ 1048576 := by have := HBU.out; unfold bulkC at this; have := chN_mem (List.mem_of_getElem? hx); omega
    clear hx hab
    go_wp2_with fail
    go_roundw
    case rel => exact ⟨k + 1, m + 1 + x.text.length, by omega, by go_num, by go_num, by omega, Lib.hid (by rw [chN_snoc HX.out, HM.out]; omega), HL⟩
    case measure => simp [intOf]; omega
   ·
    go_wp2
    go_ret
    exact ⟨false, rfl, (fun h => by cases h), HL.out.below⟩
  ·
   have hkn : k = nc := by omega
   subst hkn
   by_cases hsm : m ≤ 400
   ·
    have HMM : Hid (c.name.length + c.text.length + chN c.changes ≤ 400) := Lib.hid (by
     have := HM.out
     rw [HNC.out, List.take_length] at this
     omega)
    have HSI : Hid (sizeV c.id.v ≤ 1048576 ∧ sizeV c.other.v ≤ 1048576) := Lib.hid (by have := HBU.out; unfold bulkC at this; omega)
    clear HM
    have c1 := HL.out.ablk.cell 1
    have c2 := HL.out.ablk.cell 2
    have c3 := HL.out.ablk.cell 3
    have c4 := HL.out.ablk.cell 4
    have c5 := HL.out.ablk.cell 5
    have c6 := HL.out.ablk.cell 6
    unfold cdC at c1 c2 c3 c4 c5 c6
    simp only [List.getElem?_toArray, List.getElem?_cons_zero, List.getElem?_cons_succ] at c1 c2 c3 c4 c5 c6
    have h1 := size_any c.id wr HL.out.aat.id HSI.out.1
    rw [VD.val6] at h1
    have H1 := Lib.hid h1
    clear h1
    go_wp2_with fail
    refine H1.out.mono ?_
    clear H1 c1 c2 c3 c4 c5 c6 h10
    rintro e w1 ⟨m1, rfl, hm1, hm2, hb⟩
    have HL1 := Lib.hid (HL.out.ext hb)
    have HZ1 := Lib.hid hm2
    have hz1 : m1 ≤ 1048576 := Nat.le_trans hm1 HSI.out.1
    clear hb hm1 hm2 HL
    have HL := HL1
    clear HL1
    by_cases hs1 : m1 ≤ 400
    case neg =>
     go_wp2
     go_ret
     exact ⟨false, rfl, (fun h => by cases h), HL.out.below⟩
    have HE1 : Hid (sizeV c.id.v ≤ 400) := Lib.hid (by rw [← HZ1.out hs1]; exact hs1)
    have c13 := HL.out.ablk.cell 13
    have c14 := HL.out.ablk.cell 14
    have c15 := HL.out.ablk.cell 15
    have c16 := HL.out.ablk.cell 16
    have c17 := HL.out.ablk.cell 17
    have c18 := HL.out.ablk.cell 18
    unfold cdC at c13 c14 c15 c16 c17 c18
    simp only [List.getElem?_toArray, List.getElem?_cons_zero, List.getElem?_cons_succ] at c13 c14 c15 c16 c17 c18
    have h1 := size_any c.other w1 HL.out.aat.other HSI.out.2
    rw [VD.val6] at h1
    have H1 := Lib.hid h1
    clear h1
    go_wp2_with fail
    refine H1.out.mono ?_
    clear H1 c13 c14 c15 c16 c17 c18 
    rintro e w2 ⟨m2, rfl, hm1, hm2, hb⟩
    have HL2 := Lib.hid (HL.out.ext hb)
    have HZ2 := Lib.hid hm2
    have hz2 : m2 ≤ 1048576 := Nat.le_trans hm1 HSI.out.2
    clear hb hm1 hm2 HL
    have HL := HL2
    clear HL2
    go_wp2
    go_ret
    exact ⟨decide ((m2 : Int) ≤ 400), rfl, (fun h => ⟨HMM.out, HE1.out, by have h1 : m2 ≤ 400 := by { have := of_decide_eq_true h; omega }; rw [← HZ2.out h1]; exact h1⟩), HL.out.below⟩
   ·
    go_wp2
    go_ret
    exact ⟨false, rfl, (fun h => by cases h), HL.out.below⟩
/-! ### sizes -/
theorem size_edit (e : E) : sizeV (editW e) ≤ 60 + e.text.length := by
  obtain ⟨a, b, c, d, t, w⟩ := e
  cases w <;>
  (simp [editW, atW, recW, strW, numW, kText, kRange, kStart, kEnd, kLine, kChar, sizeV, sizesV]
   try omega)
theorem size_edits : ∀ l : List E, sizesV (l.map editW) ≤ 60 * chN l
  | [] => by simp [sizesV]
  | e :: l => by
    have h1 := size_edit e
    have h2 := size_edits l
    simp only [List.map_cons, sizesV, chN, List.sum_cons] at h1 h2 ⊢
    omega
end Go.Proofs.YthnbeebilomchaaGreatDoor

namespace Go.Proofs.YthnbeebilomchaaGreatDoor
open Go Go.RowKit Go.ChangeAt Go.ChangeShapes Go.WideShapes Go.Deep Go.Joins

theorem Tryz.cellsPlace : Tryz.prog.cellsOf 29 = 2 := by kernel_rfl
theorem Tryz.cellsApiEdit : Tryz.prog.cellsOf 69 = 5 := by kernel_rfl
theorem Tryz.cellsDocEdit : Tryz.prog.cellsOf 71 = 6 := by kernel_rfl
theorem Tryz.cellsDocCall : Tryz.prog.cellsOf 31 = 19 := by kernel_rfl
theorem Tryz.cellsDocEdits : Tryz.prog.cellsOf 27 = 1 := by kernel_rfl
theorem list2 {α : Type} {cs : List α} (h : cs.length = 2) : ∃ a b, cs = [a, b] := by
  match cs, h with
  | [a, b], _ => exact ⟨a, b, rfl⟩
theorem list3 {α : Type} {cs : List α} (h : cs.length = 3) : ∃ a b c, cs = [a, b, c] := by
  match cs, h with
  | [a, b, c], _ => exact ⟨a, b, c, rfl⟩
theorem list5 {α : Type} {cs : List α} (h : cs.length = 5) : ∃ a b c d e, cs = [a, b, c, d, e] := by
  match cs, h with
  | [a, b, c, d, e], _ => exact ⟨a, b, c, d, e, rfl⟩
theorem list8 {α : Type} {cs : List α} (h : cs.length = 8) : ∃ a b c d e f g k, cs = [a, b, c, d, e, f, g, k] := by
  match cs, h with
  | [a, b, c, d, e, f, g, k], _ => exact ⟨a, b, c, d, e, f, g, k, rfl⟩
theorem list19 {α : Type} {cs : List α} (h : cs.length = 19) : ∃ a0 a1 a2 a3 a4 a5 a6 a7 a8 a9 a10 a11 a12 a13 a14 a15 a16 a17 a18, cs = [a0, a1, a2, a3, a4, a5, a6, a7, a8, a9, a10, a11, a12, a13, a14, a15, a16, a17, a18] := by
  match cs, h with
  | [a0, a1, a2, a3, a4, a5, a6, a7, a8, a9, a10, a11, a12, a13, a14, a15, a16, a17, a18], _ => exact ⟨a0, a1, a2, a3, a4, a5, a6, a7, a8, a9, a10, a11, a12, a13, a14, a15, a16, a17, a18, rfl⟩
section
variable {H : Type} {enc : TypeId × Value → H} {w : World} {base : Nat} {spare : Nat → Bool} {held : Bool}
theorem open_place {n : Nat} {cs : List Value} {y : DataW H × List MemPlace} (h : DataW.trod enc Tryz.prog w base spare held n 29 cs = some y) : ∃ a b : Int, cs = [.int .i64 a, .int .i64 b] := by
  obtain ⟨xs, n', -, hy, hl, hn, hf⟩ := DataW.trod_struct Tryz.underlying29 h
  rw [Tryz.cellsPlace] at hl
  obtain ⟨c0, c1, rfl⟩ := list2 hl
  obtain ⟨y0, y1, rfl⟩ := list2 hn
  have h0 := hf 0 _ rfl
  have h1 := hf 1 _ rfl
  simp [Tryz.cellsInt1] at h0 h1
  obtain ⟨a, ha, -, -⟩ := DataW.trod_int Tryz.underlying3 h0
  obtain ⟨b, hb, -, -⟩ := DataW.trod_int Tryz.underlying3 h1
  simp only [List.cons.injEq, and_true] at ha hb
  exact ⟨a, b, by rw [ha, hb]⟩
theorem open_apiEdit {n : Nat} {cs : List Value} {y : DataW H × List MemPlace} (h : DataW.trod enc Tryz.prog w base spare held n 69 cs = some y) : ∃ (a b c d : Int) (t : Nm), cs = [.int .i64 a, .int .i64 b, .int .i64 c, .int .i64 d, strV t] ∧ t.length + 1 ≤ Rows.uptoBulk y.1 := by
 obtain ⟨xs, n', -, hy, hl, hn, hf⟩ := DataW.trod_struct Tryz.underlying69 h
 rw [Tryz.cellsApiEdit] at hl
 obtain ⟨c0, c1, c2, c3, c4, rfl⟩ := list5 hl
 obtain ⟨y0, y1, y2, rfl⟩ := list3 hn
 have h0 := hf 0 _ rfl
 have h1 := hf 1 _ rfl
 have h2 := hf 2 _ rfl
 simp [Tryz.cellsPlace, Tryz.cells1String] at h0 h1 h2
 obtain ⟨a, b, hab⟩ := open_place h0
 obtain ⟨c, d, hcd⟩ := open_place h1
 obtain ⟨t, ht, htl⟩ := string_formB _ _ _ h2
 simp only [List.cons.injEq, and_true] at hab hcd ht
 obtain ⟨rfl, rfl⟩ := hab
 obtain ⟨rfl, rfl⟩ := hcd
 subst ht
 refine ⟨a, b, c, d, t, rfl, ?_⟩
 rw [hy]
 simp only [List.map_cons, List.map_nil, Rows.uptoBulk, Rows.uptoBulkAll]
 omega
theorem open_edit (n : Nat) (cs : List Value) (y : DataW H × List MemPlace) (h : DataW.trod enc Tryz.prog w base spare held n 71 cs = some y) : ∃ e : E, cs = e.cells ∧ 1 + e.text.length ≤ Rows.uptoBulk y.1 := by
  obtain ⟨xs, n', -, hy, hl, hn, hf⟩ := DataW.trod_struct Tryz.underlying71 h
  rw [Tryz.cellsDocEdit] at hl
  obtain ⟨c0, c1, c2, c3, c4, c5, rfl⟩ := list6 hl
  obtain ⟨y0, y1, rfl⟩ := list2 hn
  have h0 := hf 0 _ rfl
  have h1 := hf 1 _ rfl
  simp [Tryz.cellsApiEdit, Tryz.cellsBool] at h0 h1
  obtain ⟨a, b, c, d, t, he, ht⟩ := open_apiEdit h0
  obtain ⟨on, hon, -, -⟩ := DataW.trod_bool Tryz.underlying4 h1
  simp only [List.cons.injEq, and_true] at he hon
  obtain ⟨rfl, rfl, rfl, rfl, rfl⟩ := he
  subst hon
  refine ⟨⟨a, b, c, d, t, on⟩, rfl, ?_⟩
  rw [hy]
  simp only [List.map_cons, List.map_nil, Rows.uptoBulk, Rows.uptoBulkAll]
  omega
theorem edits_bulk {n : Nat} {X : Nat → E} {D : Nat → DataW H} (h : ∀ i, i < n → 1 + (X i).text.length ≤ Rows.uptoBulk (D i)) : chN ((List.range n).map X) ≤ Rows.uptoBulkAll ((List.range n).map D) := by
  induction n with
  | zero => simp [chN]
  | succ n ih =>
    rw [List.range_succ, List.map_append, List.map_append, bulk_app]
    have h1 := ih fun i hi => h i (by omega)
    have h2 := h n (Nat.lt_succ_self n)
    unfold chN at h1 ⊢
    rw [List.map_append, List.sum_append]
    simp only [List.map_cons, List.map_nil, Rows.uptoBulkAll, List.sum_cons, List.sum_nil]; omega
theorem open_call (n : Nat) (cs : List Value) (y : DataW H × List MemPlace) (h : DataW.trod enc Tryz.prog w base spare held n 31 cs = some y) : ∃ x : CD, cs = (cdC x).toList ∧ CallAt w x ∧ bulkC x ≤ Rows.uptoBulk y.1 := by
 obtain ⟨xs, n', -, hy, hl, hn, hf⟩ := DataW.trod_struct Tryz.underlying31 h
 rw [Tryz.cellsDocCall] at hl
 obtain ⟨a0, a1, a2, a3, a4, a5, a6, a7, a8, a9, a10, a11, a12, a13, a14, a15, a16, a17, a18, rfl⟩ := list19 hl
 obtain ⟨y0, y1, y2, y3, y4, y5, y6, y7, rfl⟩ := list8 hn
 have h0 := hf 0 _ rfl
 have h1 := hf 1 _ rfl
 have h2 := hf 2 _ rfl
 have h3 := hf 3 _ rfl
 have h4 := hf 4 _ rfl
 have h5 := hf 5 _ rfl
 have h6 := hf 6 _ rfl
 have h7 := hf 7 _ rfl
 simp [Tryz.cells1String, Tryz.cellsInt1, Tryz.cellsDoc, Tryz.cellsPlace, Tryz.cellsDocEdits] at h0 h1 h2 h3 h4 h5 h6 h7
 obtain ⟨kd, hk, -, -⟩ := DataW.trod_int Tryz.underlying3 h0
 obtain ⟨i, hi, hiv, hiw⟩ := open_doc _ _ _ h1
 obtain ⟨nm, hnm, hnw⟩ := string_formB _ _ _ h2
 obtain ⟨vs, hvs, -, -⟩ := DataW.trod_int Tryz.underlying3 h3
 obtain ⟨tx, htx, htw⟩ := string_formB _ _ _ h4
 obtain ⟨a, l, cap, X, D, hv, hr, hX, hD, hw⟩ := open_rowB E.cells 6 (by decide) E.len Tryz.underlying27 Tryz.cellsDocEdit (fun e d => 1 + e.text.length ≤ Rows.uptoBulk d) open_edit h5
 obtain ⟨pl, pu, hp⟩ := open_place h6
 obtain ⟨o, ho, hov, how⟩ := open_doc _ _ _ h7
 simp only [List.cons.injEq, and_true] at hk hnm hvs htx hp
 obtain ⟨rfl, rfl⟩ := hp
 subst hk hnm hvs htx hv
 rw [val_list] at hi ho
 simp only [List.cons.injEq, and_true] at hi ho
 obtain ⟨rfl, rfl, rfl, rfl, rfl, rfl⟩ := hi
 obtain ⟨rfl, rfl, rfl, rfl, rfl, rfl⟩ := ho
 have h8 := edits_bulk (n := l.length) (X := X) (D := D) hD
 rw [← hX] at h8
 refine ⟨⟨kd, i, nm, vs, tx, a, cap, l, pl, pu, o⟩, rfl, ⟨hiv, hov, hr⟩, ?_⟩
 rw [hy]
 simp only [bulkC, List.map_cons, List.map_nil, Rows.uptoBulk, Rows.uptoBulkAll]
 omega
end
end Go.Proofs.YthnbeebilomchaaGreatDoor

namespace Go.Proofs.YthnbeebilomchaaGreatDoor
open Go Go.RowKit

theorem method_len (k : Nat) : (methodN k).length ≤ 40 := by
  have hall : ∀ l ∈ methodL, l.length ≤ 40 := by decide
  unfold methodN
  rw [List.getD_eq_getElem?_getD]
  cases h : methodL[k]? with
  | none => exact Nat.zero_le _
  | some l => exact hall l (List.mem_of_getElem? h)
theorem size_params (c : C) : sizeV (paramsW c) ≤ 1000 + sizeV c.other + c.name.length + c.text.length + 60 * chN c.changes := by
  have hl := size_edits c.changes
  unfold paramsW
  split
  · simp [recW, sizeV, sizesV, kId]; omega
  · split
    · rename_i h4
      rw [h4]
      simp [recW, strW, numW, sizeV, sizesV, kDoc, kUri, kVersion, kText]
      omega
    · split
      · simp [recW, strW, numW, listW, sizeV, sizesV, kDoc, kUri, kVersion, kChanges] at hl ⊢
        omega
      · split
        · simp [recW, strW, numW, atW, sizeV, sizesV, kDoc, kUri, kPosition, kLine, kChar]
          omega
        · simp [recW, strW, sizeV, sizesV, kDoc, kUri]
          omega
theorem size_msg (c : C) : sizeV (msgW c) ≤ 2000 + sizeV c.id + sizeV c.other + c.name.length + c.text.length + 60 * chN c.changes := by
  have hp := size_params c
  have hm := method_len c.kind
  unfold msgW
  split <;> split <;> (simp [recW, strW, sizeV, sizesV, kJson, kId, kMethod, kParams, v20] <;> omega)
end Go.Proofs.YthnbeebilomchaaGreatDoor

namespace Go.Proofs.YthnbeebilomchaaGreatDoor
open Go Go.RowKit

structure RcB (w W : World) (c : CD) (f : VD) : Prop where
  one : Blk W w.heap.size (cdC c) 31
  two : Blk W (w.heap.size + 1) #[.int .i64 f.sort, .bool f.on, .int .i64 f.n, .string ⟨f.text.toArray⟩, .slice f.a f.list.length f.c, .slice f.ka f.keys.length f.kc] 26
  glob : Glob W
  cat : CallAt W c
  vb : ValAt W (fun _ => True) f
  below : Below w.heap.size w W
theorem RcB.ext {w W W' : World} {c : CD} {f : VD} (h : RcB w W c f) (hb : Below W.heap.size W W') : RcB w W' c f :=
  ⟨h.one.ext hb, h.two.ext hb, h.glob.ext hb, h.cat.ext hb, h.vb.ext hb, h.below.trans (hb.mono h.below.size)⟩
structure CX (W : World) (g : Nat) (c : CD) (y : C) : Prop where
  blk : Blk W g (cdC c) 43
  cat : CallAt W c
  k : c.k = y
  pos : 0 ≤ c.kind
theorem CX.ext {W W' : World} {g : Nat} {c : CD} {y : C} (h : CX W g c y) (hb : Below W.heap.size W W') : CX W' g c y := ⟨h.blk.ext hb, h.cat.ext hb, h.k, h.pos⟩
structure CY (W : World) (c : CD) (y : C) : Prop where
  cat : CallAt W c
  k : c.k = y
  pos : 0 ≤ c.kind
theorem CY.ext {W W' : World} {c : CD} {y : C} (h : CY W c y) (hb : Below W.heap.size W W') : CY W' c y := ⟨h.cat.ext hb, h.k, h.pos⟩
theorem small_msg {c : CD} (h : SmallC c) : sizeV (msgW c.k) ≤ 27000 := by
  have h1 := size_msg c.k
  obtain ⟨h2, h3, h4⟩ := h
  have e1 : sizeV c.k.id = sizeV c.id.v := rfl
  have e2 : sizeV c.k.other = sizeV c.other.v := rfl
  have e3 : c.k.name = c.name := rfl
  have e4 : c.k.text = c.text := rfl
  have e5 : c.k.changes = c.changes := rfl
  rw [e1, e2, e3, e4, e5] at h1
  omega
theorem copC_size {c c' : CD} (h : CopC c c') (hl : c'.changes = c.changes) (hs : SmallC c) : sizeV (msgW c'.k) ≤ 1048576 ∧ sizeV c'.id.v ≤ 1048576 ∧ sizeV c'.other.v ≤ 1048576 ∧ c'.changes.length ≤ 1048576 := by
  have h1 := small_msg hs
  obtain ⟨h2, h3, h4⟩ := hs
  have h5 := chN_len c.changes
  refine ⟨by rw [copC_k h hl]; omega, by rw [h.2.1]; omega, by rw [h.2.2.2.2.2.2.2]; omega, by rw [hl]; omega⟩
end Go.Proofs.YthnbeebilomchaaGreatDoor

namespace Go.Proofs.YthnbeebilomchaaGreatDoor
open Go Go.RowKit

def okN (v : V) (p : List Nm) : Bool := (getV v p).isSome && ((getV v p).getD V.null).sort == 2
def okT (v : V) (p : List Nm) : Bool := (getV v p).isSome && ((getV v p).getD V.null).sort == 3
def nN (v : V) (p : List Nm) : Int := ((getV v p).getD V.null).n
def tN (v : V) (p : List Nm) : Nm := ((getV v p).getD V.null).text
theorem numR_go (d : VD) (pa : Option Addr) (pc : Nat) (p : List Nm) (w : World) (hv : ValAt w (fun _ => True) d) (hp : Row w 1 pa p.length (p.map strV)) (hl : p.length ≤ 1048576) (hs : sizeV d.v ≤ 1048576) :
    Calls Tryz.prog 80 #[.agg #[.int .i64 d.sort, .bool d.on, .int .i64 d.n, .string ⟨d.text.toArray⟩, .slice d.a d.list.length d.c, .slice d.ka d.keys.length d.kc], .slice pa p.length pc] w (fun e w' => e = .returned (.tuple #[.int .i64 (nN d.v p), .bool (okN d.v p)]) ∧ Below w.heap.size w w') := by
  have h := numberW_any d pa pc p w hv hp hl hs
  rwa [VD.val6] at h
theorem textR_go (d : VD) (pa : Option Addr) (pc : Nat) (p : List Nm) (w : World) (hv : ValAt w (fun _ => True) d) (hp : Row w 1 pa p.length (p.map strV)) (hl : p.length ≤ 1048576) (hs : sizeV d.v ≤ 1048576) :
    Calls Tryz.prog 59 #[.agg #[.int .i64 d.sort, .bool d.on, .int .i64 d.n, .string ⟨d.text.toArray⟩, .slice d.a d.list.length d.c, .slice d.ka d.keys.length d.kc], .slice pa p.length pc] w (fun e w' => e = .returned (.tuple #[.string ⟨(tN d.v p).toArray⟩, .bool (okT d.v p)]) ∧ Below w.heap.size w w') := by
  have h := textW_any d pa pc p w hv hp hl hs
  rwa [VD.val6] at h
def GotE (w : World) (r : Option V) (e : Ending) (w' : World) : Prop := ∃ (x : VD) (b : Bool), e = .returned (.tuple #[.agg #[.int .i64 x.sort, .bool x.on, .int .i64 x.n, .string ⟨x.text.toArray⟩, .slice x.a x.list.length x.c, .slice x.ka x.keys.length x.kc], .bool b]) ∧ x.v = r.getD V.null ∧ b = r.isSome ∧ ValAt w' (fun _ => True) x ∧ Below w.heap.size w w'
theorem getR_go (d : VD) (pa : Option Addr) (pc : Nat) (p : List Nm) (w : World) (hv : ValAt w (fun _ => True) d) (hp : Row w 1 pa p.length (p.map strV)) (hl : p.length ≤ 1048576) (hs : sizeV d.v ≤ 1048576) :
    Calls Tryz.prog 60 #[.agg #[.int .i64 d.sort, .bool d.on, .int .i64 d.n, .string ⟨d.text.toArray⟩, .slice d.a d.list.length d.c, .slice d.ka d.keys.length d.kc], .slice pa p.length pc] w (GotE w (getV d.v p)) := by
  have h := getR_any d pa pc p w hv hp hl hs
  rw [VD.val6] at h
  exact h.mono fun e w' h => get_u h
def plX (v : V) (p : List Nm) : V := (getV v p).getD V.null
def plO (v : V) (p : List Nm) : Bool := (getV v p).isSome && okN (plX v p) [kLine] && okN (plX v p) [kChar]
def plA (v : V) (p : List Nm) : Int := nN (plX v p) [kLine]
def plB (v : V) (p : List Nm) : Int := nN (plX v p) [kChar]
def PlaE (w : World) (v : V) (p : List Nm) (e : Ending) (w' : World) : Prop := e = .returned (.tuple #[.agg #[.int .i64 (plA v p), .int .i64 (plB v p)], .bool (plO v p)]) ∧ Below w.heap.size w w'
theorem pla_fin {w w' : World} {v x : V} {p : List Nm} {b c d : Bool} {m n : Int} (h : Below w.heap.size w w') (hx : x = plX v p) (hb : b = (getV v p).isSome) (hm : m = nN x [kLine]) (hn : n = nN x [kChar]) (hc : c = okN x [kLine]) (hd : d = okN x [kChar]) {q : Bool} (hq : q = (b && c && d)) :
    PlaE w v p (.returned (.tuple #[.agg #[.int .i64 m, .int .i64 n], .bool q])) w' := by
  subst hx hb hm hn hc hd hq
  exact ⟨rfl, h⟩
theorem placeR_end {W : World} {tm : Array Value} {R : Ending → World → Prop} {g : Nat} {u0 u1 : Value} (h2 : tm.getD 4 undef = .pointer (some ⟨g, 0, none⟩)) {q : Value} (h3 : tm.getD 5 undef = q) (hB : Blk W g #[u0, u1] 29)
    (hR : R (.returned (.tuple #[.agg #[u0, u1], q])) W) : bodyPost Tryz.prog Tryz.f82 R .ret { tmps := tm, defers := [] } W := by
  have d0 := hB.cell 0
  have d1 := hB.cell 1
  simp only [List.getElem?_toArray, List.getElem?_cons_zero, List.getElem?_cons_succ] at d0 d1
  rw [Array.getD_eq_getD_getElem?] at h2 h3
  refine bodyPost_ret (v := .tuple #[.agg #[u0, u1], q]) ?_ rfl hR
  simp [results, Tryz.results82, go_sem, h2, h3, d0, d1]
theorem Blk.twoT {w : World} {g : Nat} {u0 u1 : Value} {T : TypeId} (h : Blk w g #[u0, u1] T) : w.cell? ⟨g, 0, none⟩ = some u0 ∧ w.cell? ⟨g, 1, none⟩ = some u1 := ⟨h.cell 0, h.cell 1⟩
theorem put_b {B g o : Nat} {w w' : World} {u : Value} (hg : B ≤ g) (h : Below B w w') : Below B w (w'.setCell ⟨g, o, none⟩ u) := h.setCell (p := ⟨g, o, none⟩) hg u
set_option maxHeartbeats 4000000 in
theorem placeR_any (d : VD) (pa : Option Addr) (pc : Nat) (p : List Nm) (w : World) (hv : ValAt w (fun _ => True) d) (hp : Row w 1 pa p.length (p.map strV)) (hl : p.length ≤ 1048576) (hs : sizeV d.v ≤ 1048576) :
  Calls Tryz.prog 82 #[.agg #[.int .i64 d.sort, .bool d.on, .int .i64 d.n, .string ⟨d.text.toArray⟩, .slice d.a d.list.length d.c, .slice d.ka d.keys.length d.kc], .slice pa p.length pc] w (PlaE w d.v p) := by
 obtain ⟨W1, hW1⟩ : ∃ q, q = (w.alloc (.cells #[.int .i64 d.sort, .bool d.on, .int .i64 d.n, .string ⟨d.text.toArray⟩, .slice d.a d.list.length d.c, .slice d.ka d.keys.length d.kc] 26)).alloc (.cells #[.int .i64 0, .int .i64 0] 29) := ⟨_, rfl⟩
 have hb : Below w.heap.size w W1 := by rw [hW1]; exact (below_a1 w _).alloc (by simp) _
 have HL : Hid (Below w.heap.size w W1 ∧ Blk W1 w.heap.size #[.int .i64 d.sort, .bool d.on, .int .i64 d.n, .string ⟨d.text.toArray⟩, .slice d.a d.list.length d.c, .slice d.ka d.keys.length d.kc] 26 ∧ Blk W1 (w.heap.size + 1) #[.int .i64 0, .int .i64 0] 29 ∧ ValAt W1 (fun _ => True) d) := Lib.hid ⟨hb, by rw [hW1]; exact (Blk.new rfl).alloc _, by rw [hW1]; exact Blk.new (by simp), hv.ext hb⟩
 have HP : Hid (Row W1 1 pa p.length (p.map strV)) := Lib.hid (hp.ext hb)
 have HS := Lib.hid hs
 have HN := Lib.hid hl
 clear hb hv hp hs hl
 generalize hpl : p.length = pn at HP HN ⊢
 go_enter Tryz.func82, Tryz.ntmps82
 go_upto_region 1 with (fail)
 rw [← hW1]
 clear hW1
 obtain ⟨c0, c1, c2, c3, c4, c5⟩ := HL.out.2.1.sixT
 subst hpl
 go_wp2_with fail
 have h1 := getR_go d pa pc p W1 HL.out.2.2.2 HP.out HN.out HS.out
 refine h1.mono ?_
 clear h1 c0 c1 c2 c3 c4 c5 HP HN
 rintro e W2 ⟨x, b, rfl, hxv, hbv, hxa, hb⟩
 have HLn : Hid (Below w.heap.size w W2 ∧ Blk W2 w.heap.size #[.int .i64 d.sort, .bool d.on, .int .i64 d.n, .string ⟨d.text.toArray⟩, .slice d.a d.list.length d.c, .slice d.ka d.keys.length d.kc] 26 ∧ Blk W2 (w.heap.size + 1) #[.int .i64 0, .int .i64 0] 29 ∧ ValAt W2 (fun _ => True) d ∧ ValAt W2 (fun _ => True) x) := Lib.hid (⟨HL.out.1.trans (hb.mono HL.out.1.size), HL.out.2.1.ext hb, HL.out.2.2.1.ext hb, HL.out.2.2.2.ext hb, hxa⟩)
 clear HL hb
 have HL := HLn
 clear HLn
 have HX : Hid (x.v = plX d.v p) := Lib.hid hxv
 have HB : Hid (b = (getV d.v p).isSome) := Lib.hid hbv
 have HXS : Hid (sizeV x.v ≤ 1048576) := Lib.hid (by rw [hxv]; exact Nat.le_trans (getD_size _ _) HS.out)
 clear hxv hbv hxa HS
 obtain ⟨gx, hg⟩ : ∃ q, q = W2.heap.size := ⟨_, rfl⟩
 obtain ⟨W3, hQ⟩ : ∃ q, q = W2.alloc (.cells #[.int .i64 x.sort, .bool x.on, .int .i64 x.n, .string ⟨x.text.toArray⟩, .slice x.a x.list.length x.c, .slice x.ka x.keys.length x.kc] 26) := ⟨_, rfl⟩
 have hb : Below W2.heap.size W2 W3 := by rw [hQ]; exact below_a1 _ _
 have HLn : Hid (Below w.heap.size w W3 ∧ Blk W3 w.heap.size #[.int .i64 d.sort, .bool d.on, .int .i64 d.n, .string ⟨d.text.toArray⟩, .slice d.a d.list.length d.c, .slice d.ka d.keys.length d.kc] 26 ∧ Blk W3 (w.heap.size + 1) #[.int .i64 0, .int .i64 0] 29 ∧ ValAt W3 (fun _ => True) d ∧ ValAt W3 (fun _ => True) x ∧ Blk W3 gx #[.int .i64 x.sort, .bool x.on, .int .i64 x.n, .string ⟨x.text.toArray⟩, .slice x.a x.list.length x.c, .slice x.ka x.keys.length x.kc] 26) := Lib.hid (⟨HL.out.1.trans (hb.mono HL.out.1.size), HL.out.2.1.ext hb, HL.out.2.2.1.ext hb, HL.out.2.2.2.1.ext hb, HL.out.2.2.2.2.ext hb, by rw [hQ, hg]; exact Blk.new rfl⟩)
 clear HL hb
 have HL := HLn
 clear HLn
 go_upto_region 2 with (fail)
 rw [← hQ, ← hg]
 clear hQ hg
 obtain ⟨c0, c1, c2, c3, c4, c5⟩ := HL.out.2.2.2.2.2.sixT
 go_wp2_with fail
 have h1 := numR_go x (some ⟨W3.heap.size, 0, none⟩) 1 [kLine] (W3.alloc (.cells #[strV kLine] 9)) (HL.out.2.2.2.2.1.ext (below_a1 _ _)) (row_blk (Blk.new rfl) rfl) (by simp) HXS.out
 refine h1.mono ?_
 clear h1 c0 c1 c2 c3 c4 c5
 rintro e W4 ⟨rfl, hb1⟩
 have hb : Below W3.heap.size W3 W4 := (below_a1 W3 (.cells #[strV kLine] 9)).trans (hb1.mono (by simp))
 clear hb1
 have HLn : Hid (Below w.heap.size w W4 ∧ Blk W4 w.heap.size #[.int .i64 d.sort, .bool d.on, .int .i64 d.n, .string ⟨d.text.toArray⟩, .slice d.a d.list.length d.c, .slice d.ka d.keys.length d.kc] 26 ∧ Blk W4 (w.heap.size + 1) #[.int .i64 0, .int .i64 0] 29 ∧ ValAt W4 (fun _ => True) d ∧ ValAt W4 (fun _ => True) x ∧ Blk W4 gx #[.int .i64 x.sort, .bool x.on, .int .i64 x.n, .string ⟨x.text.toArray⟩, .slice x.a x.list.length x.c, .slice x.ka x.keys.length x.kc] 26) := Lib.hid (⟨HL.out.1.trans (hb.mono HL.out.1.size), HL.out.2.1.ext hb, HL.out.2.2.1.ext hb, HL.out.2.2.2.1.ext hb, HL.out.2.2.2.2.1.ext hb, HL.out.2.2.2.2.2.ext hb⟩)
 clear HL hb
 have HL := HLn
 clear HLn
 obtain ⟨m1, hm⟩ : ∃ q, q = nN x.v [kLine] := ⟨_, rfl⟩
 obtain ⟨o1, ho⟩ : ∃ q, q = okN x.v [kLine] := ⟨_, rfl⟩
 rw [← hm, ← ho]
 have HM1 := Lib.hid hm
 have HO1 := Lib.hid ho
 clear hm ho
 obtain ⟨c0, c1, c2, c3, c4, c5⟩ := HL.out.2.2.2.2.2.sixT
 go_wp2_with fail
 have h1 := numR_go x (some ⟨W4.heap.size, 0, none⟩) 1 [kChar] (W4.alloc (.cells #[strV kChar] 9)) (HL.out.2.2.2.2.1.ext (below_a1 _ _)) (row_blk (Blk.new rfl) rfl) (by simp) HXS.out
 refine h1.mono ?_
 clear h1 c0 c1 c2 c3 c4 c5
 rintro e W5 ⟨rfl, hb1⟩
 have hb : Below W4.heap.size W4 W5 := (below_a1 W4 (.cells #[strV kChar] 9)).trans (hb1.mono (by simp))
 clear hb1
 have HLn : Hid (Below w.heap.size w W5 ∧ Blk W5 w.heap.size #[.int .i64 d.sort, .bool d.on, .int .i64 d.n, .string ⟨d.text.toArray⟩, .slice d.a d.list.length d.c, .slice d.ka d.keys.length d.kc] 26 ∧ Blk W5 (w.heap.size + 1) #[.int .i64 0, .int .i64 0] 29 ∧ ValAt W5 (fun _ => True) d ∧ ValAt W5 (fun _ => True) x ∧ Blk W5 gx #[.int .i64 x.sort, .bool x.on, .int .i64 x.n, .string ⟨x.text.toArray⟩, .slice x.a x.list.length x.c, .slice x.ka x.keys.length x.kc] 26) := Lib.hid (⟨HL.out.1.trans (hb.mono HL.out.1.size), HL.out.2.1.ext hb, HL.out.2.2.1.ext hb, HL.out.2.2.2.1.ext hb, HL.out.2.2.2.2.1.ext hb, HL.out.2.2.2.2.2.ext hb⟩)
 clear HL hb
 have HL := HLn
 clear HLn
 obtain ⟨m2, hm⟩ : ∃ q, q = nN x.v [kChar] := ⟨_, rfl⟩
 obtain ⟨o2, ho⟩ : ∃ q, q = okN x.v [kChar] := ⟨_, rfl⟩
 rw [← hm, ← ho]
 have HM2 := Lib.hid hm
 have HO2 := Lib.hid ho
 clear hm ho
 have f0 := HL.out.2.2.1.free 0
 have f1 := HL.out.2.2.1.free 1
 obtain ⟨d0, d1⟩ := HL.out.2.2.1.twoT
 cases b <;> cases o1
 ·
  go_wp2
  refine placeR_end (g := w.heap.size + 1) rfl rfl ((HL.out.2.2.1.set 0 _).set 1 _) ?_
  exact pla_fin (put_b (by omega) (put_b (by omega) HL.out.1)) HX.out HB.out HM1.out HM2.out HO1.out HO2.out rfl
 ·
  go_wp2
  refine placeR_end (g := w.heap.size + 1) rfl rfl ((HL.out.2.2.1.set 0 _).set 1 _) ?_
  exact pla_fin (put_b (by omega) (put_b (by omega) HL.out.1)) HX.out HB.out HM1.out HM2.out HO1.out HO2.out rfl
 ·
  go_wp2
  refine placeR_end (g := w.heap.size + 1) rfl rfl ((HL.out.2.2.1.set 0 _).set 1 _) ?_
  exact pla_fin (put_b (by omega) (put_b (by omega) HL.out.1)) HX.out HB.out HM1.out HM2.out HO1.out HO2.out rfl
 ·
  go_wp2
  refine placeR_end (g := w.heap.size + 1) rfl rfl ((HL.out.2.2.1.set 0 _).set 1 _) ?_
  exact pla_fin (put_b (by omega) (put_b (by omega) HL.out.1)) HX.out HB.out HM1.out HM2.out HO1.out HO2.out rfl
end Go.Proofs.YthnbeebilomchaaGreatDoor

namespace Go.Proofs.YthnbeebilomchaaGreatDoor
open Go Go.RowKit

def chR (v : V) : E × Bool := if (getV v [kRange]).isSome = true then (⟨plA v [kRange, kStart], plB v [kRange, kStart], plA v [kRange, kEnd], plB v [kRange, kEnd], tN v [kText], false⟩, okT v [kText] && plO v [kRange, kStart] && plO v [kRange, kEnd]) else (⟨0, 0, 0, 0, tN v [kText], true⟩, okT v [kText])
def ChaE (w : World) (v : V) (e : Ending) (w' : World) : Prop := e = .returned (.tuple #[.agg (edC (chR v).1), .bool (chR v).2]) ∧ Below w.heap.size w w'
theorem gText_N (v : V) (p : List Nm) : gText v p = if okT v p = true then some (tN v p) else none := by
  unfold gText okT tN
  cases getV v p with
  | none => rfl
  | some x =>
    simp only [Option.bind_some, Option.isSome_some, Bool.true_and, Option.getD_some, beq_iff_eq]
theorem gNum_N (v : V) (p : List Nm) : gNum v p = if okN v p = true then some (nN v p) else none := by
  unfold gNum okN nN
  cases getV v p with
  | none => rfl
  | some x =>
    simp only [Option.bind_some, Option.isSome_some, Bool.true_and, Option.getD_some, beq_iff_eq]
theorem getV_app : ∀ (p q : List Nm) (v : V), getV v (p ++ q) = (getV v p).bind fun x => getV x q
  | [], q, v => by first | (rw [getV_nil, Option.bind_some]; done) | (rw [getV_nil, Option.bind_some]; rfl)
  | k :: p, q, v => by
    rw [List.cons_append, getV, getV]
    cases stepV v k with
    | none => rfl
    | some x => exact getV_app p q x
theorem okN_app (v : V) (p : List Nm) (k : Nm) : okN v (p ++ [k]) = ((getV v p).isSome && okN (plX v p) [k]) := by
  unfold okN plX
  rw [getV_app]
  cases getV v p with
  | none => rfl
  | some x => simp
theorem nN_app (v : V) (p : List Nm) (k : Nm) : nN v (p ++ [k]) = nN (plX v p) [k] := by
  unfold nN plX
  rw [getV_app]
  cases getV v p with
  | none => rfl
  | some x => simp
theorem gPlace_N (v : V) (p : List Nm) : gPlace v p = if plO v p = true then some (plA v p, plB v p) else none := by
  unfold gPlace plO plA plB
  rw [gNum_N, gNum_N, okN_app, okN_app, nN_app, nN_app]
  cases getV v p with
  | none => rfl
  | some x =>
    simp only [Option.isSome_some, Bool.true_and]
    cases okN (plX v p) [kLine] <;> cases okN (plX v p) [kChar] <;> rfl
theorem chL_R (v : V) : chL v = if (chR v).2 = true then some (chR v).1 else none := by
  unfold chL chR
  rw [gText_N, gPlace_N, gPlace_N]
  cases getV v [kRange] with
  | none => cases okT v [kText] <;> rfl
  | some r => cases okT v [kText] <;> cases plO v [kRange, kStart] <;> cases plO v [kRange, kEnd] <;> rfl
theorem changeR_end {W : World} {tm : Array Value} {R : Ending → World → Prop} {g : Nat} {u0 u1 u2 u3 u4 u5 : Value} (h2 : tm.getD 2 undef = .pointer (some ⟨g, 0, none⟩)) {q : Value} (h3 : tm.getD 3 undef = q) (hB : Blk W g #[u0, u1, u2, u3, u4, u5] 71)
    (hR : R (.returned (.tuple #[.agg #[u0, u1, u2, u3, u4, u5], q])) W) : bodyPost Tryz.prog Tryz.f103 R .ret { tmps := tm, defers := [] } W := by
  have d0 := hB.cell 0
  have d1 := hB.cell 1
  have d2 := hB.cell 2
  have d3 := hB.cell 3
  have d4 := hB.cell 4
  have d5 := hB.cell 5
  simp only [List.getElem?_toArray, List.getElem?_cons_zero, List.getElem?_cons_succ] at d0 d1 d2 d3 d4 d5
  rw [Array.getD_eq_getD_getElem?] at h2 h3
  refine bodyPost_ret (v := .tuple #[.agg #[u0, u1, u2, u3, u4, u5], q]) ?_ rfl hR
  simp [results, Tryz.results103, go_sem, h2, h3, d0, d1, d2, d3, d4, d5]
set_option maxHeartbeats 8000000 in
set_option maxRecDepth 20000 in
theorem changeR_any (d : VD) (w : World) (hv : ValAt w (fun _ => True) d) (hs : sizeV d.v ≤ 1048576) :
  Calls Tryz.prog 103 #[.agg #[.int .i64 d.sort, .bool d.on, .int .i64 d.n, .string ⟨d.text.toArray⟩, .slice d.a d.list.length d.c, .slice d.ka d.keys.length d.kc]] w (ChaE w d.v) := by
 obtain ⟨W1, hW1⟩ : ∃ q, q = (w.alloc (.cells #[.int .i64 d.sort, .bool d.on, .int .i64 d.n, .string ⟨d.text.toArray⟩, .slice d.a d.list.length d.c, .slice d.ka d.keys.length d.kc] 26)).alloc (.cells #[.int .i64 0, .int .i64 0, .int .i64 0, .int .i64 0, .string { data := #[] }, .bool false] 71) := ⟨_, rfl⟩
 have hb : Below w.heap.size w W1 := by rw [hW1]; exact (below_a1 w _).alloc (by simp) _
 have HL : Hid (Below w.heap.size w W1 ∧ Blk W1 w.heap.size #[.int .i64 d.sort, .bool d.on, .int .i64 d.n, .string ⟨d.text.toArray⟩, .slice d.a d.list.length d.c, .slice d.ka d.keys.length d.kc] 26 ∧ Blk W1 (w.heap.size + 1) #[.int .i64 0, .int .i64 0, .int .i64 0, .int .i64 0, .string { data := #[] }, .bool false] 71 ∧ ValAt W1 (fun _ => True) d) := Lib.hid ⟨hb, by rw [hW1]; exact (Blk.new rfl).alloc _, by rw [hW1]; exact Blk.new (by simp), hv.ext hb⟩
 have HS := Lib.hid hs
 clear hb hv hs
 go_enter Tryz.func103, Tryz.ntmps103
 go_upto_region 1 with (fail)
 rw [← hW1]
 clear hW1
 obtain ⟨c0, c1, c2, c3, c4, c5⟩ := HL.out.2.1.sixT
 go_wp2_with fail
 have h1 := textR_go d (some ⟨W1.heap.size, 0, none⟩) 1 [kText] (W1.alloc (.cells #[strV kText] 9)) (HL.out.2.2.2.ext (below_a1 _ _)) (row_blk (Blk.new rfl) rfl) (by simp) HS.out
 refine h1.mono ?_
 clear h1 c0 c1 c2 c3 c4 c5
 rintro e W2 ⟨rfl, hb1⟩
 have hb : Below W1.heap.size W1 W2 := (below_a1 W1 (.cells #[strV kText] 9)).trans (hb1.mono (by simp))
 clear hb1
 have HLn : Hid (Below w.heap.size w W2 ∧ Blk W2 w.heap.size #[.int .i64 d.sort, .bool d.on, .int .i64 d.n, .string ⟨d.text.toArray⟩, .slice d.a d.list.length d.c, .slice d.ka d.keys.length d.kc] 26 ∧ Blk W2 (w.heap.size + 1) #[.int .i64 0, .int .i64 0, .int .i64 0, .int .i64 0, .string { data := #[] }, .bool false] 71 ∧ ValAt W2 (fun _ => True) d) := Lib.hid (⟨HL.out.1.trans (hb.mono HL.out.1.size), HL.out.2.1.ext hb, HL.out.2.2.1.ext hb, HL.out.2.2.2.ext hb⟩)
 clear HL hb
 have HL := HLn
 clear HLn
 obtain ⟨t1, ht1⟩ : ∃ q, q = tN d.v [kText] := ⟨_, rfl⟩
 have HT1 := Lib.hid ht1
 obtain ⟨o1, ho1⟩ : ∃ q, q = okT d.v [kText] := ⟨_, rfl⟩
 have HO1 := Lib.hid ho1
 rw [← ht1, ← ho1]
 clear ht1 ho1
 obtain ⟨ge, hg⟩ : ∃ q, q = W2.heap.size := ⟨_, rfl⟩
 obtain ⟨W3, hQ⟩ : ∃ q, q = W2.alloc (.cells #[.int .i64 0, .int .i64 0, .int .i64 0, .int .i64 0, .string ⟨t1.toArray⟩, .bool true] 71) := ⟨_, rfl⟩
 have hb : Below W2.heap.size W2 W3 := by rw [hQ]; exact below_a1 _ _
 have HGE : Hid (w.heap.size + 2 ≤ ge) := Lib.hid (by rw [hg]; exact HL.out.2.2.1.lt)
 have HLn : Hid (Below w.heap.size w W3 ∧ Blk W3 w.heap.size #[.int .i64 d.sort, .bool d.on, .int .i64 d.n, .string ⟨d.text.toArray⟩, .slice d.a d.list.length d.c, .slice d.ka d.keys.length d.kc] 26 ∧ Blk W3 (w.heap.size + 1) #[.int .i64 0, .int .i64 0, .int .i64 0, .int .i64 0, .string { data := #[] }, .bool false] 71 ∧ ValAt W3 (fun _ => True) d ∧ Blk W3 ge #[.int .i64 0, .int .i64 0, .int .i64 0, .int .i64 0, .string ⟨t1.toArray⟩, .bool true] 71) := Lib.hid (⟨HL.out.1.trans (hb.mono HL.out.1.size), HL.out.2.1.ext hb, HL.out.2.2.1.ext hb, HL.out.2.2.2.ext hb, by rw [hQ, hg]; exact Blk.new rfl⟩)
 clear HL hb
 have HL := HLn
 clear HLn
 go_upto_region 4 with (fail)
 rw [← hQ, ← hg]
 clear hQ hg
 obtain ⟨c0, c1, c2, c3, c4, c5⟩ := HL.out.2.1.sixT
 go_wp2_with fail
 have h1 := getR_go d (some ⟨W3.heap.size, 0, none⟩) 1 [kRange] (W3.alloc (.cells #[strV kRange] 9)) (HL.out.2.2.2.1.ext (below_a1 _ _)) (row_blk (Blk.new rfl) rfl) (by simp) HS.out
 refine h1.mono ?_
 clear h1 c0 c1 c2 c3 c4 c5
 rintro e W4 ⟨x, b, rfl, -, hbv, -, hb1⟩
 have hb : Below W3.heap.size W3 W4 := (below_a1 W3 (.cells #[strV kRange] 9)).trans (hb1.mono (by simp))
 clear hb1
 have HLn : Hid (Below w.heap.size w W4 ∧ Blk W4 w.heap.size #[.int .i64 d.sort, .bool d.on, .int .i64 d.n, .string ⟨d.text.toArray⟩, .slice d.a d.list.length d.c, .slice d.ka d.keys.length d.kc] 26 ∧ Blk W4 (w.heap.size + 1) #[.int .i64 0, .int .i64 0, .int .i64 0, .int .i64 0, .string { data := #[] }, .bool false] 71 ∧ ValAt W4 (fun _ => True) d ∧ Blk W4 ge #[.int .i64 0, .int .i64 0, .int .i64 0, .int .i64 0, .string ⟨t1.toArray⟩, .bool true] 71) := Lib.hid (⟨HL.out.1.trans (hb.mono HL.out.1.size), HL.out.2.1.ext hb, HL.out.2.2.1.ext hb, HL.out.2.2.2.1.ext hb, HL.out.2.2.2.2.ext hb⟩)
 clear HL hb
 have HL := HLn
 clear HLn
 have HBV := Lib.hid hbv
 clear hbv
 obtain ⟨W5, hQ⟩ : ∃ q, q = W4.alloc (.cells #[.int .i64 x.sort, .bool x.on, .int .i64 x.n, .string ⟨x.text.toArray⟩, .slice x.a x.list.length x.c, .slice x.ka x.keys.length x.kc] 26) := ⟨_, rfl⟩
 have hb : Below W4.heap.size W4 W5 := by rw [hQ]; exact below_a1 _ _
 have HLn : Hid (Below w.heap.size w W5 ∧ Blk W5 w.heap.size #[.int .i64 d.sort, .bool d.on, .int .i64 d.n, .string ⟨d.text.toArray⟩, .slice d.a d.list.length d.c, .slice d.ka d.keys.length d.kc] 26 ∧ Blk W5 (w.heap.size + 1) #[.int .i64 0, .int .i64 0, .int .i64 0, .int .i64 0, .string { data := #[] }, .bool false] 71 ∧ ValAt W5 (fun _ => True) d ∧ Blk W5 ge #[.int .i64 0, .int .i64 0, .int .i64 0, .int .i64 0, .string ⟨t1.toArray⟩, .bool true] 71) := Lib.hid (⟨HL.out.1.trans (hb.mono HL.out.1.size), HL.out.2.1.ext hb, HL.out.2.2.1.ext hb, HL.out.2.2.2.1.ext hb, HL.out.2.2.2.2.ext hb⟩)
 clear HL hb
 have HL := HLn
 clear HLn
 go_upto_region 5 with (fail)
 rw [← hQ]
 clear hQ
 cases b with
 | false =>
  obtain ⟨e0, e1, e2, e3, e4, e5⟩ := HL.out.2.2.2.2.sixT
  have f0 := HL.out.2.2.1.free 0
  have f1 := HL.out.2.2.1.free 1
  have f2 := HL.out.2.2.1.free 2
  have f3 := HL.out.2.2.1.free 3
  have f4 := HL.out.2.2.1.free 4
  have f5 := HL.out.2.2.1.free 5
  obtain ⟨r0, r1, r2, r3, r4, r5⟩ := HL.out.2.2.1.sixT
  go_wp2
  refine changeR_end (g := w.heap.size + 1) rfl rfl (store6T HL.out.2.2.1) ?_
  refine ⟨?_, put6_below (o := 0) HL.out.1 (by omega)⟩
  have hq : chR d.v = (⟨0, 0, 0, 0, t1, true⟩, o1) := by unfold chR; rw [← HBV.out, if_neg (by decide), HT1.out, HO1.out]
  rw [hq]
  rfl
 | true =>
 obtain ⟨c0, c1, c2, c3, c4, c5⟩ := HL.out.2.1.sixT
 go_wp2_with fail
 have h1 := placeR_any d (some ⟨W5.heap.size, 0, none⟩) 2 [kRange, kStart] (W5.alloc (.cells #[strV kRange, strV kStart] 9)) (HL.out.2.2.2.1.ext (below_a1 _ _)) (row_blk (Blk.new rfl) rfl) (by simp) HS.out
 refine h1.mono ?_
 clear h1 c0 c1 c2 c3 c4 c5
 rintro e W6 ⟨rfl, hb1⟩
 have hb : Below W5.heap.size W5 W6 := (below_a1 W5 (.cells #[strV kRange, strV kStart] 9)).trans (hb1.mono (by simp))
 clear hb1
 have HLn : Hid (Below w.heap.size w W6 ∧ Blk W6 w.heap.size #[.int .i64 d.sort, .bool d.on, .int .i64 d.n, .string ⟨d.text.toArray⟩, .slice d.a d.list.length d.c, .slice d.ka d.keys.length d.kc] 26 ∧ Blk W6 (w.heap.size + 1) #[.int .i64 0, .int .i64 0, .int .i64 0, .int .i64 0, .string { data := #[] }, .bool false] 71 ∧ ValAt W6 (fun _ => True) d ∧ Blk W6 ge #[.int .i64 0, .int .i64 0, .int .i64 0, .int .i64 0, .string ⟨t1.toArray⟩, .bool true] 71) := Lib.hid (⟨HL.out.1.trans (hb.mono HL.out.1.size), HL.out.2.1.ext hb, HL.out.2.2.1.ext hb, HL.out.2.2.2.1.ext hb, HL.out.2.2.2.2.ext hb⟩)
 clear HL hb
 have HL := HLn
 clear HLn
 obtain ⟨sa, hsa⟩ : ∃ q, q = plA d.v [kRange, kStart] := ⟨_, rfl⟩
 have HSA := Lib.hid hsa
 obtain ⟨sb, hsb⟩ : ∃ q, q = plB d.v [kRange, kStart] := ⟨_, rfl⟩
 have HSB := Lib.hid hsb
 obtain ⟨so, hso⟩ : ∃ q, q = plO d.v [kRange, kStart] := ⟨_, rfl⟩
 have HSO := Lib.hid hso
 rw [← hsa, ← hsb, ← hso]
 clear hsa hsb hso
 obtain ⟨ga, hg⟩ : ∃ q, q = W6.heap.size := ⟨_, rfl⟩
 obtain ⟨W7, hQ⟩ : ∃ q, q = W6.alloc (.cells #[.int .i64 sa, .int .i64 sb] 29) := ⟨_, rfl⟩
 have hb : Below W6.heap.size W6 W7 := by rw [hQ]; exact below_a1 _ _
 have HLn : Hid (Below w.heap.size w W7 ∧ Blk W7 w.heap.size #[.int .i64 d.sort, .bool d.on, .int .i64 d.n, .string ⟨d.text.toArray⟩, .slice d.a d.list.length d.c, .slice d.ka d.keys.length d.kc] 26 ∧ Blk W7 (w.heap.size + 1) #[.int .i64 0, .int .i64 0, .int .i64 0, .int .i64 0, .string { data := #[] }, .bool false] 71 ∧ ValAt W7 (fun _ => True) d ∧ Blk W7 ge #[.int .i64 0, .int .i64 0, .int .i64 0, .int .i64 0, .string ⟨t1.toArray⟩, .bool true] 71 ∧ Blk W7 ga #[.int .i64 sa, .int .i64 sb] 29) := Lib.hid (⟨HL.out.1.trans (hb.mono HL.out.1.size), HL.out.2.1.ext hb, HL.out.2.2.1.ext hb, HL.out.2.2.2.1.ext hb, HL.out.2.2.2.2.ext hb, by rw [hQ, hg]; exact Blk.new rfl⟩)
 clear HL hb
 have HL := HLn
 clear HLn
 go_upto_region 7 with (fail)
 rw [← hQ, ← hg]
 clear hQ hg
 obtain ⟨c0, c1, c2, c3, c4, c5⟩ := HL.out.2.1.sixT
 go_wp2_with fail
 have h1 := placeR_any d (some ⟨W7.heap.size, 0, none⟩) 2 [kRange, kEnd] (W7.alloc (.cells #[strV kRange, strV kEnd] 9)) (HL.out.2.2.2.1.ext (below_a1 _ _)) (row_blk (Blk.new rfl) rfl) (by simp) HS.out
 refine h1.mono ?_
 clear h1 c0 c1 c2 c3 c4 c5
 rintro e W8 ⟨rfl, hb1⟩
 have hb : Below W7.heap.size W7 W8 := (below_a1 W7 (.cells #[strV kRange, strV kEnd] 9)).trans (hb1.mono (by simp))
 clear hb1
 have HLn : Hid (Below w.heap.size w W8 ∧ Blk W8 w.heap.size #[.int .i64 d.sort, .bool d.on, .int .i64 d.n, .string ⟨d.text.toArray⟩, .slice d.a d.list.length d.c, .slice d.ka d.keys.length d.kc] 26 ∧ Blk W8 (w.heap.size + 1) #[.int .i64 0, .int .i64 0, .int .i64 0, .int .i64 0, .string { data := #[] }, .bool false] 71 ∧ ValAt W8 (fun _ => True) d ∧ Blk W8 ge #[.int .i64 0, .int .i64 0, .int .i64 0, .int .i64 0, .string ⟨t1.toArray⟩, .bool true] 71 ∧ Blk W8 ga #[.int .i64 sa, .int .i64 sb] 29) := Lib.hid (⟨HL.out.1.trans (hb.mono HL.out.1.size), HL.out.2.1.ext hb, HL.out.2.2.1.ext hb, HL.out.2.2.2.1.ext hb, HL.out.2.2.2.2.1.ext hb, HL.out.2.2.2.2.2.ext hb⟩)
 clear HL hb
 have HL := HLn
 clear HLn
 obtain ⟨ua, hua⟩ : ∃ q, q = plA d.v [kRange, kEnd] := ⟨_, rfl⟩
 have HUA := Lib.hid hua
 obtain ⟨ub, hub⟩ : ∃ q, q = plB d.v [kRange, kEnd] := ⟨_, rfl⟩
 have HUB := Lib.hid hub
 obtain ⟨uo, huo⟩ : ∃ q, q = plO d.v [kRange, kEnd] := ⟨_, rfl⟩
 have HUO := Lib.hid huo
 rw [← hua, ← hub, ← huo]
 clear hua hub huo
 obtain ⟨gb, hg⟩ : ∃ q, q = W8.heap.size := ⟨_, rfl⟩
 obtain ⟨W9, hQ⟩ : ∃ q, q = W8.alloc (.cells #[.int .i64 ua, .int .i64 ub] 29) := ⟨_, rfl⟩
 have hb : Below W8.heap.size W8 W9 := by rw [hQ]; exact below_a1 _ _
 have HLn : Hid (Below w.heap.size w W9 ∧ Blk W9 w.heap.size #[.int .i64 d.sort, .bool d.on, .int .i64 d.n, .string ⟨d.text.toArray⟩, .slice d.a d.list.length d.c, .slice d.ka d.keys.length d.kc] 26 ∧ Blk W9 (w.heap.size + 1) #[.int .i64 0, .int .i64 0, .int .i64 0, .int .i64 0, .string { data := #[] }, .bool false] 71 ∧ ValAt W9 (fun _ => True) d ∧ Blk W9 ge #[.int .i64 0, .int .i64 0, .int .i64 0, .int .i64 0, .string ⟨t1.toArray⟩, .bool true] 71 ∧ Blk W9 ga #[.int .i64 sa, .int .i64 sb] 29 ∧ Blk W9 gb #[.int .i64 ua, .int .i64 ub] 29) := Lib.hid (⟨HL.out.1.trans (hb.mono HL.out.1.size), HL.out.2.1.ext hb, HL.out.2.2.1.ext hb, HL.out.2.2.2.1.ext hb, HL.out.2.2.2.2.1.ext hb, HL.out.2.2.2.2.2.ext hb, by rw [hQ, hg]; exact Blk.new rfl⟩)
 clear HL hb
 have HL := HLn
 clear HLn
 go_upto_region 8 with (fail)
 rw [← hQ, ← hg]
 clear hQ hg
 obtain ⟨e0, e1, e2, e3, e4, e5⟩ := HL.out.2.2.2.2.1.sixT
 have f0 := HL.out.2.2.2.2.1.free 0
 have f1 := HL.out.2.2.2.2.1.free 1
 have f2 := HL.out.2.2.2.2.1.free 2
 have f3 := HL.out.2.2.2.2.1.free 3
 have f4 := HL.out.2.2.2.2.1.free 4
 have f5 := HL.out.2.2.2.2.1.free 5
 obtain ⟨p0, p1⟩ := HL.out.2.2.2.2.2.1.twoT
 obtain ⟨q0, q1⟩ := HL.out.2.2.2.2.2.2.twoT
 have hne : ge ≠ ga ∧ ge ≠ gb := ⟨fun e => by have h1 := HL.out.2.2.2.2.1; rw [e] at h1; exact absurd (blk_types h1 HL.out.2.2.2.2.2.1) (by decide), fun e => by have h1 := HL.out.2.2.2.2.1; rw [e] at h1; exact absurd (blk_types h1 HL.out.2.2.2.2.2.2) (by decide)⟩
 obtain ⟨hne1, hne2⟩ := hne
 have hge := HGE.out
 go_upto_region 11 with (fail)
 obtain ⟨W10, hQ⟩ : ∃ q, q = ((((W9.setCell ⟨ge, 5, none⟩ (.bool false)).setCell ⟨ge, 0, none⟩ (.int .i64 sa)).setCell ⟨ge, 1, none⟩ (.int .i64 sb)).setCell ⟨ge, 2, none⟩ (.int .i64 ua)).setCell ⟨ge, 3, none⟩ (.int .i64 ub) := ⟨_, rfl⟩
 have HB2 : Hid (Below w.heap.size w W10) := Lib.hid (by rw [hQ]; exact put_b (by omega) (put_b (by omega) (put_b (by omega) (put_b (by omega) (put_b (by omega) HL.out.1)))))
 have HE2 : Hid (Blk W10 ge #[.int .i64 sa, .int .i64 sb, .int .i64 ua, .int .i64 ub, .string ⟨t1.toArray⟩, .bool false] 71) := Lib.hid (by rw [hQ]; exact ((((HL.out.2.2.2.2.1.set 5 _).set 0 _).set 1 _).set 2 _).set 3 _)
 have HR2 : Hid (Blk W10 (w.heap.size + 1) #[.int .i64 0, .int .i64 0, .int .i64 0, .int .i64 0, .string { data := #[] }, .bool false] 71) := Lib.hid (by
  rw [hQ]
  have q : w.heap.size + 1 ≠ ge := by omega
  exact ((((HL.out.2.2.1.other (p := ⟨ge, 5, none⟩) q _).other (p := ⟨ge, 0, none⟩) q _).other (p := ⟨ge, 1, none⟩) q _).other (p := ⟨ge, 2, none⟩) q _).other (p := ⟨ge, 3, none⟩) q _)
 rw [← hQ]
 clear hQ HL e0 e1 e2 e3 e4 e5 f0 f1 f2 f3 f4 f5 p0 p1 q0 q1 hne1 hne2
 obtain ⟨e0, e1, e2, e3, e4, e5⟩ := HE2.out.sixT
 have f0 := HR2.out.free 0
 have f1 := HR2.out.free 1
 have f2 := HR2.out.free 2
 have f3 := HR2.out.free 3
 have f4 := HR2.out.free 4
 have f5 := HR2.out.free 5
 obtain ⟨r0, r1, r2, r3, r4, r5⟩ := HR2.out.sixT
 cases o1 with
 | false =>
  go_wp2
  refine changeR_end (g := w.heap.size + 1) rfl rfl (store6T HR2.out) ?_
  refine ⟨?_, put6_below (o := 0) HB2.out (by omega)⟩
  have hq : chR d.v = (⟨sa, sb, ua, ub, t1, false⟩, false) := by unfold chR; rw [← HBV.out, if_pos rfl, ← HT1.out, ← HO1.out, ← HSA.out, ← HSB.out, ← HSO.out, ← HUA.out, ← HUB.out, ← HUO.out]; rfl
  rw [hq]
  rfl
 | true =>
  cases so with
  | false =>
   go_wp2
   refine changeR_end (g := w.heap.size + 1) rfl rfl (store6T HR2.out) ?_
   refine ⟨?_, put6_below (o := 0) HB2.out (by omega)⟩
   have hq : chR d.v = (⟨sa, sb, ua, ub, t1, false⟩, false) := by unfold chR; rw [← HBV.out, if_pos rfl, ← HT1.out, ← HO1.out, ← HSA.out, ← HSB.out, ← HSO.out, ← HUA.out, ← HUB.out, ← HUO.out]; rfl
   rw [hq]
   rfl
  | true =>
   go_wp2
   refine changeR_end (g := w.heap.size + 1) rfl rfl (store6T HR2.out) ?_
   refine ⟨?_, put6_below (o := 0) HB2.out (by omega)⟩
   have hq : chR d.v = (⟨sa, sb, ua, ub, t1, false⟩, uo) := by unfold chR; rw [← HBV.out, if_pos rfl, ← HT1.out, ← HO1.out, ← HSA.out, ← HSB.out, ← HSO.out, ← HUA.out, ← HUB.out, ← HUO.out]; rfl
   rw [hq]
   rfl
end Go.Proofs.YthnbeebilomchaaGreatDoor

namespace Go.Proofs.YthnbeebilomchaaGreatDoor
open Go Go.RowKit

def chsX (v : V) : V := (getV v [kChanges]).getD V.null
def chsM (v : V) : List E := (chsX v).list.map fun x => (chR x).1
def chsO (v : V) : Bool := ((getV v [kChanges]).isSome && (chsX v).sort == 4) && (chsX v).list.all fun x => (chR x).2
theorem chsL_M : ∀ l : List V, chsL l = if (l.all fun x => (chR x).2) = true then some (l.map fun x => (chR x).1) else none
  | [] => rfl
  | v :: l => by
    rw [chsL, chsL_M l, chL_R, List.all_cons, List.map_cons]
    cases (chR v).2 <;> cases (l.all fun x => (chR x).2) <;> rfl
theorem chsL_O (v : V) : (gList v [kChanges]).bind chsL = if chsO v = true then some (chsM v) else none := by
  unfold gList chsO chsM chsX
  cases getV v [kChanges] with
  | none => rfl
  | some x =>
    simp only [Option.bind_some, Option.isSome_some, Bool.true_and, Option.getD_some]
    by_cases h : x.sort = 4
    · rw [if_pos h, Option.bind_some, chsL_M]
      have : (x.sort == 4) = true := by simpa using h
      rw [this, Bool.true_and]
    · rw [if_neg h]
      have : (x.sort == 4) = false := by simpa using h
      rw [this, Bool.false_and]; rfl
def ChsE (w : World) (v : V) (e : Ending) (w' : World) : Prop := ∃ (a : Option Addr) (c : Nat), e = .returned (.tuple #[.slice a (chsM v).length c, .bool (chsO v)]) ∧ Own w' w.heap.size 71 6 a (chsM v).length c ((chsM v).flatMap E.cells) ∧ Below w.heap.size w w'
structure ChsS (w : World) (x : VD) (M gl : Nat) (l : List E) (a : Option Addr) (c : Nat) (W : World) : Prop where
  below : Below w.heap.size w W
  blk : Blk W gl #[.int .i64 x.sort, .bool x.on, .int .i64 x.n, .string ⟨x.text.toArray⟩, .slice x.a x.list.length x.c, .slice x.ka x.keys.length x.kc] 26
  gm : gl < M
  wm : w.heap.size ≤ M
  ms : M ≤ W.heap.size
  val : ValAt W (fun k => k < M) x
  own : Own W M 71 6 a l.length c (l.flatMap E.cells)
section
variable {w : World} {x : VD} {M gl : Nat} {l : List E} {a : Option Addr} {c : Nat} {W W' : World}
theorem ChsS.ext (h : ChsS w x M gl l a c W) (hb : Below W.heap.size W W') : ChsS w x M gl l a c W' :=
  ⟨h.below.trans (hb.mono h.below.size), h.blk.ext hb, h.gm, h.wm, Nat.le_trans h.ms hb.size, h.val.ext hb, h.own.ext hb⟩
theorem ChsS.app (h : ChsS w x M gl l a c W) {e : E} {a' : Option Addr} {k : Nat} (ho : Own W' M 71 6 a' (l.length + 1) k (l.flatMap E.cells ++ e.cells)) (hg : W.grownBy W' (rowOf a c)) : ChsS w x M gl (l ++ [e]) a' k W' := by
  have row : ∀ j, rowOf a c = some j → M ≤ j := fun j hj => h.own.rowBase (Nat.le_refl _) j hj
  have ne : ∀ b, b < M → some b ≠ rowOf a c := fun b hb e => by have := row b e.symm; omega
  have hwm := h.wm
  refine ⟨h.below.grown hg h.below.size (fun j hj => by have := row j hj; omega), h.blk.grown hg (ne _ h.gm), h.gm, h.wm, Nat.le_trans h.ms hg.size, h.val.congr fun b hb hl => hg.block b hl (ne b hb), ?_⟩
  simp only [List.length_append, List.length_singleton, List.flatMap_append, List.flatMap_cons, List.flatMap_nil, List.append_nil]
  exact ho
end
set_option maxHeartbeats 8000000 in
set_option maxRecDepth 20000 in
theorem changesR_any (d : VD) (w : World) (hv : ValAt w (fun _ => True) d) (hs : sizeV d.v ≤ 1048576) :
  Calls Tryz.prog 81 #[.agg #[.int .i64 d.sort, .bool d.on, .int .i64 d.n, .string ⟨d.text.toArray⟩, .slice d.a d.list.length d.c, .slice d.ka d.keys.length d.kc]] w (ChsE w d.v) := by
 obtain ⟨W1, hW1⟩ : ∃ q, q = w.alloc (.cells #[.int .i64 d.sort, .bool d.on, .int .i64 d.n, .string ⟨d.text.toArray⟩, .slice d.a d.list.length d.c, .slice d.ka d.keys.length d.kc] 26) := ⟨_, rfl⟩
 have hb : Below w.heap.size w W1 := by rw [hW1]; exact below_a1 _ _
 have HL : Hid (Below w.heap.size w W1 ∧ Blk W1 w.heap.size #[.int .i64 d.sort, .bool d.on, .int .i64 d.n, .string ⟨d.text.toArray⟩, .slice d.a d.list.length d.c, .slice d.ka d.keys.length d.kc] 26 ∧ ValAt W1 (fun _ => True) d) := Lib.hid ⟨hb, by rw [hW1]; exact Blk.new rfl, hv.ext hb⟩
 have HS := Lib.hid hs
 clear hb hv hs
 go_enter Tryz.func81, Tryz.ntmps81
 go_upto_region 1 with (fail)
 rw [← hW1]
 clear hW1
 obtain ⟨c0, c1, c2, c3, c4, c5⟩ := HL.out.2.1.sixT
 go_wp2_with fail
 have h1 := getR_go d (some ⟨W1.heap.size, 0, none⟩) 1 [kChanges] (W1.alloc (.cells #[strV kChanges] 9)) (HL.out.2.2.ext (below_a1 _ _)) (row_blk (Blk.new rfl) rfl) (by simp) HS.out
 refine h1.mono ?_
 clear h1 c0 c1 c2 c3 c4 c5
 rintro e W2 ⟨x, b, rfl, hxv, hbv, hxa, hb1⟩
 have HB : Hid (Below w.heap.size w W2) := Lib.hid (HL.out.1.trans (((below_a1 W1 (.cells #[strV kChanges] 9)).trans (hb1.mono (by simp))).mono HL.out.1.size))
 have HXV : Hid (x.v = chsX d.v) := Lib.hid hxv
 have HBV := Lib.hid hbv
 have HXS : Hid (sizeV x.v ≤ 1048576) := Lib.hid (by rw [hxv]; exact Nat.le_trans (getD_size _ _) HS.out)
 have HXL : Hid (x.v.list = x.list.map VD.v) := Lib.hid (by rw [VD.v_eq]; rfl)
 have HXN : Hid (x.list.length ≤ 1048576) := Lib.hid (by have h2 := list_len x.v; rw [HXL.out, List.length_map] at h2; exact Nat.le_trans h2 HXS.out)
 obtain ⟨gl, hg⟩ : ∃ q, q = W2.heap.size := ⟨_, rfl⟩
 obtain ⟨W3, hQ⟩ : ∃ q, q = W2.alloc (.cells #[.int .i64 x.sort, .bool x.on, .int .i64 x.n, .string ⟨x.text.toArray⟩, .slice x.a x.list.length x.c, .slice x.ka x.keys.length x.kc] 26) := ⟨_, rfl⟩
 obtain ⟨M, hM⟩ : ∃ q, q = W3.heap.size := ⟨_, rfl⟩
 have HC : Hid (ChsS w x M gl [] none 0 W3) := Lib.hid ⟨by rw [hQ]; exact HB.out.alloc HB.out.size _, by rw [hQ, hg]; exact Blk.new rfl, by rw [hM, hQ, hg]; simp, by rw [hM, hQ]; have := HB.out.size; simp; omega, by omega, by rw [hM]; exact (hxa.ext (by rw [hQ]; exact below_a1 _ _)).mono fun _ _ h => h, Own.nil _ _ _ _⟩
 clear hb1 hxv hbv hxa HL HB hM
 go_upto_region 2 with (fail)
 rw [← hQ, ← hg]
 clear hQ hg
 obtain ⟨ok0, hok0⟩ : ∃ q, q = (b && x.sort == 4) := ⟨_, rfl⟩
 have HOK0 : Hid (ok0 = ((getV d.v [kChanges]).isSome && (chsX d.v).sort == 4)) := Lib.hid (by rw [hok0, ← HXV.out, vd_sort, HBV.out])
 obtain ⟨c0, c1, c2, c3, c4, c5⟩ := HC.out.blk.sixT
 obtain ⟨nx, hnx⟩ : ∃ q, q = x.list.length := ⟨_, rfl⟩
 have HNX := Lib.hid hnx
 have hnb : nx ≤ 1048576 := by rw [hnx]; exact HXN.out
 clear hnx
 cases b with
 | false =>
  have hq : ok0 = false := by first | (rw [hok0]; done) | (rw [hok0]; rfl)
  clear hok0
  rw [hq] at HOK0
  go_wp2
  clear c0 c1 c2 c3 c4 c5
  go_loopw [6, 7, 8] (fun o s i wr => ∃ (k : Nat) (q : Bool) (a : Option Addr) (c : Nat), k ≤ nx ∧ o = .bool q ∧ i = .int .i64 k ∧ s = .slice a k c ∧ Hid (q = (false && (x.list.take k).all fun y => (chR y.v).2)) ∧ Hid (ChsS w x M gl ((x.list.take k).map fun y => (chR y.v).1) a c wr)) (fun _ _ i _ => nx - (intOf i).toNat)
  case atStart => exact ⟨0, false, none, 0, Nat.zero_le _, rfl, rfl, rfl, Lib.hid (by simp), HC⟩
  case round =>
   obtain ⟨k, q, a, c, hk, rfl, rfl, rfl, HQ, HL⟩ := hrel
   clear HC
   obtain ⟨c0, c1, c2, c3, c4, c5⟩ := HL.out.blk.sixT
   rw [← HNX.out] at c4
   by_cases hlt : k < nx
   ·
    obtain ⟨y, hy⟩ := get_some (l := x.list) (by rw [← HNX.out]; exact hlt)
    have HY := Lib.hid hy
    have HLEN : Hid (((x.list.take k).map fun y => (chR y.v).1).length = k) := Lib.hid (by rw [List.length_map, List.length_take, ← HNX.out]; omega)
    obtain ⟨lb, off, hab, q0, q1, q2, q3, q4, q5⟩ := val_at HL.out.val.row hy
    rw [hab] at c4
    unfold strV at q3
    have HYV := Lib.hid ((HL.out.val.kid y (List.mem_of_getElem? hy)).mono fun _ _ _ => trivial)
    have HYS : Hid (sizeV y.v ≤ 1048576) := Lib.hid (Nat.le_trans (list_size (v := x.v) (by rw [HXL.out]; exact List.mem_map_of_mem (List.mem_of_getElem? hy))) HXS.out)
    have H1 := Lib.hid (changeR_any y wr HYV.out HYS.out)
    clear hy hab
    go_wp2_with fail
    refine H1.out.mono ?_
    clear H1 HYV q0 q1 q2 q3 q4 q5 c0 c1 c2 c3 c4 c5
    rintro e W4 ⟨rfl, hb⟩
    have HL4 := Lib.hid (HL.out.ext hb)
    obtain ⟨ed, hed⟩ : ∃ q, q = (chR y.v).1 := ⟨_, rfl⟩
    obtain ⟨fi, hfi⟩ : ∃ q, q = (chR y.v).2 := ⟨_, rfl⟩
    rw [← hed, ← hfi]
    have HED := Lib.hid hed
    have HFI := Lib.hid hfi
    obtain ⟨ge, hg⟩ : ∃ q, q = W4.heap.size := ⟨_, rfl⟩
    obtain ⟨W5, hQ⟩ : ∃ q, q = W4.alloc (.cells (edC ed) 71) := ⟨_, rfl⟩
    have HL5 : Hid (ChsS w x M gl ((x.list.take k).map fun y => (chR y.v).1) a c W5) := Lib.hid (by rw [hQ]; exact HL4.out.ext (below_a1 _ _))
    have HE : Hid (Blk W5 ge (edC ed) 71) := Lib.hid (by rw [hQ, hg]; exact Blk.new rfl)
    unfold edC at hQ
    clear hb hed hfi HL HL4
    simp only [edC]
    go_upto_region 8 with (fail)
    rw [← hQ, ← hg]
    clear hQ hg
    have hxe := HE.out
    unfold edC at hxe
    obtain ⟨z0, z1, z2, z3, z4, z5⟩ := hxe.sixT
    clear hxe
    obtain ⟨L, hL⟩ : ∃ q, q = (x.list.take k).map fun y => (chR y.v).1 := ⟨_, rfl⟩
    rw [← hL] at HL5 HLEN
    have HLL := Lib.hid hL
    clear hL
    have HO : Hid (Own (W5.alloc (.cells (edC ed) 71)) M 71 6 a k c (L.flatMap E.cells)) := Lib.hid (by have := HL5.out.own.ext (below_a1 W5 (.cells (edC ed) 71)); rw [HLEN.out] at this; exact this)
    have HMS : Hid (M ≤ (W5.alloc (.cells (edC ed) 71)).heap.size) := Lib.hid (by have := HL5.out.ms; simp; omega)
    unfold edC at HO HMS
    have HA : Hid (∀ a' k' W', Own W' M 71 6 a' (k + 1) k' (L.flatMap E.cells ++ ed.cells) → (W5.alloc (.cells (edC ed) 71)).grownBy W' (rowOf a c) → ChsS w x M gl (L ++ [ed]) a' k' W') := Lib.hid fun a' k' W' h1 h2 => (HL5.out.ext (below_a1 W5 (.cells (edC ed) 71))).app (by rw [HLEN.out]; exact h1) h2
    unfold edC at HA
    cases q with
    | true =>
     go_wp2_with (at_builtin; refine wpList_append_Own rfl _ _ 27 rfl M 71 _ 6 56 Tryz.underlying27 Tryz.infoDocEdit rfl (by decide) a k c _ rfl HO.out (some ⟨W5.heap.size, 0, none⟩) 1 1 ed.cells rfl (row_blk (Blk.new rfl) rfl) (by intro u hu; simp [E.cells] at hu; rcases hu with rfl | rfl | rfl | rfl | rfl | rfl <;> rfl) (by unfold maxLen; omega) (by omega) HMS.out ?_; intro a5 c5 w5 ho5 hg5 hb5; have HL6 := Lib.hid (HA.out _ _ _ ho5 hg5); clear hg5 ho5 hb5 z0 z1 z2 z3 z4 z5)
     go_roundw
     case rel => exact ⟨k + 1, fi, a5, c5, by omega, rfl, by go_num, rfl, Lib.hid (by rw [take_snoc1 HY.out, List.all_append, ← Bool.and_assoc, ← HQ.out]; simp [← HFI.out]), by rw [take_snoc1 HY.out, List.map_append, ← HLL.out, List.map_singleton, ← HED.out]; exact HL6⟩
     case measure => simp [intOf]; omega
    | false =>
     go_wp2_with (at_builtin; refine wpList_append_Own rfl _ _ 27 rfl M 71 _ 6 56 Tryz.underlying27 Tryz.infoDocEdit rfl (by decide) a k c _ rfl HO.out (some ⟨W5.heap.size, 0, none⟩) 1 1 ed.cells rfl (row_blk (Blk.new rfl) rfl) (by intro u hu; simp [E.cells] at hu; rcases hu with rfl | rfl | rfl | rfl | rfl | rfl <;> rfl) (by unfold maxLen; omega) (by omega) HMS.out ?_; intro a5 c5 w5 ho5 hg5 hb5; have HL6 := Lib.hid (HA.out _ _ _ ho5 hg5); clear hg5 ho5 hb5 z0 z1 z2 z3 z4 z5)
     go_roundw
     case rel => exact ⟨k + 1, false, a5, c5, by omega, rfl, by go_num, rfl, Lib.hid (by rw [take_snoc1 HY.out, List.all_append, ← Bool.and_assoc, ← HQ.out]; simp [← HFI.out]), by rw [take_snoc1 HY.out, List.map_append, ← HLL.out, List.map_singleton, ← HED.out]; exact HL6⟩
     case measure => simp [intOf]; omega
   ·
    have hkn : k = nx := by omega
    subst hkn
    have HF : Hid (q = chsO d.v) := Lib.hid (by rw [HQ.out, HNX.out, List.take_length]; unfold chsO; rw [← HOK0.out, ← HXV.out, HXL.out, List.all_map]; rfl)
    have HM : Hid ((x.list.take k).map (fun y => (chR y.v).1) = chsM d.v) := Lib.hid (by rw [HNX.out, List.take_length]; unfold chsM; rw [← HXV.out, HXL.out, List.map_map]; rfl)
    have HO := HL.out.own
    rw [HM.out] at HO
    have HO := Lib.hid HO
    have HB := Lib.hid HL.out.below
    have HWM := Lib.hid HL.out.wm
    have HLN : Hid (k = (chsM d.v).length) := Lib.hid (by rw [← HM.out, List.length_map, HNX.out, List.take_length])
    clear HL
    go_wp2
    exact bodyPost_ret (v := .tuple #[.slice a k c, .bool q]) (by simp [results, Tryz.results81, go_sem]) rfl ⟨a, c, by rw [HF.out, HLN.out], HO.out.mono HWM.out, HB.out⟩
 | true =>
  by_cases h4 : x.sort = 4
  ·
   have e4 : (x.sort == 4) = true := by simpa using h4
   have hq : ok0 = true := by first | (rw [hok0, e4]; done) | (rw [hok0, e4]; rfl)
   clear hok0 h4
   rw [hq] at HOK0
   go_wp2
   clear e4
   clear c0 c1 c2 c3 c4 c5
   go_loopw [6, 7, 8] (fun o s i wr => ∃ (k : Nat) (q : Bool) (a : Option Addr) (c : Nat), k ≤ nx ∧ o = .bool q ∧ i = .int .i64 k ∧ s = .slice a k c ∧ Hid (q = (true && (x.list.take k).all fun y => (chR y.v).2)) ∧ Hid (ChsS w x M gl ((x.list.take k).map fun y => (chR y.v).1) a c wr)) (fun _ _ i _ => nx - (intOf i).toNat)
   case atStart => exact ⟨0, true, none, 0, Nat.zero_le _, rfl, rfl, rfl, Lib.hid (by simp), HC⟩
   case round =>
    obtain ⟨k, q, a, c, hk, rfl, rfl, rfl, HQ, HL⟩ := hrel
    clear HC
    obtain ⟨c0, c1, c2, c3, c4, c5⟩ := HL.out.blk.sixT
    rw [← HNX.out] at c4
    by_cases hlt : k < nx
    ·
     obtain ⟨y, hy⟩ := get_some (l := x.list) (by rw [← HNX.out]; exact hlt)
     have HY := Lib.hid hy
     have HLEN : Hid (((x.list.take k).map fun y => (chR y.v).1).length = k) := Lib.hid (by rw [List.length_map, List.length_take, ← HNX.out]; omega)
     obtain ⟨lb, off, hab, q0, q1, q2, q3, q4, q5⟩ := val_at HL.out.val.row hy
     rw [hab] at c4
     unfold strV at q3
     have HYV := Lib.hid ((HL.out.val.kid y (List.mem_of_getElem? hy)).mono fun _ _ _ => trivial)
     have HYS : Hid (sizeV y.v ≤ 1048576) := Lib.hid (Nat.le_trans (list_size (v := x.v) (by rw [HXL.out]; exact List.mem_map_of_mem (List.mem_of_getElem? hy))) HXS.out)
     have H1 := Lib.hid (changeR_any y wr HYV.out HYS.out)
     clear hy hab
     go_wp2_with fail
     refine H1.out.mono ?_
     clear H1 HYV q0 q1 q2 q3 q4 q5 c0 c1 c2 c3 c4 c5
     rintro e W4 ⟨rfl, hb⟩
     have HL4 := Lib.hid (HL.out.ext hb)
     obtain ⟨ed, hed⟩ : ∃ q, q = (chR y.v).1 := ⟨_, rfl⟩
     obtain ⟨fi, hfi⟩ : ∃ q, q = (chR y.v).2 := ⟨_, rfl⟩
     rw [← hed, ← hfi]
     have HED := Lib.hid hed
     have HFI := Lib.hid hfi
     obtain ⟨ge, hg⟩ : ∃ q, q = W4.heap.size := ⟨_, rfl⟩
     obtain ⟨W5, hQ⟩ : ∃ q, q = W4.alloc (.cells (edC ed) 71) := ⟨_, rfl⟩
     have HL5 : Hid (ChsS w x M gl ((x.list.take k).map fun y => (chR y.v).1) a c W5) := Lib.hid (by rw [hQ]; exact HL4.out.ext (below_a1 _ _))
     have HE : Hid (Blk W5 ge (edC ed) 71) := Lib.hid (by rw [hQ, hg]; exact Blk.new rfl)
     unfold edC at hQ
     clear hb hed hfi HL HL4
     simp only [edC]
     go_upto_region 8 with (fail)
     rw [← hQ, ← hg]
     clear hQ hg
     have hxe := HE.out
     unfold edC at hxe
     obtain ⟨z0, z1, z2, z3, z4, z5⟩ := hxe.sixT
     clear hxe
     obtain ⟨L, hL⟩ : ∃ q, q = (x.list.take k).map fun y => (chR y.v).1 := ⟨_, rfl⟩
     rw [← hL] at HL5 HLEN
     have HLL := Lib.hid hL
     clear hL
     have HO : Hid (Own (W5.alloc (.cells (edC ed) 71)) M 71 6 a k c (L.flatMap E.cells)) := Lib.hid (by have := HL5.out.own.ext (below_a1 W5 (.cells (edC ed) 71)); rw [HLEN.out] at this; exact this)
     have HMS : Hid (M ≤ (W5.alloc (.cells (edC ed) 71)).heap.size) := Lib.hid (by have := HL5.out.ms; simp; omega)
     unfold edC at HO HMS
     have HA : Hid (∀ a' k' W', Own W' M 71 6 a' (k + 1) k' (L.flatMap E.cells ++ ed.cells) → (W5.alloc (.cells (edC ed) 71)).grownBy W' (rowOf a c) → ChsS w x M gl (L ++ [ed]) a' k' W') := Lib.hid fun a' k' W' h1 h2 => (HL5.out.ext (below_a1 W5 (.cells (edC ed) 71))).app (by rw [HLEN.out]; exact h1) h2
     unfold edC at HA
     cases q with
     | true =>
      go_wp2_with (at_builtin; refine wpList_append_Own rfl _ _ 27 rfl M 71 _ 6 56 Tryz.underlying27 Tryz.infoDocEdit rfl (by decide) a k c _ rfl HO.out (some ⟨W5.heap.size, 0, none⟩) 1 1 ed.cells rfl (row_blk (Blk.new rfl) rfl) (by intro u hu; simp [E.cells] at hu; rcases hu with rfl | rfl | rfl | rfl | rfl | rfl <;> rfl) (by unfold maxLen; omega) (by omega) HMS.out ?_; intro a5 c5 w5 ho5 hg5 hb5; have HL6 := Lib.hid (HA.out _ _ _ ho5 hg5); clear hg5 ho5 hb5 z0 z1 z2 z3 z4 z5)
      go_roundw
      case rel => exact ⟨k + 1, fi, a5, c5, by omega, rfl, by go_num, rfl, Lib.hid (by rw [take_snoc1 HY.out, List.all_append, ← Bool.and_assoc, ← HQ.out]; simp [← HFI.out]), by rw [take_snoc1 HY.out, List.map_append, ← HLL.out, List.map_singleton, ← HED.out]; exact HL6⟩
      case measure => simp [intOf]; omega
     | false =>
      go_wp2_with (at_builtin; refine wpList_append_Own rfl _ _ 27 rfl M 71 _ 6 56 Tryz.underlying27 Tryz.infoDocEdit rfl (by decide) a k c _ rfl HO.out (some ⟨W5.heap.size, 0, none⟩) 1 1 ed.cells rfl (row_blk (Blk.new rfl) rfl) (by intro u hu; simp [E.cells] at hu; rcases hu with rfl | rfl | rfl | rfl | rfl | rfl <;> rfl) (by unfold maxLen; omega) (by omega) HMS.out ?_; intro a5 c5 w5 ho5 hg5 hb5; have HL6 := Lib.hid (HA.out _ _ _ ho5 hg5); clear hg5 ho5 hb5 z0 z1 z2 z3 z4 z5)
      go_roundw
      case rel => exact ⟨k + 1, false, a5, c5, by omega, rfl, by go_num, rfl, Lib.hid (by rw [take_snoc1 HY.out, List.all_append, ← Bool.and_assoc, ← HQ.out]; simp [← HFI.out]), by rw [take_snoc1 HY.out, List.map_append, ← HLL.out, List.map_singleton, ← HED.out]; exact HL6⟩
      case measure => simp [intOf]; omega
    ·
     have hkn : k = nx := by omega
     subst hkn
     have HF : Hid (q = chsO d.v) := Lib.hid (by rw [HQ.out, HNX.out, List.take_length]; unfold chsO; rw [← HOK0.out, ← HXV.out, HXL.out, List.all_map]; rfl)
     have HM : Hid ((x.list.take k).map (fun y => (chR y.v).1) = chsM d.v) := Lib.hid (by rw [HNX.out, List.take_length]; unfold chsM; rw [← HXV.out, HXL.out, List.map_map]; rfl)
     have HO := HL.out.own
     rw [HM.out] at HO
     have HO := Lib.hid HO
     have HB := Lib.hid HL.out.below
     have HWM := Lib.hid HL.out.wm
     have HLN : Hid (k = (chsM d.v).length) := Lib.hid (by rw [← HM.out, List.length_map, HNX.out, List.take_length])
     clear HL
     go_wp2
     exact bodyPost_ret (v := .tuple #[.slice a k c, .bool q]) (by simp [results, Tryz.results81, go_sem]) rfl ⟨a, c, by rw [HF.out, HLN.out], HO.out.mono HWM.out, HB.out⟩
  ·
   have e4 : (x.sort == 4) = false := by simpa using h4
   have hq : ok0 = false := by first | (rw [hok0, e4]; done) | (rw [hok0, e4]; rfl)
   clear hok0 h4
   rw [hq] at HOK0
   go_wp2
   clear e4
   clear c0 c1 c2 c3 c4 c5
   go_loopw [6, 7, 8] (fun o s i wr => ∃ (k : Nat) (q : Bool) (a : Option Addr) (c : Nat), k ≤ nx ∧ o = .bool q ∧ i = .int .i64 k ∧ s = .slice a k c ∧ Hid (q = (false && (x.list.take k).all fun y => (chR y.v).2)) ∧ Hid (ChsS w x M gl ((x.list.take k).map fun y => (chR y.v).1) a c wr)) (fun _ _ i _ => nx - (intOf i).toNat)
   case atStart => exact ⟨0, false, none, 0, Nat.zero_le _, rfl, rfl, rfl, Lib.hid (by simp), HC⟩
   case round =>
    obtain ⟨k, q, a, c, hk, rfl, rfl, rfl, HQ, HL⟩ := hrel
    clear HC
    obtain ⟨c0, c1, c2, c3, c4, c5⟩ := HL.out.blk.sixT
    rw [← HNX.out] at c4
    by_cases hlt : k < nx
    ·
     obtain ⟨y, hy⟩ := get_some (l := x.list) (by rw [← HNX.out]; exact hlt)
     have HY := Lib.hid hy
     have HLEN : Hid (((x.list.take k).map fun y => (chR y.v).1).length = k) := Lib.hid (by rw [List.length_map, List.length_take, ← HNX.out]; omega)
     obtain ⟨lb, off, hab, q0, q1, q2, q3, q4, q5⟩ := val_at HL.out.val.row hy
     rw [hab] at c4
     unfold strV at q3
     have HYV := Lib.hid ((HL.out.val.kid y (List.mem_of_getElem? hy)).mono fun _ _ _ => trivial)
     have HYS : Hid (sizeV y.v ≤ 1048576) := Lib.hid (Nat.le_trans (list_size (v := x.v) (by rw [HXL.out]; exact List.mem_map_of_mem (List.mem_of_getElem? hy))) HXS.out)
     have H1 := Lib.hid (changeR_any y wr HYV.out HYS.out)
     clear hy hab
     go_wp2_with fail
     refine H1.out.mono ?_
     clear H1 HYV q0 q1 q2 q3 q4 q5 c0 c1 c2 c3 c4 c5
     rintro e W4 ⟨rfl, hb⟩
     have HL4 := Lib.hid (HL.out.ext hb)
     obtain ⟨ed, hed⟩ : ∃ q, q = (chR y.v).1 := ⟨_, rfl⟩
     obtain ⟨fi, hfi⟩ : ∃ q, q = (chR y.v).2 := ⟨_, rfl⟩
     rw [← hed, ← hfi]
     have HED := Lib.hid hed
     have HFI := Lib.hid hfi
     obtain ⟨ge, hg⟩ : ∃ q, q = W4.heap.size := ⟨_, rfl⟩
     obtain ⟨W5, hQ⟩ : ∃ q, q = W4.alloc (.cells (edC ed) 71) := ⟨_, rfl⟩
     have HL5 : Hid (ChsS w x M gl ((x.list.take k).map fun y => (chR y.v).1) a c W5) := Lib.hid (by rw [hQ]; exact HL4.out.ext (below_a1 _ _))
     have HE : Hid (Blk W5 ge (edC ed) 71) := Lib.hid (by rw [hQ, hg]; exact Blk.new rfl)
     unfold edC at hQ
     clear hb hed hfi HL HL4
     simp only [edC]
     go_upto_region 8 with (fail)
     rw [← hQ, ← hg]
     clear hQ hg
     have hxe := HE.out
     unfold edC at hxe
     obtain ⟨z0, z1, z2, z3, z4, z5⟩ := hxe.sixT
     clear hxe
     obtain ⟨L, hL⟩ : ∃ q, q = (x.list.take k).map fun y => (chR y.v).1 := ⟨_, rfl⟩
     rw [← hL] at HL5 HLEN
     have HLL := Lib.hid hL
     clear hL
     have HO : Hid (Own (W5.alloc (.cells (edC ed) 71)) M 71 6 a k c (L.flatMap E.cells)) := Lib.hid (by have := HL5.out.own.ext (below_a1 W5 (.cells (edC ed) 71)); rw [HLEN.out] at this; exact this)
     have HMS : Hid (M ≤ (W5.alloc (.cells (edC ed) 71)).heap.size) := Lib.hid (by have := HL5.out.ms; simp; omega)
     unfold edC at HO HMS
     have HA : Hid (∀ a' k' W', Own W' M 71 6 a' (k + 1) k' (L.flatMap E.cells ++ ed.cells) → (W5.alloc (.cells (edC ed) 71)).grownBy W' (rowOf a c) → ChsS w x M gl (L ++ [ed]) a' k' W') := Lib.hid fun a' k' W' h1 h2 => (HL5.out.ext (below_a1 W5 (.cells (edC ed) 71))).app (by rw [HLEN.out]; exact h1) h2
     unfold edC at HA
     cases q with
     | true =>
      go_wp2_with (at_builtin; refine wpList_append_Own rfl _ _ 27 rfl M 71 _ 6 56 Tryz.underlying27 Tryz.infoDocEdit rfl (by decide) a k c _ rfl HO.out (some ⟨W5.heap.size, 0, none⟩) 1 1 ed.cells rfl (row_blk (Blk.new rfl) rfl) (by intro u hu; simp [E.cells] at hu; rcases hu with rfl | rfl | rfl | rfl | rfl | rfl <;> rfl) (by unfold maxLen; omega) (by omega) HMS.out ?_; intro a5 c5 w5 ho5 hg5 hb5; have HL6 := Lib.hid (HA.out _ _ _ ho5 hg5); clear hg5 ho5 hb5 z0 z1 z2 z3 z4 z5)
      go_roundw
      case rel => exact ⟨k + 1, fi, a5, c5, by omega, rfl, by go_num, rfl, Lib.hid (by rw [take_snoc1 HY.out, List.all_append, ← Bool.and_assoc, ← HQ.out]; simp [← HFI.out]), by rw [take_snoc1 HY.out, List.map_append, ← HLL.out, List.map_singleton, ← HED.out]; exact HL6⟩
      case measure => simp [intOf]; omega
     | false =>
      go_wp2_with (at_builtin; refine wpList_append_Own rfl _ _ 27 rfl M 71 _ 6 56 Tryz.underlying27 Tryz.infoDocEdit rfl (by decide) a k c _ rfl HO.out (some ⟨W5.heap.size, 0, none⟩) 1 1 ed.cells rfl (row_blk (Blk.new rfl) rfl) (by intro u hu; simp [E.cells] at hu; rcases hu with rfl | rfl | rfl | rfl | rfl | rfl <;> rfl) (by unfold maxLen; omega) (by omega) HMS.out ?_; intro a5 c5 w5 ho5 hg5 hb5; have HL6 := Lib.hid (HA.out _ _ _ ho5 hg5); clear hg5 ho5 hb5 z0 z1 z2 z3 z4 z5)
      go_roundw
      case rel => exact ⟨k + 1, false, a5, c5, by omega, rfl, by go_num, rfl, Lib.hid (by rw [take_snoc1 HY.out, List.all_append, ← Bool.and_assoc, ← HQ.out]; simp [← HFI.out]), by rw [take_snoc1 HY.out, List.map_append, ← HLL.out, List.map_singleton, ← HED.out]; exact HL6⟩
      case measure => simp [intOf]; omega
    ·
     have hkn : k = nx := by omega
     subst hkn
     have HF : Hid (q = chsO d.v) := Lib.hid (by rw [HQ.out, HNX.out, List.take_length]; unfold chsO; rw [← HOK0.out, ← HXV.out, HXL.out, List.all_map]; rfl)
     have HM : Hid ((x.list.take k).map (fun y => (chR y.v).1) = chsM d.v) := Lib.hid (by rw [HNX.out, List.take_length]; unfold chsM; rw [← HXV.out, HXL.out, List.map_map]; rfl)
     have HO := HL.out.own
     rw [HM.out] at HO
     have HO := Lib.hid HO
     have HB := Lib.hid HL.out.below
     have HWM := Lib.hid HL.out.wm
     have HLN : Hid (k = (chsM d.v).length) := Lib.hid (by rw [← HM.out, List.length_map, HNX.out, List.take_length])
     clear HL
     go_wp2
     exact bodyPost_ret (v := .tuple #[.slice a k c, .bool q]) (by simp [results, Tryz.results81, go_sem]) rfl ⟨a, c, by rw [HF.out, HLN.out], HO.out.mono HWM.out, HB.out⟩
end Go.Proofs.YthnbeebilomchaaGreatDoor
