/- The program's graph made: the edges from each location, gathered and sorted: walked. -/
import Derived.Test.YtadekfjgdbngdaaSorted
import Derived.Test.YtadekfjgdbngdaaRefEsc
import Derived.Test.YtadekfjgdbngdaaMade
namespace Go.Proofs.Ytadekfjgdbngdaa
open Go Go.RowKit

/-- the rows, some of them sorted -/
structure RowsInv (w : World) (B gb n : Nat) (F : Nat → List EdgeD) (bs : Nat → Option Addr × Nat) : Prop where
  blk : ∃ cur, Blk w gb cur 33 ∧ cur.size = n ∧ ∀ i, i < n → cur[i]? = some (.slice (bs i).1 (F i).length (bs i).2)
  own : ∀ i, i < n → Own w B 48 3 (bs i).1 (F i).length (bs i).2 ((F i).flatMap EdgeD.cells)
  apart : ∀ i j, i < n → j < n → i ≠ j → 0 < (bs i).2 → 0 < (bs j).2 → blockOf (bs i).1 ≠ blockOf (bs j).1
theorem RowsInv.cell {w : World} {B gb n : Nat} {F : Nat → List EdgeD} {bs : Nat → Option Addr × Nat} (h : RowsInv w B gb n F bs) {i : Nat} (hi : i < n) :
    w.cell? ⟨gb, i, none⟩ = some (.slice (bs i).1 (F i).length (bs i).2) := by
  obtain ⟨cur, h1, h2, h3⟩ := h.blk
  rw [h1.cell, h3 i hi]
theorem RowsInv.sort {w w' : World} {B gb n : Nat} {F : Nat → List EdgeD} {bs : Nat → Option Addr × Nat} (h : RowsInv w B gb n F bs) (hgb : gb < B) {i : Nat} (hi : i < n) {l : List EdgeD} (hl : l.length = (F i).length)
    (ho : Own w' B 48 3 (bs i).1 (F i).length (bs i).2 (l.flatMap EdgeD.cells)) (hg : w.grownBy w' (rowOf (bs i).1 (bs i).2)) : RowsInv w' B gb n (fun j => if j = i then l else F j) bs := by
  refine ⟨?_, fun j hj => ?_, h.apart⟩
  · obtain ⟨cur, h1, h2, h3⟩ := h.blk
    refine ⟨cur, h1.grown hg ((h.own i hi).apart hgb), h2, fun j hj => ?_⟩
    rw [h3 j hj]
    by_cases q : j = i
    · subst q; simp [hl]
    · simp [q]
  · by_cases q : j = i
    · subst q; simp only [if_true]; rw [hl]; exact ho
    · simp only [if_neg q]
      exact (h.own j hj).keptApart (h.apart j i hj hi q) hg

set_option maxRecDepth 20000 in
set_option maxHeartbeats 1000000 in
theorem madeY_any (aL aE : Option Addr) (cL cE : Nat) (p : Int) (locs : List LocD) (edges : List EdgeD) (w : World) (hE : Row w 3 aE edges.length (edges.flatMap EdgeD.cells))
    (hok : ∀ e ∈ edges, EdgeOk locs.length e) (hl : locs.length ≤ 1048576) (hl' : edges.length ≤ 1048576) :
    Calls Try.prog 19 #[.agg #[.slice aL locs.length cL, .slice aE edges.length cE, .int .i64 p]] w (Ret w (fun v w' => ∃ gx F, v = .pointer (some ⟨gx, 0, none⟩) ∧ MadeY w' gx locs.length edges F)) := by
  have HE := Lib.hid hE
  have Hok := Lib.hid hok
  clear hE hok
  obtain ⟨i0, hi, hz0, hz1, hz2⟩ := info_parts Try.infoEdges
  have hmk : ∀ w : World, (Instr.makeSlice 61 (.int .i64 locs.length) (.int .i64 locs.length)).run Try.prog w = .ok (.slice (some ⟨w.heap.size, 0, none⟩) locs.length locs.length) (w.alloc (.cells (madeCells #[.slice none 0 0] locs.length) 33)) := fun w => by
    have h := run_make (P := Try.prog) w 61 33 i0 (.slice none 0 0) Try.underlying61 hi hz0 .i64 .i64 locs.length locs.length (by omega) (Int.le_refl _) (by rw [hz2]; omega) (by omega)
    rw [hz1, Nat.mul_one] at h
    simp only [Int.toNat_natCast] at h
    exact h
  have Hmk := Lib.hid hmk
  clear hi hz0 hz1 hz2 hmk
  go_enter Try.func19, Try.ntmps19
  go_wp2_with fail
  have hbw := below_a1 w (.cells #[.slice aL locs.length cL, .slice aE edges.length cE, .int .i64 p] 35)
  have k0 : Blk (w.alloc (.cells #[.slice aL locs.length cL, .slice aE edges.length cE, .int .i64 p] 35)) w.heap.size #[.slice aL locs.length cL, .slice aE edges.length cE, .int .i64 p] 35 := Blk.new rfl
  have hwz : (w.alloc (.cells #[.slice aL locs.length cL, .slice aE edges.length cE, .int .i64 p] 35)).heap.size = w.heap.size + 1 := by simp
  generalize hw1 : (w.alloc (.cells #[.slice aL locs.length cL, .slice aE edges.length cE, .int .i64 p] 35)) = w1 at *
  have Hb1 := Lib.hid hbw
  have K0 := Lib.hid k0
  have c0 := k0.cell 0
  have c1 := k0.cell 1
  have c2 := k0.cell 2
  have cl := k0.lt
  simp only [List.getElem?_toArray, List.getElem?_cons_zero, List.getElem?_cons_succ] at c0 c1 c2
  clear k0 hbw hw1
  have hmk := Hmk.out
  go_region
  go_wp2_with fail
  clear hmk c0 c1 c2
  generalize hW0 : ((w1.alloc (.cells (madeCells #[.slice none 0 0] locs.length) 33)).alloc (.cells #[.slice aL locs.length cL, .slice aE edges.length cE, .int .i64 p, .slice (some ⟨w.heap.size + 1, 0, none⟩) locs.length locs.length] 63)).drew = W0
  have hb0 : Below w.heap.size w W0 := by subst hW0; exact ((Hb1.out.alloc Hb1.out.size _).alloc (by have := Hb1.out.size; simp; omega) _).drew
  have hkx : Blk W0 (w.heap.size + 1 + 1) #[.slice aL locs.length cL, .slice aE edges.length cE, .int .i64 p, .slice (some ⟨w.heap.size + 1, 0, none⟩) locs.length locs.length] 63 := by subst hW0; exact (Blk.new (by simp [hwz])).drew
  have hkb : Blk W0 (w.heap.size + 1) (madeCells #[.slice none 0 0] locs.length) 33 := by subst hW0; exact ((Blk.new hwz.symm).alloc _).drew
  have hsz : w.heap.size + 1 + 2 = W0.heap.size := by subst hW0; simp [hwz]
  have hinv : FwdInv W0 (w.heap.size + 1 + 2) (w.heap.size + 1) locs.length edges 0 (fun _ => (none, 0)) :=
    ⟨⟨_, hkb, size_madeCells _ _, fun i hi => by simp [madeCells, fk, hi, Nat.mod_one]⟩, fun i hi => by simp [fk]; exact Own.nil _ _ _ _, fun i j _ _ _ h => by simp at h⟩
  have hwgb : w.heap.size < w.heap.size + 1 := by omega
  clear hW0 hkb hwz
  generalize hgb : w.heap.size + 1 = gb at *
  have Hwgb : Hid (w.heap.size < gb) := hwgb
  have Hb0 := Lib.hid hb0
  have Hkx := Lib.hid hkx
  have Hinv := Lib.hid hinv
  have Hsz : Hid (gb + 2 ≤ W0.heap.size) := by show _ ≤ _; omega
  clear hb0 hkx hinv hsz hgb hwgb
  go_loopw [18] (fun i wr => ∃ (k : Nat) (bs : Nat → Option Addr × Nat), k ≤ edges.length ∧ i = .int .i64 k ∧ Hid (FwdInv wr (gb + 2) gb locs.length edges k bs) ∧ Hid (Below w.heap.size w wr) ∧
    Hid (Blk wr (gb + 1) #[.slice aL locs.length cL, .slice aE edges.length cE, .int .i64 p, .slice (some ⟨gb, 0, none⟩) locs.length locs.length] 63) ∧ Hid (gb + 2 ≤ wr.heap.size)) (fun i _ => edges.length - (intOf i).toNat)
  case atStart => exact ⟨0, _, Nat.zero_le _, rfl, Hinv, Hb0, Hkx, Hsz⟩
  case round =>
    clear Hinv Hb0 Hkx Hsz
    obtain ⟨k, bs, hk, rfl, hinv, hb, hx, hsz⟩ := hrel
    by_cases hlt : k < edges.length
    · obtain ⟨x, hxx⟩ := get_some hlt
      have hok := Hok.out x (List.mem_of_getElem? hxx)
      obtain ⟨bE, oE, rfl, e1, e2, e3, hbE⟩ := edge_at (HE.out.ext hb.out) hxx
      have Hx := Lib.hid hxx
      obtain ⟨xs, xd, xr⟩ := x
      obtain ⟨o1, o2, o3, o4, o5, o6⟩ := hok
      simp only at e1 e2 e3 o1 o2 o3 o4 o5 o6
      obtain ⟨d, rfl⟩ := Int.eq_ofNat_of_zero_le o1
      obtain ⟨q1, q2, q3⟩ := hinv.out.cell (i := d) (by omega)
      have hx3 := hx.out.cell 3
      simp only [List.getElem?_toArray, List.getElem?_cons_zero, List.getElem?_cons_succ] at hx3
      have hxl := hx.out.lt
      clear hxx
      have hdn : d < locs.length := by omega
      have hown := hinv.out.own d hdn
      have hbl := fk_len edges k d
      have Hone := Lib.hid (edge_cells1 ⟨d, xd, xr⟩)
      have Hown : Hid (∀ o1 o2, Own ((wr.alloc o1).alloc o2) (gb + 2) 48 3 (bs d).1 (fk edges k d).length (bs d).2 ((fk edges k d).flatMap EdgeD.cells)) := fun o1 o2 => (hown.alloc o1).alloc o2
      have Hbase : Hid (gb + 2 ≤ wr.heap.size + 1 + 1) := by have := hsz.out; show _ ≤ _; omega
      have Hap3 : Hid (some (gb + 1) ≠ rowOf (bs d).1 (bs d).2) := hown.apart (by omega)
      have Hap4 : Hid (some gb ≠ rowOf (bs d).1 (bs d).2) := hown.apart (by omega)
      have Hap5 : Hid (some wr.heap.size ≠ rowOf (bs d).1 (bs d).2) := by
        intro he; unfold rowOf at he; split at he
        · cases he
        · have := (hown.size (by omega) he.symm).2; omega
      clear hown
      generalize hla : (fk edges k d).length = la at *
      have Hla := Lib.hid hla
      clear hla
      obtain ⟨sa, sc⟩ : ∃ sa, sa = (bs d).1 := ⟨_, rfl⟩
      rw [← sc] at q1 Hown Hap3 Hap4 Hap5
      obtain ⟨ca, cc⟩ : ∃ ca, ca = (bs d).2 := ⟨_, rfl⟩
      rw [← cc] at q1 Hown Hap3 Hap4 Hap5
      have Hsc := Lib.hid sc
      have hne : gb ≠ wr.heap.size := by omega
      have Hcc := Lib.hid cc
      clear sc cc
      go_wp2_with fail
      refine wp_region_held_drew (S := fun w' => w'.cell? ⟨gb + 1, 3, none⟩ = some (.slice (some ⟨gb, 0, none⟩) locs.length locs.length) ∧ w'.cell? ⟨wr.heap.size, 0, none⟩ = some (.int .i64 d) ∧ w'.cell? ⟨wr.heap.size, 1, none⟩ = some (.int .i64 xd) ∧ w'.cell? ⟨wr.heap.size, 2, none⟩ = some (.int .i64 xr)) (by kernel_rfl) ?_ (fun hHeld => ?_)
      · go_keep
      refine wpAnyH_take (i := 0) (v := ?_) rfl (by kernel_rfl) (by kernel_rfl) (by kernel_rfl) (fun _ _ _ h => h) (Or.inl ⟨by rfl, ?_⟩) (by assumption) ?_; rotate_left; focus (intro w hSw; (try dsimp only at hSw); first | (go_simp; done) | (go_simp; with_reducible rfl)); (try simp only [Act.put]; (try simp only [List.setIfInBounds_toArray]); (try simp only [List.set_cons_succ, List.set_cons_zero]))
      refine wpAnyH_take (i := 1) (v := ?_) rfl (by kernel_rfl) (by kernel_rfl) (by kernel_rfl) (fun _ _ _ h => h) (Or.inl ⟨by rfl, ?_⟩) (by assumption) ?_; rotate_left; focus (intro w hSw; (try dsimp only at hSw); first | (go_simp; done) | (go_simp; with_reducible rfl)); (try simp only [Act.put]; (try simp only [List.setIfInBounds_toArray]); (try simp only [List.set_cons_succ, List.set_cons_zero]))
      refine wpAnyH_take (i := 2) (v := ?_) rfl (by kernel_rfl) (by kernel_rfl) (by kernel_rfl) (fun _ _ _ h => h) (Or.inl ⟨by rfl, ?_⟩) (by assumption) ?_; rotate_left; focus (intro w hSw; (try dsimp only at hSw); first | (go_simp; done) | (go_simp; with_reducible rfl)); (try simp only [Act.put]; (try simp only [List.setIfInBounds_toArray]); (try simp only [List.set_cons_succ, List.set_cons_zero]))
      refine wpAnyH_take (i := 3) (v := ?_) rfl (by kernel_rfl) (by kernel_rfl) (by kernel_rfl) (fun _ _ _ h => h) (Or.inl ⟨by rfl, ?_⟩) (by assumption) ?_; rotate_left; focus (intro w hSw; (try dsimp only at hSw); first | (go_simp; done) | (go_simp; with_reducible rfl)); (try simp only [Act.put]; (try simp only [List.setIfInBounds_toArray]); (try simp only [List.set_cons_succ, List.set_cons_zero]))
      refine wpAnyH_take (i := 4) (v := ?_) rfl (by kernel_rfl) (by kernel_rfl) (by kernel_rfl) (fun _ _ _ h => h) (Or.inl ⟨by rfl, ?_⟩) (by assumption) ?_; rotate_left; focus (intro w hSw; (try dsimp only at hSw); first | (go_simp; done) | (go_simp; with_reducible rfl)); (try simp only [Act.put]; (try simp only [List.setIfInBounds_toArray]); (try simp only [List.set_cons_succ, List.set_cons_zero]))
      refine wpAnyH_take (i := 5) (v := ?_) rfl (by kernel_rfl) (by kernel_rfl) (by kernel_rfl) (fun _ _ _ h => h) (Or.inl ⟨by rfl, ?_⟩) (by assumption) ?_; rotate_left; focus (intro w hSw; (try dsimp only at hSw); first | (go_simp; done) | (go_simp; with_reducible rfl)); (try simp only [Act.put]; (try simp only [List.setIfInBounds_toArray]); (try simp only [List.set_cons_succ, List.set_cons_zero]))
      refine wpAnyH_take (i := 6) (v := ?_) rfl (by kernel_rfl) (by kernel_rfl) (by kernel_rfl) (fun _ _ _ h => h) (Or.inl ⟨by rfl, ?_⟩) (by assumption) ?_; rotate_left; focus (intro w hSw; (try dsimp only at hSw); first | (go_simp; done) | (go_simp; with_reducible rfl)); (try simp only [Act.put]; (try simp only [List.setIfInBounds_toArray]); (try simp only [List.set_cons_succ, List.set_cons_zero]))
      refine wpAnyH_take (i := 7) (v := ?_) rfl (by kernel_rfl) (by kernel_rfl) (by kernel_rfl) (fun _ _ _ h => h) (Or.inl ⟨by rfl, ?_⟩) (by assumption) ?_; rotate_left; focus (intro w hSw; (try dsimp only at hSw); first | (go_simp; done) | (go_simp; with_reducible rfl)); (try simp only [Act.put]; (try simp only [List.setIfInBounds_toArray]); (try simp only [List.set_cons_succ, List.set_cons_zero]))
      refine wpAnyH_take (i := 8) (v := ?_) rfl (by kernel_rfl) (by kernel_rfl) (by kernel_rfl) (fun _ _ _ h => h) (Or.inl ⟨by rfl, ?_⟩) (by assumption) ?_; rotate_left; focus (intro w hSw; (try dsimp only at hSw); first | (go_simp; done) | (go_simp; with_reducible rfl)); (try simp only [Act.put]; (try simp only [List.setIfInBounds_toArray]); (try simp only [List.set_cons_succ, List.set_cons_zero]))
      refine wpAnyH_take (i := 9) (v := ?_) rfl (by kernel_rfl) (by kernel_rfl) (by kernel_rfl) (fun _ _ _ h => h) (Or.inl ⟨by rfl, ?_⟩) (by assumption) ?_; rotate_left; focus (intro w hSw; (try dsimp only at hSw); first | (go_simp; done) | (go_simp; with_reducible rfl)); (try simp only [Act.put]; (try simp only [List.setIfInBounds_toArray]); (try simp only [List.set_cons_succ, List.set_cons_zero]))
      refine wpAnyH_take (i := 10) (v := ?_) rfl (by kernel_rfl) (by kernel_rfl) (by kernel_rfl) (fun _ _ _ h => h) (Or.inl ⟨by rfl, ?_⟩) (by assumption) ?_; rotate_left; focus (intro w hSw; (try dsimp only at hSw); first | (go_simp; done) | (go_simp; with_reducible rfl)); (try simp only [Act.put]; (try simp only [List.setIfInBounds_toArray]); (try simp only [List.set_cons_succ, List.set_cons_zero]))
      refine wpAnyH_take (i := 11) (v := ?_) rfl (by kernel_rfl) (by kernel_rfl) (by kernel_rfl) (fun _ _ _ h => h) (Or.inl ⟨by rfl, ?_⟩) (by assumption) ?_; rotate_left; focus (intro w hSw; (try dsimp only at hSw); first | (go_simp; done) | (go_simp; with_reducible rfl)); (try simp only [Act.put]; (try simp only [List.setIfInBounds_toArray]); (try simp only [List.set_cons_succ, List.set_cons_zero]))
      refine wpAnyH_take (i := 12) (v := ?_) rfl (by kernel_rfl) (by kernel_rfl) (by kernel_rfl) (fun _ _ _ h => h) (Or.inl ⟨by rfl, ?_⟩) (by assumption) ?_; rotate_left; focus (intro w hSw; (try dsimp only at hSw); first | (go_simp; done) | (go_simp; with_reducible rfl)); (try simp only [Act.put]; (try simp only [List.setIfInBounds_toArray]); (try simp only [List.set_cons_succ, List.set_cons_zero]))
      refine wpAnyH_take (i := 14) (v := ?_) rfl (by kernel_rfl) (by kernel_rfl) (by kernel_rfl) (fun _ _ _ h => h) (Or.inl ⟨by rfl, ?_⟩) (by assumption) ?_; rotate_left; focus (intro w hSw; (try dsimp only at hSw); first | (go_simp; done) | (go_simp; with_reducible rfl)); (try simp only [Act.put]; (try simp only [List.setIfInBounds_toArray]); (try simp only [List.set_cons_succ, List.set_cons_zero]))
      refine wpAnyH_ready (rs := [13, 15]) (by kernel_rfl) (by simp) ?_
      refine AllReadyH.cons (i := 13) rfl (fun K hK => ?_) ?_
      · go_simp
        refine hK.out _ _ ?_ (fun hHeld => ?_)
        · go_keep
        try simp only [Act.put]; (try simp only [List.setIfInBounds_toArray]); (try simp only [List.set_cons_succ, List.set_cons_zero])
        refine wpAnyH_ready (rs := [15]) (by kernel_rfl) (by simp) ?_
        refine AllReadyH.cons (i := 15) rfl (fun K hK => ?_) ?_
        · go_simp
          refine hK.out _ _ ?_ (fun hHeld => ?_)
          · go_keep
          try simp only [Act.put]; (try simp only [List.setIfInBounds_toArray]); (try simp only [List.set_cons_succ, List.set_cons_zero])
          refine wpAnyH_ready (rs := [16]) (by kernel_rfl) (by simp) ?_
          refine AllReadyH.cons (i := 16) rfl (fun K hK => ?_) ?_
          · refine step_append_Own rfl (.tmp 35) (.tmp 37) 33 rfl (gb + 2) 48 _ 3 24 Try.underlying33 Try.infoEdge rfl (by decide) sa la ca _ (by simp [go_sem]) (by exact Hown.out _ _) _ 1 1 (EdgeD.cells ⟨d, xd, xr⟩) (by simp [go_sem]; rfl) (by exact Row.new1 (by simp) rfl rfl) Hone.out (by unfold maxLen; omega) (by omega) (by simp; have := Hbase.out; omega) ?_
            intro a' cap' w2 hown1 hg1 hbk
            have hblk : ∃ cur, Blk wr gb cur 33 := by obtain ⟨cur, h, _⟩ := hinv.out.blk; exact ⟨cur, h⟩
            obtain ⟨cur, hblk⟩ := hblk
            have hblk2 := ((((hblk.alloc _).alloc _).drew).grown hg1 Hap4.out).free d
            have d2 : w2.cell? ⟨gb, d, none⟩ = some (.slice sa la ca) := World.grownBy.cell hg1 (by exact below_ext (((Below.refl wr.heap.size wr).alloc (Nat.le_refl _) _).alloc (by simp) _).drew q1) Hap4.out
            clear hblk
            refine hK.out _ _ ?_ (fun hHeld => ?_)
            · go_split_ands
              refine ⟨?_, ?_, ?_, ?_⟩
              · (refine World.grownBy.cell hg1 ?_ Hap3.out; simp [*])
              · (refine World.grownBy.cell hg1 ?_ Hap5.out; simp [*])
              · (refine World.grownBy.cell hg1 ?_ Hap5.out; simp [*])
              · (refine World.grownBy.cell hg1 ?_ Hap5.out; simp [*])
            try simp only [Act.put]; (try simp only [List.setIfInBounds_toArray]); (try simp only [List.set_cons_succ, List.set_cons_zero])
            refine wpAnyH_take (i := 17) (v := ?_) rfl (by kernel_rfl) (by kernel_rfl) (by kernel_rfl) (fun _ _ _ h => h) (Or.inl ⟨by rfl, ?_⟩) (by assumption) ?_; rotate_left; focus (intro w hSw; (try dsimp only at hSw); first | (go_simp; done) | (go_simp; with_reducible rfl)); (try simp only [Act.put]; (try simp only [List.setIfInBounds_toArray]); (try simp only [List.set_cons_succ, List.set_cons_zero]))
            refine wpAnyH_ready (rs := [18]) (by kernel_rfl) (by simp) ?_
            refine AllReadyH.cons (i := 18) rfl (fun K hK => ?_) ?_
            · go_simp
              refine hK.out _ _ ?_ (fun hHeld => ?_)
              · go_keep
              try simp only [Act.put]
              refine wpAnyH_done (by kernel_rfl) ?_ _
              have hWb := (((Below.refl wr.heap.size wr).alloc (Nat.le_refl _) (.cells #[.int .i64 d, .int .i64 xd, .int .i64 xr] 48)).alloc (by simp) (.cells #[.int .i64 d, .int .i64 xd, .int .i64 xr] 48)).drew
              have hst := hinv.out.step (by omega) Hx.out rfl hdn hWb.block hWb.size (a' := a') (c' := cap') (by rw [Hla.out]; exact hown1) (by rw [← Hsc.out, ← Hcc.out]; exact hg1) (by rw [← Hsc.out, ← Hcc.out]; exact hbk)
              rw [Hla.out] at hst
              have hgb' : Below w.heap.size w w2 := (hb.out.trans (hWb.mono hb.out.size)).grown hg1 (by have := hWb.size; have := hb.out.size; omega) (fun j hj => by rw [Hsc.out, Hcc.out] at hj; have := (hinv.out.own d hdn).rowBase (Nat.le_refl _) j hj; have := Hwgb.out; omega)
              have hgx : Blk w2 (gb + 1) _ _ := (hx.out.below hWb hx.out.lt).grown hg1 Hap3.out
              have hgs := hg1.size
              have hws := hWb.size
              have hsz' := hsz.out
              have Hst := Lib.hid hst
              have Hgb' := Lib.hid (hgb'.setCell (p := ⟨gb, d, none⟩) (by have := Hwgb.out; show w.heap.size ≤ gb; omega) (.slice a' (la + 1) cap'))
              have Hgx := Lib.hid (hgx.other (p := ⟨gb, d, none⟩) (by show gb + 1 ≠ gb; omega) (.slice a' (la + 1) cap'))
              have Hgs : Hid (gb + 2 ≤ (w2.setCell ⟨gb, d, none⟩ (.slice a' (la + 1) cap')).heap.size) := by show _ ≤ _; simp at *; omega
              clear hst hgb' hgx hgs hws hsz' hWb hHeld
              go_wp2
              go_roundw
              case rel => exact ⟨k + 1, _, by omega, by go_num, Hst, Hgb', Hgx, Hgs⟩
              case measure => simp [intOf]; omega
            exact AllReadyH.nil
          exact AllReadyH.nil
        exact AllReadyH.nil
      refine AllReadyH.cons (i := 15) rfl (fun K hK => ?_) ?_
      · go_simp
        refine hK.out _ _ ?_ (fun hHeld => ?_)
        · go_keep
        try simp only [Act.put]; (try simp only [List.setIfInBounds_toArray]); (try simp only [List.set_cons_succ, List.set_cons_zero])
        refine wpAnyH_ready (rs := [13]) (by kernel_rfl) (by simp) ?_
        refine AllReadyH.cons (i := 13) rfl (fun K hK => ?_) ?_
        · go_simp
          refine hK.out _ _ ?_ (fun hHeld => ?_)
          · go_keep
          try simp only [Act.put]; (try simp only [List.setIfInBounds_toArray]); (try simp only [List.set_cons_succ, List.set_cons_zero])
          refine wpAnyH_ready (rs := [16]) (by kernel_rfl) (by simp) ?_
          refine AllReadyH.cons (i := 16) rfl (fun K hK => ?_) ?_
          · refine step_append_Own rfl (.tmp 35) (.tmp 37) 33 rfl (gb + 2) 48 _ 3 24 Try.underlying33 Try.infoEdge rfl (by decide) sa la ca _ (by simp [go_sem]) (by exact Hown.out _ _) _ 1 1 (EdgeD.cells ⟨d, xd, xr⟩) (by simp [go_sem]; rfl) (by exact Row.new1 (by simp) rfl rfl) Hone.out (by unfold maxLen; omega) (by omega) (by simp; have := Hbase.out; omega) ?_
            intro a' cap' w2 hown1 hg1 hbk
            have hblk : ∃ cur, Blk wr gb cur 33 := by obtain ⟨cur, h, _⟩ := hinv.out.blk; exact ⟨cur, h⟩
            obtain ⟨cur, hblk⟩ := hblk
            have hblk2 := ((((hblk.alloc _).alloc _).drew).grown hg1 Hap4.out).free d
            have d2 : w2.cell? ⟨gb, d, none⟩ = some (.slice sa la ca) := World.grownBy.cell hg1 (by exact below_ext (((Below.refl wr.heap.size wr).alloc (Nat.le_refl _) _).alloc (by simp) _).drew q1) Hap4.out
            clear hblk
            refine hK.out _ _ ?_ (fun hHeld => ?_)
            · go_split_ands
              refine ⟨?_, ?_, ?_, ?_⟩
              · (refine World.grownBy.cell hg1 ?_ Hap3.out; simp [*])
              · (refine World.grownBy.cell hg1 ?_ Hap5.out; simp [*])
              · (refine World.grownBy.cell hg1 ?_ Hap5.out; simp [*])
              · (refine World.grownBy.cell hg1 ?_ Hap5.out; simp [*])
            try simp only [Act.put]; (try simp only [List.setIfInBounds_toArray]); (try simp only [List.set_cons_succ, List.set_cons_zero])
            refine wpAnyH_take (i := 17) (v := ?_) rfl (by kernel_rfl) (by kernel_rfl) (by kernel_rfl) (fun _ _ _ h => h) (Or.inl ⟨by rfl, ?_⟩) (by assumption) ?_; rotate_left; focus (intro w hSw; (try dsimp only at hSw); first | (go_simp; done) | (go_simp; with_reducible rfl)); (try simp only [Act.put]; (try simp only [List.setIfInBounds_toArray]); (try simp only [List.set_cons_succ, List.set_cons_zero]))
            refine wpAnyH_ready (rs := [18]) (by kernel_rfl) (by simp) ?_
            refine AllReadyH.cons (i := 18) rfl (fun K hK => ?_) ?_
            · go_simp
              refine hK.out _ _ ?_ (fun hHeld => ?_)
              · go_keep
              try simp only [Act.put]
              refine wpAnyH_done (by kernel_rfl) ?_ _
              have hWb := (((Below.refl wr.heap.size wr).alloc (Nat.le_refl _) (.cells #[.int .i64 d, .int .i64 xd, .int .i64 xr] 48)).alloc (by simp) (.cells #[.int .i64 d, .int .i64 xd, .int .i64 xr] 48)).drew
              have hst := hinv.out.step (by omega) Hx.out rfl hdn hWb.block hWb.size (a' := a') (c' := cap') (by rw [Hla.out]; exact hown1) (by rw [← Hsc.out, ← Hcc.out]; exact hg1) (by rw [← Hsc.out, ← Hcc.out]; exact hbk)
              rw [Hla.out] at hst
              have hgb' : Below w.heap.size w w2 := (hb.out.trans (hWb.mono hb.out.size)).grown hg1 (by have := hWb.size; have := hb.out.size; omega) (fun j hj => by rw [Hsc.out, Hcc.out] at hj; have := (hinv.out.own d hdn).rowBase (Nat.le_refl _) j hj; have := Hwgb.out; omega)
              have hgx : Blk w2 (gb + 1) _ _ := (hx.out.below hWb hx.out.lt).grown hg1 Hap3.out
              have hgs := hg1.size
              have hws := hWb.size
              have hsz' := hsz.out
              have Hst := Lib.hid hst
              have Hgb' := Lib.hid (hgb'.setCell (p := ⟨gb, d, none⟩) (by have := Hwgb.out; show w.heap.size ≤ gb; omega) (.slice a' (la + 1) cap'))
              have Hgx := Lib.hid (hgx.other (p := ⟨gb, d, none⟩) (by show gb + 1 ≠ gb; omega) (.slice a' (la + 1) cap'))
              have Hgs : Hid (gb + 2 ≤ (w2.setCell ⟨gb, d, none⟩ (.slice a' (la + 1) cap')).heap.size) := by show _ ≤ _; simp at *; omega
              clear hst hgb' hgx hgs hws hsz' hWb hHeld
              go_wp2
              go_roundw
              case rel => exact ⟨k + 1, _, by omega, by go_num, Hst, Hgb', Hgx, Hgs⟩
              case measure => simp [intOf]; omega
            exact AllReadyH.nil
          exact AllReadyH.nil
        exact AllReadyH.nil
      exact AllReadyH.nil
    · obtain rfl : k = edges.length := by omega
      have hrows : RowsInv wr (gb + 2) gb locs.length (fk edges edges.length) bs := ⟨hinv.out.blk, hinv.out.own, hinv.out.apart⟩
      have Hrows := Lib.hid hrows
      have hx3 := hx.out.cell 3
      simp only [List.getElem?_toArray, List.getElem?_cons_zero, List.getElem?_cons_succ] at hx3
      clear hrows hinv
      go_wp2_with fail
      clear hx3
      go_loopw [46] (fun i wr => ∃ (k : Nat) (F : Nat → List EdgeD), k ≤ locs.length ∧ i = .int .i64 k ∧ Hid (RowsInv wr (gb + 2) gb locs.length F bs) ∧ Hid ((∀ j, j < locs.length → (F j).Perm (fk edges edges.length j)) ∧ ∀ j, j < k → ∀ (a b : Nat) x y, a < b → (F j)[a]? = some x → (F j)[b]? = some y → leE x y) ∧ Hid (Below w.heap.size w wr) ∧
        Hid (Blk wr (gb + 1) #[.slice aL locs.length cL, .slice aE edges.length cE, .int .i64 p, .slice (some ⟨gb, 0, none⟩) locs.length locs.length] 63)) (fun i _ => locs.length - (intOf i).toNat)
      case atStart => exact ⟨0, _, Nat.zero_le _, rfl, Hrows, ⟨fun j _ => List.Perm.refl _, fun j h => by omega⟩, hb, hx⟩
      case round =>
        clear Hrows hb hx hsz
        obtain ⟨k, F, hk, rfl, hrows, hF, hb, hx⟩ := hrel
        by_cases hlt2 : k < locs.length
        · have q1 := hrows.out.cell hlt2
          have Hown := Lib.hid (hrows.out.own k hlt2)
          have hln : (F k).length ≤ 1048576 := by have h1 := (hF.out.1 k hlt2).length_eq; have h2 := fk_len edges edges.length k; omega
          have Hap : Hid (some (gb + 1) ≠ rowOf (bs k).1 (bs k).2) := Hown.out.apart (by omega)
          go_wp2_with fail
          refine (sortE_any (gb + 2) (bs k).1 (bs k).2 (F k) _ Hown.out hln).mono ?_
          rintro e w2 ⟨rfl, l, hperm, hsorted, hown2, hg⟩
          have Hrows2 := Lib.hid (hrows.out.sort (by omega) hlt2 hperm.length_eq hown2 hg)
          have Hb2 := Lib.hid (hb.out.grown hg hb.out.size (fun j hj => by have h1 := Hown.out.rowBase (Nat.le_refl _) j hj; have h2 := Hwgb.out; omega))
          have Hx2 := Lib.hid (hx.out.grown hg Hap.out)
          have HF2 : Hid ((∀ j, j < locs.length → ((fun j => if j = k then l else F j) j).Perm (fk edges edges.length j)) ∧ ∀ j, j < k + 1 → ∀ (a b : Nat) x y, a < b → ((fun j => if j = k then l else F j) j)[a]? = some x → ((fun j => if j = k then l else F j) j)[b]? = some y → leE x y) := by
            refine ⟨fun j hj => ?_, fun j hj => ?_⟩
            · by_cases q : j = k
              · subst q; simp only [if_true]; exact hperm.trans (hF.out.1 j hj)
              · simp only [if_neg q]; exact hF.out.1 j hj
            · by_cases q : j = k
              · subst q; simp only [if_true]; exact hsorted
              · simp only [if_neg q]; exact hF.out.2 j (by omega)
          clear hperm hsorted hown2 hg
          go_wp2
          go_roundw
          case rel => exact ⟨k + 1, _, by omega, by go_num, Hrows2, HF2, Hb2, Hx2⟩
          case measure => simp [intOf]; omega
        · obtain rfl : k = locs.length := by omega
          have x3 := hx.out.cell 3
          simp only [List.getElem?_toArray, List.getElem?_cons_zero, List.getElem?_cons_succ] at x3
          go_wp2
          go_ret
          refine ⟨_, rfl, hb.out, gb + 1, F, rfl, ⟨⟨gb, locs.length, x3, fun i hi => ⟨_, _, hrows.out.cell hi, (hrows.out.own i hi).row⟩⟩, fun i hi e => ?_, fun i hi => hF.out.2 i hi, fun i hi => ?_⟩⟩
          · rw [(hF.out.1 i hi).mem_iff]
            unfold fk
            rw [List.take_length, List.mem_filter]
            simp
          · have h1 := (hF.out.1 i hi).length_eq
            have h2 := fk_len edges edges.length i
            omega
end Go.Proofs.Ytadekfjgdbngdaa
