/- The program's graph made: walked. -/
import Derived.Test.YtadekfjgdbngdaaBack
import Derived.Test.YtadekfjgdbngdaaG4
import Derived.Deep.RegionHeld3
namespace Go.Proofs.Ytadekfjgdbngdaa
open Go Go.RowKit

def MadeR (locs : List LocD) (edges : List EdgeD) (p : Int) (v : Value) (w' : World) : Prop :=
  (¬ RightG locs edges p ∧ v = .tuple #[.pointer none, .int .i64 161]) ∨
  (RightG locs edges p ∧ ∃ gx, v = .tuple #[.pointer (some ⟨gx, 0, none⟩), .int .i64 0] ∧ MadeG w' gx locs edges p)

theorem Try.infoEdges : (Try.prog.info? 33).map (fun i => (i.zero, i.size, i.bytes)) = some (some (.slice none 0 0), 1, 24) := by kernel_rfl

set_option maxHeartbeats 1000000 in
theorem made_any (aL aE : Option Addr) (cL cE : Nat) (p : Int) (locs : List LocD) (edges : List EdgeD) (w : World) (hL : Row w 5 aL locs.length (locs.flatMap LocD.cells)) (hE : Row w 3 aE edges.length (edges.flatMap EdgeD.cells))
    (hl : locs.length ≤ 1048576) (hl' : edges.length ≤ 1048576) :
    Calls Try.prog 35 #[.agg #[.slice aL locs.length cL, .slice aE edges.length cE, .int .i64 p]] w (Ret w (MadeR locs edges p)) := by
  have HL := Lib.hid hL
  have HE := Lib.hid hE
  clear hL hE
  obtain ⟨i0, hi, hz0, hz1, hz2⟩ := info_parts Try.infoEdges
  have hmk : ∀ w : World, (Instr.makeSlice 61 (.int .i64 locs.length) (.int .i64 locs.length)).run Try.prog w = .ok (.slice (some ⟨w.heap.size, 0, none⟩) locs.length locs.length) (w.alloc (.cells (madeCells #[.slice none 0 0] locs.length) 33)) := fun w => by
    have h := run_make (P := Try.prog) w 61 33 i0 (.slice none 0 0) Try.underlying61 hi hz0 .i64 .i64 locs.length locs.length (by omega) (Int.le_refl _) (by rw [hz2]; omega) (by omega)
    rw [hz1, Nat.mul_one] at h
    simp only [Int.toNat_natCast] at h
    exact h
  have Hmk := Lib.hid hmk
  clear hi hz0 hz1 hz2 hmk
  go_enter Try.func35, Try.ntmps35
  go_wp2_with fail
  refine (right_any aL aE cL cE p locs edges _ (HL.out.ext (below_a1 _ _)) (HE.out.ext (below_a1 _ _)) (by unfold maxLen; omega) (by unfold maxLen; omega)).mono ?_
  rintro e w1 ⟨v, rfl, hb1, right, rfl, hr⟩
  have k0 : Blk w1 w.heap.size #[.slice aL locs.length cL, .slice aE edges.length cE, .int .i64 p] 35 := (Blk.new rfl).ext hb1
  have Hb1 := Lib.hid ((below_a1 _ _).trans (hb1.mono (by simp)))
  have Hr := Lib.hid hr
  clear hb1 hr
  have K0 := Lib.hid k0
  have c0 := k0.cell 0
  have c1 := k0.cell 1
  have c2 := k0.cell 2
  have cl := k0.lt
  simp only [List.getElem?_toArray, List.getElem?_cons_zero, List.getElem?_cons_succ] at c0 c1 c2
  clear k0
  cases right
  · go_wp2
    go_ret2
    exact ⟨_, rfl, Hb1.out, .inl ⟨fun h => by have := Hr.out.2 h; simp at this, rfl⟩⟩
  · have hR : RightG locs edges p := by have := Hr.out; simpa using this
    have hmost := hR.most
    have HR := Lib.hid hR
    clear hR
    have hmk := Hmk.out
    go_wp2_with fail
    go_region
    go_wp2_with fail
    clear hmk c0 c1 c2
    generalize hW0 : ((w1.alloc (.cells (madeCells #[.slice none 0 0] locs.length) 33)).alloc (.cells #[.slice aL locs.length cL, .slice aE edges.length cE, .int .i64 p, .slice (some ⟨w1.heap.size, 0, none⟩) locs.length locs.length] 104)).drew = W0
    have hb0 : Below w.heap.size w W0 := by subst hW0; exact ((Hb1.out.alloc Hb1.out.size _).alloc (by have := Hb1.out.size; simp; omega) _).drew
    have hkx : Blk W0 (w1.heap.size + 1) #[.slice aL locs.length cL, .slice aE edges.length cE, .int .i64 p, .slice (some ⟨w1.heap.size, 0, none⟩) locs.length locs.length] 104 := by subst hW0; exact (Blk.new (by simp)).drew
    have hkb : Blk W0 w1.heap.size (madeCells #[.slice none 0 0] locs.length) 33 := by subst hW0; exact ((Blk.new rfl).alloc _).drew
    have hsz : w1.heap.size + 2 = W0.heap.size := by subst hW0; simp
    have hinv : BackInv W0 (w1.heap.size + 2) w1.heap.size locs.length edges 0 (fun _ => (none, 0)) :=
      ⟨⟨_, hkb, size_madeCells _ _, fun i hi => by simp [madeCells, bk, hi, Nat.mod_one]⟩, fun i hi => by simp [bk]; exact Own.nil _ _ _ _, fun i j _ _ _ h => by simp at h⟩
    clear hW0 hkb
    generalize w1.heap.size = gb at *
    have Hb0 := Lib.hid hb0
    have Hkx := Lib.hid hkx
    have Hinv := Lib.hid hinv
    have Hsz : Hid (gb + 2 ≤ W0.heap.size) := by show _ ≤ _; omega
    clear hb0 hkx hinv hsz
    go_loopw [20] (fun i wr => ∃ (k : Nat) (bs : Nat → Option Addr × Nat), k ≤ edges.length ∧ i = .int .i64 k ∧ Hid (BackInv wr (gb + 2) gb locs.length edges k bs) ∧ Hid (Below w.heap.size w wr) ∧
      Hid (Blk wr (gb + 1) #[.slice aL locs.length cL, .slice aE edges.length cE, .int .i64 p, .slice (some ⟨gb, 0, none⟩) locs.length locs.length] 104) ∧ Hid (gb + 2 ≤ wr.heap.size)) (fun i _ => edges.length - (intOf i).toNat)
    case atStart => exact ⟨0, _, Nat.zero_le _, rfl, Hinv, Hb0, Hkx, Hsz⟩
    case round =>
      clear Hinv Hb0 Hkx Hsz
      obtain ⟨k, bs, hk, rfl, hinv, hb, hx, hsz⟩ := hrel
      by_cases hlt : k < edges.length
      · obtain ⟨x, hxx⟩ := get_some hlt
        have hok := HR.out.edges k x hxx
        obtain ⟨bE, oE, rfl, e1, e2, e3, hbE⟩ := edge_at (HE.out.ext hb.out) hxx
        have Hx := Lib.hid hxx
        obtain ⟨xs, xd, xr⟩ := x
        obtain ⟨o1, o2, o3, o4, o5, o6⟩ := hok
        simp only at e1 e2 e3 o1 o2 o3 o4 o5 o6
        obtain ⟨d, rfl⟩ := Int.eq_ofNat_of_zero_le o3
        obtain ⟨q1, q2, q3⟩ := hinv.out.cell (i := d) (by omega)
        have hx3 := hx.out.cell 3
        simp only [List.getElem?_toArray, List.getElem?_cons_zero, List.getElem?_cons_succ] at hx3
        have hxl := hx.out.lt
        clear hxx
        have hdn : d < locs.length := by omega
        have hown := hinv.out.own d hdn
        have hbl := bk_len edges k d
        have Hone := Lib.hid (edge_cells1 ⟨xs, d, xr⟩)
        have Hown : Hid (∀ o1 o2, Own ((wr.alloc o1).alloc o2) (gb + 2) 48 3 (bs d).1 (bk edges k d).length (bs d).2 ((bk edges k d).flatMap EdgeD.cells)) := fun o1 o2 => (hown.alloc o1).alloc o2
        have Hbase : Hid (gb + 2 ≤ wr.heap.size + 1 + 1) := by have := hsz.out; show _ ≤ _; omega
        have Hap3 : Hid (some (gb + 1) ≠ rowOf (bs d).1 (bs d).2) := hown.apart (by omega)
        have Hap4 : Hid (some gb ≠ rowOf (bs d).1 (bs d).2) := hown.apart (by omega)
        have Hap5 : Hid (some wr.heap.size ≠ rowOf (bs d).1 (bs d).2) := by
          intro he; unfold rowOf at he; split at he
          · cases he
          · have := (hown.size (by omega) he.symm).2; omega
        clear hown
        generalize hla : (bk edges k d).length = la at *
        have Hla := Lib.hid hla
        clear hla
        obtain ⟨sa, sc⟩ : ∃ sa, sa = (bs d).1 := ⟨_, rfl⟩
        rw [← sc] at q1 Hown Hap3 Hap4 Hap5
        obtain ⟨ca, cc⟩ : ∃ ca, ca = (bs d).2 := ⟨_, rfl⟩
        rw [← cc] at q1 Hown Hap3 Hap4 Hap5
        have Hsc := Lib.hid sc
        have hne : gb ≠ wr.heap.size := by omega
        have Hcc := Lib.hid cc
        clear sc cc
        go_wp2_with fail
        -- BEGIN r7
        refine wp_region_held_drew (S := fun w' => w'.cell? ⟨gb + 1, 3, none⟩ = some (.slice (some ⟨gb, 0, none⟩) locs.length locs.length) ∧ w'.cell? ⟨wr.heap.size, 0, none⟩ = some (.int .i64 xs) ∧ w'.cell? ⟨wr.heap.size, 1, none⟩ = some (.int .i64 d) ∧ w'.cell? ⟨wr.heap.size, 2, none⟩ = some (.int .i64 xr)) (by kernel_rfl) ?_ (fun hHeld => ?_)
        · go_keep
        refine wpAnyH_take (i := 0) (v := ?_) rfl (by kernel_rfl) (by kernel_rfl) (by kernel_rfl) (fun _ _ _ h => h) (Or.inl ⟨by rfl, ?_⟩) (by assumption) ?_; rotate_left; focus (intro w hSw; (try dsimp only at hSw); first | (go_simp; done) | (go_simp; with_reducible rfl)); (try simp only [Act.put]; (try simp only [List.setIfInBounds_toArray]); (try simp only [List.set_cons_succ, List.set_cons_zero]))
        refine wpAnyH_take (i := 1) (v := ?_) rfl (by kernel_rfl) (by kernel_rfl) (by kernel_rfl) (fun _ _ _ h => h) (Or.inl ⟨by rfl, ?_⟩) (by assumption) ?_; rotate_left; focus (intro w hSw; (try dsimp only at hSw); first | (go_simp; done) | (go_simp; with_reducible rfl)); (try simp only [Act.put]; (try simp only [List.setIfInBounds_toArray]); (try simp only [List.set_cons_succ, List.set_cons_zero]))
        refine wpAnyH_take (i := 2) (v := ?_) rfl (by kernel_rfl) (by kernel_rfl) (by kernel_rfl) (fun _ _ _ h => h) (Or.inl ⟨by rfl, ?_⟩) (by assumption) ?_; rotate_left; focus (intro w hSw; (try dsimp only at hSw); first | (go_simp; done) | (go_simp; with_reducible rfl)); (try simp only [Act.put]; (try simp only [List.setIfInBounds_toArray]); (try simp only [List.set_cons_succ, List.set_cons_zero]))
        refine wpAnyH_take (i := 3) (v := ?_) rfl (by kernel_rfl) (by kernel_rfl) (by kernel_rfl) (fun _ _ _ h => h) (Or.inl ⟨by rfl, ?_⟩) (by assumption) ?_; rotate_left; focus (intro w hSw; (try dsimp only at hSw); first | (go_simp; done) | (go_simp; with_reducible rfl)); (try simp only [Act.put]; (try simp only [List.setIfInBounds_toArray]); (try simp only [List.set_cons_succ, List.set_cons_zero]))
        refine wpAnyH_take (i := 4) (v := ?_) rfl (by kernel_rfl) (by kernel_rfl) (by kernel_rfl) (fun _ _ _ h => h) (Or.inl ⟨by rfl, ?_⟩) (by assumption) ?_; rotate_left; focus (intro w hSw; (try dsimp only at hSw); first | (go_simp; done) | (go_simp; with_reducible rfl)); (try simp only [Act.put]; (try simp only [List.setIfInBounds_toArray]); (try simp only [List.set_cons_succ, List.set_cons_zero]))
        refine wpAnyH_take (i := 5) (v := ?_) rfl (by kernel_rfl) (by kernel_rfl) (by kernel_rfl) (fun _ _ _ h => h) (Or.inl ⟨by rfl, ?_⟩) (by assumption) ?_; rotate_left; focus (intro w hSw; (try dsimp only at hSw); first | (go_simp; done) | (go_simp; with_reducible rfl)); (try simp only [Act.put]; (try simp only [List.setIfInBounds_toArray]); (try simp only [List.set_cons_succ, List.set_cons_zero]))
        refine wpAnyH_take (i := 6) (v := ?_) rfl (by kernel_rfl) (by kernel_rfl) (by kernel_rfl) (fun _ _ _ h => h) (Or.inl ⟨by rfl, ?_⟩) (by assumption) ?_; rotate_left; focus (intro w hSw; (try dsimp only at hSw); first | (go_simp; done) | (go_simp; with_reducible rfl)); (try simp only [Act.put]; (try simp only [List.setIfInBounds_toArray]); (try simp only [List.set_cons_succ, List.set_cons_zero]))
        refine wpAnyH_take (i := 7) (v := ?_) rfl (by kernel_rfl) (by kernel_rfl) (by kernel_rfl) (fun _ _ _ h => h) (Or.inl ⟨by rfl, ?_⟩) (by assumption) ?_; rotate_left; focus (intro w hSw; (try dsimp only at hSw); first | (go_simp; done) | (go_simp; with_reducible rfl)); (try simp only [Act.put]; (try simp only [List.setIfInBounds_toArray]); (try simp only [List.set_cons_succ, List.set_cons_zero]))
        refine wpAnyH_take (i := 8) (v := ?_) rfl (by kernel_rfl) (by kernel_rfl) (by kernel_rfl) (fun _ _ _ h => h) (Or.inl ⟨by rfl, ?_⟩) (by assumption) ?_; rotate_left; focus (intro w hSw; (try dsimp only at hSw); first | (go_simp; done) | (go_simp; with_reducible rfl)); (try simp only [Act.put]; (try simp only [List.setIfInBounds_toArray]); (try simp only [List.set_cons_succ, List.set_cons_zero]))
        refine wpAnyH_take (i := 9) (v := ?_) rfl (by kernel_rfl) (by kernel_rfl) (by kernel_rfl) (fun _ _ _ h => h) (Or.inl ⟨by rfl, ?_⟩) (by assumption) ?_; rotate_left; focus (intro w hSw; (try dsimp only at hSw); first | (go_simp; done) | (go_simp; with_reducible rfl)); (try simp only [Act.put]; (try simp only [List.setIfInBounds_toArray]); (try simp only [List.set_cons_succ, List.set_cons_zero]))
        refine wpAnyH_take (i := 10) (v := ?_) rfl (by kernel_rfl) (by kernel_rfl) (by kernel_rfl) (fun _ _ _ h => h) (Or.inl ⟨by rfl, ?_⟩) (by assumption) ?_; rotate_left; focus (intro w hSw; (try dsimp only at hSw); first | (go_simp; done) | (go_simp; with_reducible rfl)); (try simp only [Act.put]; (try simp only [List.setIfInBounds_toArray]); (try simp only [List.set_cons_succ, List.set_cons_zero]))
        refine wpAnyH_take (i := 11) (v := ?_) rfl (by kernel_rfl) (by kernel_rfl) (by kernel_rfl) (fun _ _ _ h => h) (Or.inl ⟨by rfl, ?_⟩) (by assumption) ?_; rotate_left; focus (intro w hSw; (try dsimp only at hSw); first | (go_simp; done) | (go_simp; with_reducible rfl)); (try simp only [Act.put]; (try simp only [List.setIfInBounds_toArray]); (try simp only [List.set_cons_succ, List.set_cons_zero]))
        refine wpAnyH_take (i := 12) (v := ?_) rfl (by kernel_rfl) (by kernel_rfl) (by kernel_rfl) (fun _ _ _ h => h) (Or.inl ⟨by rfl, ?_⟩) (by assumption) ?_; rotate_left; focus (intro w hSw; (try dsimp only at hSw); first | (go_simp; done) | (go_simp; with_reducible rfl)); (try simp only [Act.put]; (try simp only [List.setIfInBounds_toArray]); (try simp only [List.set_cons_succ, List.set_cons_zero]))
        refine wpAnyH_take (i := 14) (v := ?_) rfl (by kernel_rfl) (by kernel_rfl) (by kernel_rfl) (fun _ _ _ h => h) (Or.inl ⟨by rfl, ?_⟩) (by assumption) ?_; rotate_left; focus (intro w hSw; (try dsimp only at hSw); first | (go_simp; done) | (go_simp; with_reducible rfl)); (try simp only [Act.put]; (try simp only [List.setIfInBounds_toArray]); (try simp only [List.set_cons_succ, List.set_cons_zero]))
        refine wpAnyH_ready (rs := [13, 15]) (by kernel_rfl) (by simp) ?_
        refine AllReadyH.cons (i := 13) rfl (fun K hK => ?_) ?_
        · go_simp
          refine hK.out _ _ ?_ (fun hHeld => ?_)
          · go_keep
          try simp only [Act.put]; (try simp only [List.setIfInBounds_toArray]); (try simp only [List.set_cons_succ, List.set_cons_zero])
          refine wpAnyH_ready (rs := [15]) (by kernel_rfl) (by simp) ?_
          refine AllReadyH.cons (i := 15) rfl (fun K hK => ?_) ?_
          · go_simp
            refine hK.out _ _ ?_ (fun hHeld => ?_)
            · go_keep
            try simp only [Act.put]; (try simp only [List.setIfInBounds_toArray]); (try simp only [List.set_cons_succ, List.set_cons_zero])
            refine wpAnyH_ready (rs := [16]) (by kernel_rfl) (by simp) ?_
            refine AllReadyH.cons (i := 16) rfl (fun K hK => ?_) ?_
            · refine step_append_Own rfl (.tmp 37) (.tmp 39) 33 rfl (gb + 2) 48 _ 3 24 Try.underlying33 Try.infoEdge rfl (by decide) sa la ca _ (by simp [go_sem]) (by exact Hown.out _ _) _ 1 1 (EdgeD.cells ⟨xs, d, xr⟩) (by simp [go_sem]; rfl) (by exact Row.new1 (by simp) rfl rfl) Hone.out (by unfold maxLen; omega) (by omega) (by simp; have := Hbase.out; omega) ?_
              intro a' cap' w2 hown1 hg1 hbk
              have hblk : ∃ cur, Blk wr gb cur 33 := by obtain ⟨cur, h, _⟩ := hinv.out.blk; exact ⟨cur, h⟩
              obtain ⟨cur, hblk⟩ := hblk
              have hblk2 := ((((hblk.alloc _).alloc _).drew).grown hg1 Hap4.out).free d
              have d2 : w2.cell? ⟨gb, d, none⟩ = some (.slice sa la ca) := World.grownBy.cell hg1 (by exact below_ext (((Below.refl wr.heap.size wr).alloc (Nat.le_refl _) _).alloc (by simp) _).drew q1) Hap4.out
              clear hblk
              refine hK.out _ _ ?_ (fun hHeld => ?_)
              · go_split_ands
                refine ⟨?_, ?_, ?_, ?_⟩
                · (refine World.grownBy.cell hg1 ?_ Hap3.out; simp [*])
                · (refine World.grownBy.cell hg1 ?_ Hap5.out; simp [*])
                · (refine World.grownBy.cell hg1 ?_ Hap5.out; simp [*])
                · (refine World.grownBy.cell hg1 ?_ Hap5.out; simp [*])
              try simp only [Act.put]; (try simp only [List.setIfInBounds_toArray]); (try simp only [List.set_cons_succ, List.set_cons_zero])
              refine wpAnyH_take (i := 17) (v := ?_) rfl (by kernel_rfl) (by kernel_rfl) (by kernel_rfl) (fun _ _ _ h => h) (Or.inl ⟨by rfl, ?_⟩) (by assumption) ?_; rotate_left; focus (intro w hSw; (try dsimp only at hSw); first | (go_simp; done) | (go_simp; with_reducible rfl)); (try simp only [Act.put]; (try simp only [List.setIfInBounds_toArray]); (try simp only [List.set_cons_succ, List.set_cons_zero]))
              refine wpAnyH_ready (rs := [18]) (by kernel_rfl) (by simp) ?_
              refine AllReadyH.cons (i := 18) rfl (fun K hK => ?_) ?_
              · go_simp
                refine hK.out _ _ ?_ (fun hHeld => ?_)
                · go_keep
                try simp only [Act.put]
                refine wpAnyH_done (by kernel_rfl) ?_ _
                have hWb := (((Below.refl wr.heap.size wr).alloc (Nat.le_refl _) (.cells #[.int .i64 xs, .int .i64 d, .int .i64 xr] 48)).alloc (by simp) (.cells #[.int .i64 xs, .int .i64 d, .int .i64 xr] 48)).drew
                have hst := hinv.out.step (by omega) Hx.out rfl hdn hWb.block hWb.size (a' := a') (c' := cap') (by rw [Hla.out]; exact hown1) (by rw [← Hsc.out, ← Hcc.out]; exact hg1) (by rw [← Hsc.out, ← Hcc.out]; exact hbk)
                rw [Hla.out] at hst
                have hgb' : Below w.heap.size w w2 := (hb.out.trans (hWb.mono hb.out.size)).grown hg1 (by have := hWb.size; have := hb.out.size; omega) (fun j hj => by rw [Hsc.out, Hcc.out] at hj; have := (hinv.out.own d hdn).rowBase (Nat.le_refl _) j hj; omega)
                have hgx : Blk w2 (gb + 1) _ _ := (hx.out.below hWb hx.out.lt).grown hg1 Hap3.out
                have hgs := hg1.size
                have hws := hWb.size
                have hsz' := hsz.out
                have Hst := Lib.hid hst
                have Hgb' := Lib.hid (hgb'.setCell (p := ⟨gb, d, none⟩) (by show w.heap.size ≤ gb; omega) (.slice a' (la + 1) cap'))
                have Hgx := Lib.hid (hgx.other (p := ⟨gb, d, none⟩) (by show gb + 1 ≠ gb; omega) (.slice a' (la + 1) cap'))
                have Hgs : Hid (gb + 2 ≤ (w2.setCell ⟨gb, d, none⟩ (.slice a' (la + 1) cap')).heap.size) := by show _ ≤ _; simp at *; omega
                clear hst hgb' hgx hgs hws hsz' hWb hHeld
                go_wp2
                go_roundw
                case rel => exact ⟨k + 1, _, by omega, by go_num, Hst, Hgb', Hgx, Hgs⟩
                case measure => simp [intOf]; omega
              exact AllReadyH.nil
            exact AllReadyH.nil
          exact AllReadyH.nil
        refine AllReadyH.cons (i := 15) rfl (fun K hK => ?_) ?_
        · go_simp
          refine hK.out _ _ ?_ (fun hHeld => ?_)
          · go_keep
          try simp only [Act.put]; (try simp only [List.setIfInBounds_toArray]); (try simp only [List.set_cons_succ, List.set_cons_zero])
          refine wpAnyH_ready (rs := [13]) (by kernel_rfl) (by simp) ?_
          refine AllReadyH.cons (i := 13) rfl (fun K hK => ?_) ?_
          · go_simp
            refine hK.out _ _ ?_ (fun hHeld => ?_)
            · go_keep
            try simp only [Act.put]; (try simp only [List.setIfInBounds_toArray]); (try simp only [List.set_cons_succ, List.set_cons_zero])
            refine wpAnyH_ready (rs := [16]) (by kernel_rfl) (by simp) ?_
            refine AllReadyH.cons (i := 16) rfl (fun K hK => ?_) ?_
            · refine step_append_Own rfl (.tmp 37) (.tmp 39) 33 rfl (gb + 2) 48 _ 3 24 Try.underlying33 Try.infoEdge rfl (by decide) sa la ca _ (by simp [go_sem]) (by exact Hown.out _ _) _ 1 1 (EdgeD.cells ⟨xs, d, xr⟩) (by simp [go_sem]; rfl) (by exact Row.new1 (by simp) rfl rfl) Hone.out (by unfold maxLen; omega) (by omega) (by simp; have := Hbase.out; omega) ?_
              intro a' cap' w2 hown1 hg1 hbk
              have hblk : ∃ cur, Blk wr gb cur 33 := by obtain ⟨cur, h, _⟩ := hinv.out.blk; exact ⟨cur, h⟩
              obtain ⟨cur, hblk⟩ := hblk
              have hblk2 := ((((hblk.alloc _).alloc _).drew).grown hg1 Hap4.out).free d
              have d2 : w2.cell? ⟨gb, d, none⟩ = some (.slice sa la ca) := World.grownBy.cell hg1 (by exact below_ext (((Below.refl wr.heap.size wr).alloc (Nat.le_refl _) _).alloc (by simp) _).drew q1) Hap4.out
              clear hblk
              refine hK.out _ _ ?_ (fun hHeld => ?_)
              · go_split_ands
                refine ⟨?_, ?_, ?_, ?_⟩
                · (refine World.grownBy.cell hg1 ?_ Hap3.out; simp [*])
                · (refine World.grownBy.cell hg1 ?_ Hap5.out; simp [*])
                · (refine World.grownBy.cell hg1 ?_ Hap5.out; simp [*])
                · (refine World.grownBy.cell hg1 ?_ Hap5.out; simp [*])
              try simp only [Act.put]; (try simp only [List.setIfInBounds_toArray]); (try simp only [List.set_cons_succ, List.set_cons_zero])
              refine wpAnyH_take (i := 17) (v := ?_) rfl (by kernel_rfl) (by kernel_rfl) (by kernel_rfl) (fun _ _ _ h => h) (Or.inl ⟨by rfl, ?_⟩) (by assumption) ?_; rotate_left; focus (intro w hSw; (try dsimp only at hSw); first | (go_simp; done) | (go_simp; with_reducible rfl)); (try simp only [Act.put]; (try simp only [List.setIfInBounds_toArray]); (try simp only [List.set_cons_succ, List.set_cons_zero]))
              refine wpAnyH_ready (rs := [18]) (by kernel_rfl) (by simp) ?_
              refine AllReadyH.cons (i := 18) rfl (fun K hK => ?_) ?_
              · go_simp
                refine hK.out _ _ ?_ (fun hHeld => ?_)
                · go_keep
                try simp only [Act.put]
                refine wpAnyH_done (by kernel_rfl) ?_ _
                have hWb := (((Below.refl wr.heap.size wr).alloc (Nat.le_refl _) (.cells #[.int .i64 xs, .int .i64 d, .int .i64 xr] 48)).alloc (by simp) (.cells #[.int .i64 xs, .int .i64 d, .int .i64 xr] 48)).drew
                have hst := hinv.out.step (by omega) Hx.out rfl hdn hWb.block hWb.size (a' := a') (c' := cap') (by rw [Hla.out]; exact hown1) (by rw [← Hsc.out, ← Hcc.out]; exact hg1) (by rw [← Hsc.out, ← Hcc.out]; exact hbk)
                rw [Hla.out] at hst
                have hgb' : Below w.heap.size w w2 := (hb.out.trans (hWb.mono hb.out.size)).grown hg1 (by have := hWb.size; have := hb.out.size; omega) (fun j hj => by rw [Hsc.out, Hcc.out] at hj; have := (hinv.out.own d hdn).rowBase (Nat.le_refl _) j hj; omega)
                have hgx : Blk w2 (gb + 1) _ _ := (hx.out.below hWb hx.out.lt).grown hg1 Hap3.out
                have hgs := hg1.size
                have hws := hWb.size
                have hsz' := hsz.out
                have Hst := Lib.hid hst
                have Hgb' := Lib.hid (hgb'.setCell (p := ⟨gb, d, none⟩) (by show w.heap.size ≤ gb; omega) (.slice a' (la + 1) cap'))
                have Hgx := Lib.hid (hgx.other (p := ⟨gb, d, none⟩) (by show gb + 1 ≠ gb; omega) (.slice a' (la + 1) cap'))
                have Hgs : Hid (gb + 2 ≤ (w2.setCell ⟨gb, d, none⟩ (.slice a' (la + 1) cap')).heap.size) := by show _ ≤ _; simp at *; omega
                clear hst hgb' hgx hgs hws hsz' hWb hHeld
                go_wp2
                go_roundw
                case rel => exact ⟨k + 1, _, by omega, by go_num, Hst, Hgb', Hgx, Hgs⟩
                case measure => simp [intOf]; omega
              exact AllReadyH.nil
            exact AllReadyH.nil
          exact AllReadyH.nil
        exact AllReadyH.nil
        -- END r7
      · go_wp2
        go_ret2
        obtain rfl : k = edges.length := by omega
        have x0 := hx.out.cell 0
        have x1 := hx.out.cell 1
        have x2 := hx.out.cell 2
        have x3 := hx.out.cell 3
        simp only [List.getElem?_toArray, List.getElem?_cons_zero, List.getElem?_cons_succ] at x0 x1 x2 x3
        exact ⟨_, rfl, hb.out, .inr ⟨HR.out, gb + 1, rfl, ⟨aL, cL, aE, cE, gb, x0, x1, x2, x3, HL.out.ext hb.out, HE.out.ext hb.out, fun i hi => ⟨_, _, (hinv.out.cell hi).1, (hinv.out.own i hi).row⟩⟩⟩⟩

end Go.Proofs.Ytadekfjgdbngdaa
