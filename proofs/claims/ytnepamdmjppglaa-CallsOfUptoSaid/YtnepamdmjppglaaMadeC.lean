/- The graph of nodes, walked: a map from each name to those that it calls (turned: that call it). -/
import Derived.Test.YtnepamdmjppglaaGMap
import Derived.Deep.RegionHeld3
namespace Go.Proofs.Ytnepamdmjppglaa
open Go Go.RowKit

/-- how often a name stands among the first i nodes -/
def cnt (l : List NodeD) (i : Nat) (x : Nm) : Nat := ((l.take i).filter fun d => decide (d.name = x)).length
theorem cnt_succ {l : List NodeD} {i : Nat} {d : NodeD} (hd : l[i]? = some d) (x : Nm) : cnt l (i + 1) x = upd (cnt l i) d.name (cnt l i d.name + 1) x := by
  unfold cnt upd
  rw [List.take_add_one, hd]
  by_cases h : x = d.name
  · subst h; simp
  · have h' : d.name ≠ x := fun e => h e.symm
    simp [h, h']
theorem cnt_le (l : List NodeD) (i : Nat) (x : Nm) : cnt l i x ≤ i := by
  unfold cnt
  have := List.length_filter_le (fun d : NodeD => decide (d.name = x)) (l.take i)
  have := List.length_take_le i l
  omega
theorem cnt_pos {l : List NodeD} {i : Nat} {x : Nm} (h : 0 < cnt l i x) : ∃ (j : Nat) (e : NodeD), j < i ∧ l[j]? = some e ∧ e.name = x := by
  unfold cnt at h
  obtain ⟨e, he⟩ := List.exists_mem_of_length_pos h
  rw [List.mem_filter] at he
  obtain ⟨j, hj⟩ := List.getElem?_of_mem he.1
  have hlt := get_lt hj
  rw [List.length_take] at hlt
  rw [List.getElem?_take, if_pos (by omega)] at hj
  exact ⟨j, e, by omega, hj, by simpa using he.2⟩
theorem cnt_zero {l : List NodeD} {i : Nat} {x : Nm} (h : cnt l i x = 0) {j : Nat} {e : NodeD} (hj : j < i) (he : l[j]? = some e) : e.name ≠ x := fun hx => by
  unfold cnt at h
  have : e ∈ (l.take i).filter fun d => decide (d.name = x) := by
    rw [List.mem_filter]
    refine ⟨List.mem_of_getElem? (i := j) ?_, by simpa using hx⟩
    rw [List.getElem?_take, if_pos hj]; exact he
  rw [List.length_eq_zero_iff.1 h] at this
  simp at this
theorem names_take {l : List NodeD} {i : Nat} {d : NodeD} (hd : l[i]? = some d) (x : Nm) : x ∈ names (l.take (i + 1)) ↔ x ∈ names (l.take i) ∨ x = d.name := by
  unfold names
  rw [List.take_add_one, hd, List.map_append, List.mem_append]
  simp

/-- within the loop over a node's calls -/
structure M3 (w wq : World) (l : List NodeD) (t : Bool) (sb nb : Nat) (ks ks2 : List Nm) (d : NodeD) (k k2 : Nat) (E : List (Nm × Nm)) (sl : Nm → Option Addr × Nat) : Prop where
  below : Below w.heap.size w wq
  rows : GRows wq (w.heap.size + 1) w.heap.size ks E sl
  seen : IM wq sb ks2 (cnt l (k + 1))
  nm : wq.cell? ⟨nb, 0, none⟩ = some (.string ⟨d.name.toArray⟩)
  far : ∀ x, rowOf (sl x).1 (sl x).2 ≠ some nb
  inv : PInv l t k k2 E
  sbl : w.heap.size + 1 ≤ sb
  nbl : w.heap.size + 1 ≤ nb
theorem M3.push {w wq : World} {l : List NodeD} {t : Bool} {sb nb : Nat} {ks ks2 : List Nm} {d : NodeD} {k k2 : Nat} {E : List (Nm × Nm)} {sl : Nm → Option Addr × Nat} (h : M3 w wq l t sb nb ks ks2 d k k2 E sl) {w0 : World} (h0 : Below wq.heap.size wq w0)
    (hd : l[k]? = some d) (hf : cnt l k d.name = 0) {c p q : Nm} (hc : d.calls[k2]? = some c) (hn : c ∈ names l) (hp : p ∈ ks) (hq : q ∈ ks) (hpq : pair t d.name c = (p, q)) {a' : Option Addr} {c' : Nat} {w1 w2 : World}
    (hown : Own w1 (w.heap.size + 1) 9 1 a' ((outs E p).length + 1) c' ((outs E p).map strV ++ [strV q])) (hg : w0.grownBy w1 (rowOf (sl p).1 (sl p).2)) (hbk : rowOf a' c' = rowOf (sl p).1 (sl p).2 ∨ rowOf a' c' = some w0.heap.size)
    (hs : SM w2 w.heap.size (addK ks p) (upd (fun x => .slice (sl x).1 (outs E x).length (sl x).2) p (.slice a' ((outs E p).length + 1) c')) (.slice none 0 0)) (hg2 : w1.grownBy w2 (some w.heap.size)) :
    M3 w w2 l t sb nb ks ks2 d k (k2 + 1) (E ++ [(p, q)]) (upd sl p (a', c')) := by
  have hr := h.rows.ext h0
  have hseen := h.seen.ext h0
  have hnm := below_ext h0 h.nm
  have hsb : some sb ≠ rowOf (sl p).1 (sl p).2 := by
    unfold rowOf; split
    · simp
    · obtain ⟨es, clock, hm, _⟩ := hseen
      exact fun e => hr.notMap hm p (by omega) e.symm
  have hbel := h.below.trans (h0.mono h.below.size)
  have hsz := hbel.size
  have hsbl := h.sbl
  have hnbl := h.nbl
  refine ⟨(hbel.grown hg hsz fun j hj => by have := (hr.own p).rowBase (Nat.le_refl _) j hj; omega).grown hg2 (Nat.le_trans hsz hg.size) (fun j hj => by cases hj; exact Nat.le_refl _), hr.push hp hq hown hg hbk hs hg2, (hseen.grown hg hsb).grown hg2 (by simp; omega), hg2.cell (hg.cell hnm fun e => h.far p e.symm) (by simp; omega), fun x => ?_, ?_, h.sbl, h.nbl⟩
  · by_cases hx : x = p
    · subst hx; rw [upd_same]
      exact rowOf_apart (h.far x) (cell_lt hnm) hbk
    · rw [upd_other _ _ hx]; exact h.far x
  · rw [← hpq]
    exact h.inv.push hd (fun j e hj he => cnt_zero hf hj he) hc hn

theorem M3.drew {w wq : World} {l : List NodeD} {t : Bool} {sb nb : Nat} {ks ks2 : List Nm} {d : NodeD} {k k2 : Nat} {E : List (Nm × Nm)} {sl : Nm → Option Addr × Nat} (h : M3 w wq l t sb nb ks ks2 d k k2 E sl) : M3 w wq.drew l t sb nb ks ks2 d k k2 E sl :=
  ⟨h.below.drew, ⟨h.rows.map, fun x => (h.rows.own x).drewN 1, h.rows.apart, h.rows.lt, h.rows.size, h.rows.keys⟩, h.seen, h.nm, h.far, h.inv, h.sbl, h.nbl⟩

set_option maxHeartbeats 1000000 in
set_option maxRecDepth 20000 in
theorem made_any (a : Option Addr) (c : Nat) (l : List NodeD) (t : Bool) (w : World) (hn : NodesAt w a l) (hl : SmallN l) :
    Calls Try.prog 28 #[.slice a l.length c, .bool t] w (Ret w fun v w' => ∃ gb ks E sl, v = .map (some gb) ∧ gb = w.heap.size ∧ GRows w' (gb + 1) gb ks E sl ∧ (∀ x, x ∈ ks ↔ x ∈ names l) ∧ ks.length ≤ l.length ∧ Pairs l t E) := by
  have HN := Lib.hid hn
  have HL := Lib.hid hl
  have hlen : l.length ≤ 1048576 := hl.len
  have Hname : Hid (∀ d ∈ l, d.name.length ≤ maxLen) := Lib.hid fun d hd => by have := hl.name d hd; unfold M20 at this; unfold maxLen; omega
  have Hcall : Hid (∀ d ∈ l, ∀ c ∈ d.calls, c.length ≤ maxLen) := Lib.hid fun d hd c hc => by have := hl.call d hd c hc; unfold M20 at this; unfold maxLen; omega
  have Htot : Hid (total l ≤ 1048576) := Lib.hid hl.tot
  clear hn hl
  have hmm := @run_makeMap Try.prog
  go_enter Try.func28, Try.ntmps28
  go_wp2_with fail
  go_loopw [18] (fun i wr => ∃ (k : Nat) (ks : List Nm), k ≤ l.length ∧ i = .int .i64 k ∧ Hid (Below w.heap.size w wr) ∧ Hid (SM wr w.heap.size ks (fun _ => .slice none 0 0) (.slice none 0 0)) ∧ Hid ((∀ x, x ∈ ks ↔ x ∈ names (l.take k)) ∧ ks.length ≤ k)) (fun i _ => l.length - (intOf i).toNat)
  case atStart => exact ⟨0, [], Nat.zero_le _, rfl, Lib.hid (below_a1 _ _), Lib.hid (SMap.made w _), Lib.hid ⟨by simp [names], by simp⟩⟩
  case round =>
    obtain ⟨k, ks, hk, rfl, hb, hs, hks⟩ := hrel
    by_cases hlt : k < l.length
    · obtain ⟨d, hd⟩ := get_some hlt
      obtain ⟨b, off, rfl, c0, c1, hbl, -⟩ := node_at (HN.out.ext hb.out) hd
      have Hdn : Hid (d.name.length ≤ maxLen) := Lib.hid (Hname.out d (List.mem_of_getElem? hd))
      have Hksl : Hid (ks.length < maxLen) := Lib.hid (by have := hks.out.2; unfold maxLen; omega)
      have Hd := Lib.hid hd
      have hwr := hb.out.size
      clear hd
      go_wp2_with (at_mapUpdate; refine wpList_store rfl _ _ _ _ _ rfl undG (by exact hs.out.alloc _) Hdn.out Hksl.out rfl rfl (val := .slice none 0 0) rfl ?_; intro w1 hs1 hg1 hz1; have Hs1 := Lib.hid hs1; have Hb1 := Lib.hid ((hb.out.alloc hb.out.size _).grown hg1 (by simp; omega) (fun j hj => by cases hj; exact Nat.le_refl _)); clear hs1 hg1 hz1)
      go_roundw
      case rel =>
        refine ⟨k + 1, addK ks d.name, by omega, by go_num, Hb1, ?_, Lib.hid ⟨fun x => ?_, ?_⟩⟩
        · have h := Hs1.out
          have e : upd (fun _ : Nm => Value.slice none 0 0) d.name (Value.slice none 0 0) = fun _ => Value.slice none 0 0 := by funext x; unfold upd; split <;> rfl
          rw [e] at h; exact Lib.hid h
        · rw [mem_addK, names_take Hd.out, hks.out.1]
        · rw [addK_len]; have := hks.out.2; split <;> omega
      case measure => simp [intOf]; omega
    · obtain rfl : k = l.length := by omega
      have Hks : Hid ((∀ x, x ∈ ks ↔ x ∈ names l) ∧ ks.length ≤ l.length) := by have := hks; rw [List.take_length] at this; exact this
      clear hks
      have HB0 := hb
      have Hs0 := hs
      clear hb hs
      -- LOOP2
      have hsb := HB0.out.size
      have hgb := Hs0.out.lt
      have HG0 : Hid (GRows (wr.alloc (.map #[] 0)) (w.heap.size + 1) w.heap.size ks [] (fun _ => (none, 0))) := Lib.hid (GRows.start (Hs0.out.alloc _) (Nat.lt_succ_self _) (by simp; omega))
      have HI0 : Hid (IM (wr.alloc (.map #[] 0)) wr.heap.size [] (cnt l 0)) := Lib.hid (IM.im_f (fun x => by simp [cnt]) (SMap.made wr (.int .i64 0)))
      have HB1 : Hid (Below w.heap.size w (wr.alloc (.map #[] 0))) := Lib.hid (HB0.out.alloc hsb _)
      have Hw : Hid (∃ W : World, W = wr) := Lib.hid ⟨wr, rfl⟩
      obtain ⟨sb, hsbe⟩ : ∃ sb, sb = wr.heap.size := ⟨_, rfl⟩
      have Hsb : Hid (w.heap.size + 1 ≤ sb) := Lib.hid (by omega)
      rw [← hsbe] at HI0
      clear Hs0 HB0 hsb hgb Hw
      go_wp2_with fail
      rw [← hsbe]
      clear hsbe
      go_loopw [29] (fun i wq => ∃ (k : Nat) (ks2 : List Nm) (E : List (Nm × Nm)) (sl : Nm → Option Addr × Nat), k ≤ l.length ∧ i = .int .i64 k ∧ Hid (Below w.heap.size w wq) ∧ Hid (GRows wq (w.heap.size + 1) w.heap.size ks E sl) ∧ Hid (IM wq sb ks2 (cnt l k) ∧ ks2.length ≤ k) ∧ Hid (PInv l t k 0 E)) (fun i _ => l.length - (intOf i).toNat)
      case atStart => exact ⟨0, [], [], _, Nat.zero_le _, rfl, HB1, HG0, Lib.hid ⟨HI0.out, by simp⟩, Lib.hid (PInv.start l t)⟩
      case round =>
        obtain ⟨k, ks2, E, sl, hk, rfl, hb, hG, hI, hP⟩ := hrel
        by_cases hlt : k < l.length
        · obtain ⟨d, hd⟩ := get_some hlt
          obtain ⟨b, off, rfl, c0, c1, hbl, hrc⟩ := node_at (HN.out.ext hb.out) hd
          have Hdn : Hid (d.name.length ≤ maxLen) := Lib.hid (Hname.out d (List.mem_of_getElem? hd))
          have Hks2 : Hid (ks2.length < maxLen) := Lib.hid (by have := hI.out.2; unfold maxLen; omega)
          have Hd := Lib.hid hd
          have Hrc := Lib.hid hrc
          have Hcl : Hid (d.calls.length ≤ 1048576) := Lib.hid (by have := total_mem (List.mem_of_getElem? hd); have := Htot.out; omega)
          have hwr := hb.out.size
          have hcl := Hcl.out
          have hcnt := cnt_le l k d.name
          have hcs := cnt_succ hd d.name
          rw [upd_same] at hcs
          obtain ⟨m0, hm0⟩ : ∃ m0, cnt l k d.name = m0 := ⟨_, rfl⟩
          rw [hm0] at hcs hcnt
          have Hm0 := Lib.hid hm0
          have Hcs := Lib.hid hcs
          have Hcs2 : Hid (∀ x, upd (cnt l k) d.name (m0 + 1) x = cnt l (k + 1) x) := Lib.hid fun x => by rw [cnt_succ hd x, hm0]
          have tok1 : True := trivial
          clear hd hrc hm0 hcs
          by_cases hz : m0 = 0
          · subst hz
            go_wp2_with (first
              | (at_lookup; have _t := tok1; refine wpList_lookI rfl _ _ rfl (by exact hI.out.1.alloc _) Hdn.out rfl rfl 0 Hm0.out ?_; clear tok1)
              | (at_mapUpdate; refine wpList_storeI rfl _ _ _ rfl (by exact hI.out.1.alloc _) Hdn.out Hks2.out rfl rfl 1 rfl ?_; intro w1 hs1 hg1 hz1; have Hs1 : Hid (IM w1 sb (addK ks2 d.name) (cnt l (k + 1))) := Lib.hid (IM.im_f Hcs2.out hs1); have HG1 : Hid (GRows w1 (w.heap.size + 1) w.heap.size ks E sl) := Lib.hid ((hG.out.ext (below_a1 _ _)).grownM (hI.out.1.alloc _) hg1 (by have := Hsb.out; omega)); have Hb1 := Lib.hid ((hb.out.alloc hwr _).grown hg1 (by simp; omega) (fun j hj => by cases hj; have := Hsb.out; omega)); have q0 : w1.cell? ⟨wr.heap.size, 0, none⟩ = some (.string ⟨d.name.toArray⟩) := World.grownBy.cell hg1 (by simp) (by simp; have := hI.out.1.lt; omega); have q1 : w1.cell? ⟨wr.heap.size, 1, none⟩ = some (.slice d.a d.calls.length d.c) := World.grownBy.cell hg1 (by simp) (by simp; have := hI.out.1.lt; omega); clear hs1 hg1 hz1)
              | (at_lookup; refine wpList_lookI rfl _ _ rfl (by exact Hs1.out) Hdn.out rfl rfl 1 Hcs.out ?_))
            -- LOOP3
            obtain ⟨nb, hnbe⟩ : ∃ nb, nb = wr.heap.size := ⟨_, rfl⟩
            obtain ⟨da, hda⟩ : ∃ da, da = d.a := ⟨_, rfl⟩
            rw [← hnbe] at q0 q1
            have HM0 : Hid (M3 w w1 l t sb nb ks (addK ks2 d.name) d k 0 E sl) := Lib.hid ⟨Hb1.out, HG1.out, Hs1.out, q0, fun x => by
              unfold rowOf; split
              · simp
              · intro e
                have := ((hG.out.own x).size (by omega) e).2
                omega, hP.out, Hsb.out, by have := hI.out.1.lt; have := Hsb.out; omega⟩
            have Hks2' : Hid ((addK ks2 d.name).length ≤ k + 1) := Lib.hid (by rw [addK_len]; have := hI.out.2; split <;> omega)
            clear Hs1 HG1 Hb1 q0 q1 hb hG hI hP c0 c1 HG0 HB1 HI0
            rw [← hnbe, ← hda]
            have Hda := Lib.hid hda
            clear hnbe hda
            go_loopw [46] (fun i wq => ∃ (k2 : Nat) (E : List (Nm × Nm)) (sl : Nm → Option Addr × Nat), k2 ≤ d.calls.length ∧ i = .int .i64 k2 ∧ Hid (M3 w wq l t sb nb ks (addK ks2 d.name) d k k2 E sl)) (fun i _ => d.calls.length - (intOf i).toNat)
            case atStart => exact ⟨0, E, sl, Nat.zero_le _, rfl, HM0⟩
            case round =>
              clear HM0 Hrc
              obtain ⟨k2, E, sl, hk2, rfl, hM⟩ := hrel
              by_cases hlt2 : k2 < d.calls.length
              · obtain ⟨cc, hcc⟩ := get_some hlt2
                have hrow := (HN.out.ext (hM.out.below)).2 d (List.mem_of_getElem? Hd.out)
                rw [← Hda.out] at hrow
                obtain ⟨b2, off2, hda2, cc0⟩ := str_at hrow hcc
                have Hda2 : Hid (some ⟨b2, off2, none⟩ = d.a) := Lib.hid (by rw [← hda2]; exact Hda.out)
                clear hrow Hda
                subst hda2
                have Hcc := Lib.hid hcc
                have Hccn : Hid (cc.length ≤ maxLen) := Lib.hid (Hcall.out d (List.mem_of_getElem? Hd.out) cc (List.mem_of_getElem? hcc))
                clear hcc
                have Hdks : Hid (d.name ∈ ks) := Lib.hid ((Hks.out.1 _).2 (mem_names.2 ⟨d, List.mem_of_getElem? Hd.out, rfl⟩))
                have Hel : Hid (E.length ≤ 1048576) := Lib.hid (by
                  have h1 := hM.out.inv.len
                  have h2 := take_snoc_total Hd.out
                  have h3 := total_take l (k + 1)
                  have h4 := Htot.out
                  omega)
                have hwrs := hM.out.below.size
                have hnbw := cell_lt hM.out.nm
                dsimp only at hnbw
                by_cases hin : cc ∈ ks
                · have Hin := Lib.hid hin
                  have Hcn : Hid (cc ∈ names l) := Lib.hid ((Hks.out.1 _).1 hin)
                  clear hin
                  by_cases ht : t = true
                  · subst ht
                    -- TURNED
                    have hE := outs_len E cc
                    have Hl1 : Hid ((outs E cc).length ≤ 1048576) := Lib.hid (by have := Hel.out; omega)
                    have hl1 := Hl1.out
                    have nm0 := hM.out.nm
                    clear hE
                    have tok2 : True := trivial
                    go_wp2_with (first
                      | (at_lookup; have _t := tok2; refine wpList_lookok rfl _ _ _ _ rfl undG (zeroStrs _) (by exact hM.out.rows.map) Hccn.out rfl rfl (q := true) (by have := Hin.out; simp [this]) ?_; clear tok2)
                      | (at_lookup; refine wpList_look rfl _ _ _ _ rfl undG (zeroStrs _) (by exact hM.out.rows.map) Hccn.out rfl rfl ?_)
                      | (at_builtin; refine wpList_append_Own rfl _ _ 28 rfl (w.heap.size + 1) 9 _ 1 16 Try.underlying28 infoStr rfl (by decide) _ _ _ _ rfl (by exact (hM.out.rows.own cc).alloc _) _ 1 1 [strV d.name] rfl (Row.new1 (by simp) rfl rfl) (by simp [Value.oneCell', strV]) (by unfold maxLen; omega) (by omega) (by simp; omega) ?_; intro a1 c1 w2 hown1 hg1 hbk1)
                      | (at_mapUpdate; refine wpList_store rfl _ _ _ _ _ rfl undG (by exact SMap.grown ((hM.out.rows.map).alloc _) hg1 ((hM.out.rows.own cc).apart (Nat.lt_succ_self _))) Hccn.out (by have := Hks.out.2; unfold maxLen; omega) rfl rfl (val := .slice a1 ((outs E cc).length + 1) c1) rfl ?_; intro w3 hs3 hg3 hz3; have HM3 := Lib.hid (hM.out.push (below_a1 _ _) Hd.out Hm0.out Hcc.out Hcn.out Hin.out Hdks.out rfl hown1 hg1 hbk1 hs3 hg3); clear hown1 hg1 hbk1 hs3 hg3 hz3))
                    go_roundw
                    case rel => exact ⟨k2 + 1, _, _, by omega, by go_num, HM3⟩
                    case measure => simp [intOf]; omega
                  · obtain rfl : t = false := by simpa using ht
                    clear ht
                    have hE := outs_len E d.name
                    have Hl1 : Hid ((outs E d.name).length ≤ 1048576) := Lib.hid (by have := Hel.out; omega)
                    have hl1 := Hl1.out
                    have nm0 := hM.out.nm
                    have HMd := Lib.hid hM.out.drew
                    clear hE
                    go_wp2_with (at_lookup; refine wpList_lookok rfl _ _ _ _ rfl undG (zeroStrs _) (by exact hM.out.rows.map) Hccn.out rfl rfl (q := true) (by have := Hin.out; simp [this]) ?_)
                    -- BEGIN R20
                    refine wp_region_held_drew (S := fun w' => w'.cell? ⟨nb, 0, none⟩ = some (.string ⟨d.name.toArray⟩)) (by kernel_rfl) ?_ (fun hHeld => ?_)
                    · exact nm0
                    refine wpAnyH_take (i := 0) (oi := ⟨some 68, _, _, _, _, _⟩) (v := ?_) rfl (by kernel_rfl) (by kernel_rfl) (by kernel_rfl) (fun _ _ _ h => h) (Or.inl ⟨by rfl, ?_⟩) (by assumption) ?_; rotate_left; focus (intro w hSw; (try dsimp only at hSw); first | (go_simp; done) | (go_simp; with_reducible rfl))
                    try simp only [Act.put]
                    try simp only [List.setIfInBounds_toArray]
                    try simp only [List.set_cons_succ, List.set_cons_zero]
                    refine wpAnyH_take (i := 1) (oi := ⟨some 69, _, _, _, _, _⟩) (v := ?_) rfl (by kernel_rfl) (by kernel_rfl) (by kernel_rfl) (fun _ _ _ h => h) (Or.inl ⟨by rfl, ?_⟩) (by assumption) ?_; rotate_left; focus (intro w hSw; (try dsimp only at hSw); first | (go_simp; done) | (go_simp; with_reducible rfl))
                    try simp only [Act.put]
                    try simp only [List.setIfInBounds_toArray]
                    try simp only [List.set_cons_succ, List.set_cons_zero]
                    refine wpAnyH_take (i := 2) (oi := ⟨some 70, _, _, _, _, _⟩) (v := ?_) rfl (by kernel_rfl) (by kernel_rfl) (by kernel_rfl) (fun _ _ _ h => h) (Or.inl ⟨by rfl, ?_⟩) (by assumption) ?_; rotate_left; focus (intro w hSw; (try dsimp only at hSw); first | (go_simp; done) | (go_simp; with_reducible rfl))
                    try simp only [Act.put]
                    try simp only [List.setIfInBounds_toArray]
                    try simp only [List.set_cons_succ, List.set_cons_zero]
                    refine wpAnyH_take (i := 3) (oi := ⟨some 71, _, _, _, _, _⟩) (v := ?_) rfl (by kernel_rfl) (by kernel_rfl) (by kernel_rfl) (fun _ _ _ h => h) (Or.inl ⟨by rfl, ?_⟩) (by assumption) ?_; rotate_left; focus (intro w hSw; (try dsimp only at hSw); first | (go_simp; done) | (go_simp; with_reducible rfl))
                    try simp only [Act.put]
                    try simp only [List.setIfInBounds_toArray]
                    try simp only [List.set_cons_succ, List.set_cons_zero]
                    refine wpAnyH_take (i := 4) (oi := ⟨some 72, _, _, _, _, _⟩) (v := ?_) rfl (by kernel_rfl) (by kernel_rfl) (by kernel_rfl) (fun _ _ _ h => h) (Or.inl ⟨by rfl, ?_⟩) (by assumption) ?_; rotate_left; focus (intro w hSw; (try dsimp only at hSw); first | (go_simp; done) | (go_simp; with_reducible rfl))
                    try simp only [Act.put]
                    try simp only [List.setIfInBounds_toArray]
                    try simp only [List.set_cons_succ, List.set_cons_zero]
                    refine wpAnyH_take (i := 5) (oi := ⟨some 73, _, _, _, _, _⟩) (v := ?_) rfl (by kernel_rfl) (by kernel_rfl) (by kernel_rfl) (fun _ _ _ h => h) (Or.inl ⟨by rfl, ?_⟩) (by assumption) ?_; rotate_left; focus (intro w hSw; (try dsimp only at hSw); first | (go_simp; done) | (go_simp; with_reducible rfl))
                    try simp only [Act.put]
                    try simp only [List.setIfInBounds_toArray]
                    try simp only [List.set_cons_succ, List.set_cons_zero]
                    refine wpAnyH_take (i := 7) (oi := ⟨some 75, _, _, _, _, _⟩) (v := ?_) rfl (by kernel_rfl) (by kernel_rfl) (by kernel_rfl) (fun _ _ _ h => h) (Or.inl ⟨by rfl, ?_⟩) (by assumption) ?_; rotate_left; focus (intro w hSw; (try dsimp only at hSw); first | (go_simp; done) | (go_simp; with_reducible rfl))
                    try simp only [Act.put]
                    try simp only [List.setIfInBounds_toArray]
                    try simp only [List.set_cons_succ, List.set_cons_zero]
                    refine wpAnyH_ready (rs := [6, 8]) (by kernel_rfl) (by simp) ?_
                    refine AllReadyH.cons (i := 6) (o := ⟨some 74, _, _, _, _, _⟩) rfl (fun K hK => ?_) ?_
                    · refine step_look rfl (.tmp 71) (.tmp 73) _ _ rfl undG (zeroStrs _) (by first | exact HMd.out.rows.map | exact (HMd.out.rows.map).alloc _) Hdn.out (by simp [go_sem]) (by simp [go_sem]) ?_
                      refine hK.out _ _ ?_ (fun hHeld => ?_)
                      · exact hHeld
                      try simp only [Act.put]
                      try simp only [List.setIfInBounds_toArray]
                      try simp only [List.set_cons_succ, List.set_cons_zero]
                      refine wpAnyH_ready (rs := [8]) (by kernel_rfl) (by simp) ?_
                      refine AllReadyH.cons (i := 8) (o := ⟨some 76, _, _, _, _, _⟩) rfl (fun K hK => ?_) ?_
                      · go_simp
                        refine hK.out _ _ ?_ (fun hHeld => ?_)
                        · exact below_ext (below_a1 _ _) HMd.out.nm
                        try simp only [Act.put]
                        try simp only [List.setIfInBounds_toArray]
                        try simp only [List.set_cons_succ, List.set_cons_zero]
                        refine wpAnyH_ready (rs := [9]) (by kernel_rfl) (by simp) ?_
                        refine AllReadyH.cons (i := 9) (o := ⟨some 77, _, _, _, _, _⟩) rfl (fun K hK => ?_) ?_
                        · refine step_append_Own rfl (.tmp 74) (.tmp 76) 28 rfl (w.heap.size + 1) 9 _ 1 16 Try.underlying28 infoStr rfl (by decide) (sl d.name).1 (outs E d.name).length (sl d.name).2 _ (by simp [go_sem]) (by exact (HMd.out.rows.own d.name).alloc _) _ 1 1 [strV cc] (by simp [go_sem]; rfl) (by exact Row.new1 (by simp) rfl rfl) (by simp [Value.oneCell', strV]) (by unfold maxLen; omega) (by omega) (by simp; omega) ?_
                          intro a1 c1 w2 hown1 hg1 hbk1
                          have nm1 : w2.cell? ⟨nb, 0, none⟩ = some (.string ⟨d.name.toArray⟩) := hg1.cell (by exact below_ext (below_a1 _ _) HMd.out.nm) (fun e => HMd.out.far _ e.symm)
                          refine hK.out _ _ ?_ (fun hHeld => ?_)
                          · exact nm1
                          try simp only [Act.put]
                          try simp only [List.setIfInBounds_toArray]
                          try simp only [List.set_cons_succ, List.set_cons_zero]
                          refine wpAnyH_ready (rs := [10]) (by kernel_rfl) (by simp) ?_
                          refine AllReadyH.cons (i := 10) (o := ⟨none, _, _, _, _, _⟩) rfl (fun K hK => ?_) ?_
                          · refine step_store rfl (.tmp 68) (.tmp 70) (.tmp 77) _ _ rfl undG (by exact SMap.grown ((HMd.out.rows.map).alloc _) hg1 ((HMd.out.rows.own d.name).apart (Nat.lt_succ_self _))) Hdn.out (by have := Hks.out.2; unfold maxLen; omega) (by simp [go_sem]) (by simp [go_sem]) (val := .slice a1 ((outs E d.name).length + 1) c1) (by simp [go_sem]) ?_
                            intro w3 hs3 hg3 hz3
                            have HM3 := Lib.hid (HMd.out.push (below_a1 _ _) Hd.out Hm0.out Hcc.out Hcn.out Hdks.out Hin.out rfl hown1 hg1 hbk1 hs3 hg3)
                            have nm3 := HM3.out.nm
                            refine hK.out _ _ ?_ (fun hHeld => ?_)
                            · exact nm3
                            try simp only [Act.put]
                            try simp only [List.setIfInBounds_toArray]
                            try simp only [List.set_cons_succ, List.set_cons_zero]
                            refine wpAnyH_done (by kernel_rfl) ?_ _
                            clear hown1 hg1 hbk1 hs3 hg3 hz3 nm0 nm1 nm3 hHeld
                            go_wp2
                            go_roundw
                            case rel => exact ⟨k2 + 1, _, _, by omega, by go_num, HM3⟩
                            case measure => simp [intOf]; omega
                          exact AllReadyH.nil
                        exact AllReadyH.nil
                      exact AllReadyH.nil
                    refine AllReadyH.cons (i := 8) (o := ⟨some 76, _, _, _, _, _⟩) rfl (fun K hK => ?_) ?_
                    · go_simp
                      refine hK.out _ _ ?_ (fun hHeld => ?_)
                      · exact below_ext (below_a1 _ _) HMd.out.nm
                      try simp only [Act.put]
                      try simp only [List.setIfInBounds_toArray]
                      try simp only [List.set_cons_succ, List.set_cons_zero]
                      refine wpAnyH_ready (rs := [6]) (by kernel_rfl) (by simp) ?_
                      refine AllReadyH.cons (i := 6) (o := ⟨some 74, _, _, _, _, _⟩) rfl (fun K hK => ?_) ?_
                      · refine step_look rfl (.tmp 71) (.tmp 73) _ _ rfl undG (zeroStrs _) (by first | exact HMd.out.rows.map | exact (HMd.out.rows.map).alloc _) Hdn.out (by simp [go_sem]) (by simp [go_sem]) ?_
                        refine hK.out _ _ ?_ (fun hHeld => ?_)
                        · exact hHeld
                        try simp only [Act.put]
                        try simp only [List.setIfInBounds_toArray]
                        try simp only [List.set_cons_succ, List.set_cons_zero]
                        refine wpAnyH_ready (rs := [9]) (by kernel_rfl) (by simp) ?_
                        refine AllReadyH.cons (i := 9) (o := ⟨some 77, _, _, _, _, _⟩) rfl (fun K hK => ?_) ?_
                        · refine step_append_Own rfl (.tmp 74) (.tmp 76) 28 rfl (w.heap.size + 1) 9 _ 1 16 Try.underlying28 infoStr rfl (by decide) (sl d.name).1 (outs E d.name).length (sl d.name).2 _ (by simp [go_sem]) (by exact (HMd.out.rows.own d.name).alloc _) _ 1 1 [strV cc] (by simp [go_sem]; rfl) (by exact Row.new1 (by simp) rfl rfl) (by simp [Value.oneCell', strV]) (by unfold maxLen; omega) (by omega) (by simp; omega) ?_
                          intro a1 c1 w2 hown1 hg1 hbk1
                          have nm1 : w2.cell? ⟨nb, 0, none⟩ = some (.string ⟨d.name.toArray⟩) := hg1.cell (by exact below_ext (below_a1 _ _) HMd.out.nm) (fun e => HMd.out.far _ e.symm)
                          refine hK.out _ _ ?_ (fun hHeld => ?_)
                          · exact nm1
                          try simp only [Act.put]
                          try simp only [List.setIfInBounds_toArray]
                          try simp only [List.set_cons_succ, List.set_cons_zero]
                          refine wpAnyH_ready (rs := [10]) (by kernel_rfl) (by simp) ?_
                          refine AllReadyH.cons (i := 10) (o := ⟨none, _, _, _, _, _⟩) rfl (fun K hK => ?_) ?_
                          · refine step_store rfl (.tmp 68) (.tmp 70) (.tmp 77) _ _ rfl undG (by exact SMap.grown ((HMd.out.rows.map).alloc _) hg1 ((HMd.out.rows.own d.name).apart (Nat.lt_succ_self _))) Hdn.out (by have := Hks.out.2; unfold maxLen; omega) (by simp [go_sem]) (by simp [go_sem]) (val := .slice a1 ((outs E d.name).length + 1) c1) (by simp [go_sem]) ?_
                            intro w3 hs3 hg3 hz3
                            have HM3 := Lib.hid (HMd.out.push (below_a1 _ _) Hd.out Hm0.out Hcc.out Hcn.out Hdks.out Hin.out rfl hown1 hg1 hbk1 hs3 hg3)
                            have nm3 := HM3.out.nm
                            refine hK.out _ _ ?_ (fun hHeld => ?_)
                            · exact nm3
                            try simp only [Act.put]
                            try simp only [List.setIfInBounds_toArray]
                            try simp only [List.set_cons_succ, List.set_cons_zero]
                            refine wpAnyH_done (by kernel_rfl) ?_ _
                            clear hown1 hg1 hbk1 hs3 hg3 hz3 nm0 nm1 nm3 hHeld
                            go_wp2
                            go_roundw
                            case rel => exact ⟨k2 + 1, _, _, by omega, by go_num, HM3⟩
                            case measure => simp [intOf]; omega
                          exact AllReadyH.nil
                        exact AllReadyH.nil
                      exact AllReadyH.nil
                    exact AllReadyH.nil
                    -- END R20
                · have Hin := Lib.hid hin
                  have Hcn : Hid (cc ∉ names l) := Lib.hid fun hh => hin ((Hks.out.1 _).2 hh)
                  clear hin
                  go_wp2_with (at_lookup; refine wpList_lookok rfl _ _ _ _ rfl undG (zeroStrs _) (by exact hM.out.rows.map) Hccn.out rfl rfl (q := false) (by have := Hin.out; simp [this]) ?_)
                  go_roundw
                  case rel => exact ⟨k2 + 1, E, sl, by omega, by go_num, Lib.hid ⟨hM.out.below, hM.out.rows, hM.out.seen, hM.out.nm, hM.out.far, hM.out.inv.skip Hd.out Hcc.out Hcn.out, hM.out.sbl, hM.out.nbl⟩⟩
                  case measure => simp [intOf]; omega
              · obtain rfl : k2 = d.calls.length := by omega
                go_wp2
                go_roundw
                case rel => exact ⟨k + 1, addK ks2 d.name, E, sl, by omega, by go_num, Lib.hid hM.out.below, Lib.hid hM.out.rows, Lib.hid ⟨hM.out.seen, Hks2'.out⟩, Lib.hid (hM.out.inv.node Hd.out)⟩
                case measure => simp [intOf]; omega
          · -- AGAIN
            have Hz : Hid (0 < m0) := Lib.hid (by omega)
            go_wp2_with (first
              | (at_lookup; have _t := tok1; refine wpList_lookI rfl _ _ rfl (by exact hI.out.1.alloc _) Hdn.out rfl rfl m0 Hm0.out ?_; clear tok1)
              | (at_mapUpdate; refine wpList_storeI rfl _ _ _ rfl (by exact hI.out.1.alloc _) Hdn.out Hks2.out rfl rfl (m0 + 1) (by go_num) ?_; intro w1 hs1 hg1 hz1; have Hs1 : Hid (IM w1 sb (addK ks2 d.name) (cnt l (k + 1))) := Lib.hid (IM.im_f Hcs2.out hs1); have HG1 : Hid (GRows w1 (w.heap.size + 1) w.heap.size ks E sl) := Lib.hid ((hG.out.ext (below_a1 _ _)).grownM (hI.out.1.alloc _) hg1 (by have := Hsb.out; omega)); have Hb1 := Lib.hid ((hb.out.alloc hwr _).grown hg1 (by simp; omega) (fun j hj => by cases hj; have := Hsb.out; omega)); have q0 : w1.cell? ⟨wr.heap.size, 0, none⟩ = some (.string ⟨d.name.toArray⟩) := World.grownBy.cell hg1 (by simp) (by simp; have := hI.out.1.lt; omega); clear hs1 hg1 hz1)
              | (at_lookup; refine wpList_lookI rfl _ _ rfl (by exact Hs1.out) Hdn.out rfl rfl (m0 + 1) Hcs.out ?_))
            go_roundw
            case rel =>
              refine ⟨k + 1, addK ks2 d.name, E, sl, by omega, by go_num, Hb1, HG1, Lib.hid ⟨Hs1.out, by rw [addK_len]; have := hI.out.2; split <;> omega⟩, ?_⟩
              obtain ⟨j, e, h1, h2, h3⟩ := cnt_pos (by rw [Hm0.out]; exact Hz.out)
              exact Lib.hid (hP.out.again Hd.out h1 h2 h3)
            case measure => simp [intOf]; omega
        · obtain rfl : k = l.length := by omega
          go_wp2
          go_ret
          exact ⟨_, rfl, hb.out, w.heap.size, ks, E, sl, rfl, rfl, hG.out, Hks.out.1, Hks.out.2, hP.out.done⟩
end Go.Proofs.Ytnepamdmjppglaa
