/- The document's answer, walked: Groups. -/
import Derived.Test.YtnepamdmjppglaaRef4
namespace Go.Proofs.Ytnepamdmjppglaa
open Go Go.RowKit Go.Sort

abbrev ltN : Nm → Nm → Prop := fun x y => x < y
theorem Seqs.grps {g : Nm → List Nm} {N : List Nm} {gs : List (List Nm)} (h : Seqs g ltN N gs) : ∀ q ∈ gs, Grp g ltN q := by
  induction h with
  | nil => simp
  | snoc _ hn ih =>
    intro q hq
    rcases List.mem_append.1 hq with r | r
    · exact ih q r
    · simp at r; subst r; exact hn.may.grp
theorem grp_of {g : Nm → List Nm} {x : Nm} {q : List Nm} (hr : q.Pairwise ltN) (hm : ∀ y, y ∈ q ↔ Rch g x y ∧ Rch g y x) : Grp g ltN q ∧ x ∈ q := by
  have hx : x ∈ q := (hm x).2 ⟨.refl _, .refl _⟩
  refine ⟨⟨fun e => by rw [e] at hx; simp at hx, hr, fun u hu y => ?_⟩, hx⟩
  obtain ⟨h1, h2⟩ := (hm u).1 hu
  rw [hm y]
  exact ⟨fun ⟨h3, h4⟩ => ⟨h2.trans h3, h4.trans h1⟩, fun ⟨h3, h4⟩ => ⟨h1.trans h3, h4.trans h2⟩⟩

structure RefG (l : List NodeD) (gs : List (List Nm)) (told : List Nm) : Prop where
  seq : Seqs (G l) ltN (names l) gs
  mem : ∀ x, x ∈ told ↔ x ∈ gs.flatten
theorem RefG.rdy {l : List NodeD} {gs : List (List Nm)} {told : List Nm} (h : RefG l gs told) (q : List Nm) : RdyL l q told ↔ Rdy (G l) gs.flatten q := by
  unfold RdyL Rdy
  constructor
  · intro k x hx c hc
    rw [mem_G] at hc
    exact (k x hx c hc.1 hc.2).imp id (h.mem c).1
  · intro k x hx c hc hN
    exact (k x hx c (mem_G.2 ⟨hc, hN⟩)).imp id (h.mem c).2
/-- who is gone by: told, or its group may not come -/
def Gone (l : List NodeD) (told : List Nm) (y : Nm) : Prop := y ∈ told ∨ ∀ q, Grp (G l) ltN q → y ∈ q → ¬ RdyL l q told
theorem RefG.next {l : List NodeD} {gs : List (List Nm)} {told : List Nm} (h : RefG l gs told) {ns : List Nm} (hns : ns.Pairwise ltN) (hN : ∀ x, x ∈ ns ↔ x ∈ names l) {i : Nat} {x : Nm} (hi : ns[i]? = some x) (hx : x ∉ told) {q : List Nm} (hq : Grp (G l) ltN q) (hxq : x ∈ q) (hr : RdyL l q told)
    (hp : ∀ (j : Nat) y, j < i → ns[j]? = some y → Gone l told y) : Nxt (G l) ltN (names l) gs q := by
  have hxn : x ∈ names l := (hN x).1 (List.mem_of_getElem? hi)
  have hsub : ∀ u ∈ q, u ∈ names l := fun u hu => ((hq.one x hxq u).1 hu).1.names hxn
  have hnew : ∀ u ∈ q, u ∉ gs.flatten := fun u hu hm => by
    obtain ⟨q', hq', hu'⟩ := List.mem_flatten.1 hm
    have e := hq.unique nmOrd (h.seq.grps q' hq') hu hu'
    subst e
    exact hx ((h.mem x).2 (List.mem_flatten.2 ⟨q, hq', hxq⟩))
  refine ⟨⟨hq, hsub, hnew, (h.rdy q).1 hr⟩, fun l' a b hm ha hb hlt => ?_⟩
  have hal : a ∈ l' := List.mem_of_mem_head? ha
  have hbx : b = x ∨ b < x := by
    cases q with
    | nil => simp at hxq
    | cons b' q' =>
      simp at hb; subst hb
      rcases List.mem_cons.1 hxq with r | r
      · exact .inl r.symm
      · exact .inr ((List.pairwise_cons.1 hq.rising).1 x r)
  have hax : a < x := by
    rcases hbx with rfl | r
    · exact hlt
    · exact List.lt_trans hlt r
  obtain ⟨j, hj⟩ := List.getElem?_of_mem ((hN a).2 (hm.sub a hal))
  have hji : j < i := by
    rcases Nat.lt_trichotomy j i with r | r | r
    · exact r
    · subst r; rw [hi] at hj; cases hj; exact absurd hax (List.lt_irrefl _)
    · have h1 := List.pairwise_iff_getElem.1 hns i j (get_lt hi) (get_lt hj) r
      have h2 := hi; have h3 := hj
      rw [List.getElem?_eq_getElem (get_lt hi)] at h2
      rw [List.getElem?_eq_getElem (get_lt hj)] at h3
      rw [Option.some.inj h2, Option.some.inj h3] at h1
      exact absurd (List.lt_trans h1 hax) (List.lt_irrefl _)
  rcases hp j a hji hj with r | r
  · exact hm.new a hal ((h.mem a).1 r)
  · exact r l' hm.grp hal ((h.rdy l').2 hm.rdy)
theorem RefG.stop {l : List NodeD} {gs : List (List Nm)} {told : List Nm} (h : RefG l gs told) (hp : ∀ y ∈ names l, Gone l told y) (l' : List Nm) : ¬ May (G l) ltN (names l) gs l' := fun hm => by
  obtain ⟨x, hx⟩ := List.exists_mem_of_ne_nil _ hm.grp.ne
  rcases hp x (hm.sub x hx) with r | r
  · exact hm.new x hx ((h.mem x).1 r)
  · exact r l' hm.grp hx ((h.rdy l').2 hm.rdy)
/-- .. and the program's are the same -/
theorem Seqs.same {g : Nm → List Nm} {N : List Nm} {a b : List (List Nm)} (ha : Seqs g ltN N a) (hb : Seqs g ltN N b) (h1 : ∀ x ∈ N, x ∈ a.flatten) (h2 : ∀ l', ¬ May g ltN N b l') : a = b := by
  rcases Nat.lt_trichotomy a.length b.length with q | q | q
  · obtain ⟨l', hn⟩ := hb.next q
    have e : b.take a.length = a := (hb.take a.length).unique nmOrd ha (by simp; omega)
    rw [e] at hn
    obtain ⟨x, hx⟩ := List.exists_mem_of_ne_nil _ hn.may.grp.ne
    exact absurd (h1 x (hn.may.sub x hx)) (hn.may.new x hx)
  · exact ha.unique nmOrd hb q
  · obtain ⟨l', hn⟩ := ha.next q
    have e : a.take b.length = b := (ha.take b.length).unique nmOrd hb (by simp; omega)
    rw [e] at hn
    exact absurd hn.may (h2 l')
theorem Seqs.subN {g : Nm → List Nm} {N : List Nm} {gs : List (List Nm)} (h : Seqs g ltN N gs) : ∀ x ∈ gs.flatten, x ∈ N := by
  induction h with
  | nil => simp
  | snoc _ hn ih =>
    intro x hx
    rw [List.flatten_append, List.mem_append] at hx
    rcases hx with r | r
    · exact ih x r
    · simp at r; exact hn.may.sub x r

/-- what lies in memory -/
structure GR (w1 wq : World) (gsd : List RowD) (ua : Option Addr) (uc : Nat) (told : List Nm) (at_ : Option Addr) (ct : Nat) : Prop where
  out : Own wq w1.heap.size 28 1 ua gsd.length uc (gsd.map RowD.val)
  rows : ∀ r ∈ gsd, RowC wq r.a r.c r.l ∧ ∀ g, blockOf r.a = some g → g < wq.heap.size ∧ rowOf ua uc ≠ some g
  trow : RowC wq at_ ct told
  tapt : ∀ g, blockOf at_ = some g → g < wq.heap.size ∧ rowOf ua uc ≠ some g
  below : Below w1.heap.size w1 wq
theorem GR.ext {w1 wq w' : World} {gsd : List RowD} {ua : Option Addr} {uc : Nat} {told : List Nm} {at_ : Option Addr} {ct : Nat} (h : GR w1 wq gsd ua uc told at_ ct) (hb : Below wq.heap.size wq w') : GR w1 w' gsd ua uc told at_ ct :=
  ⟨h.out.ext hb, fun r hr => ⟨(h.rows r hr).1.ext hb, fun g hg => ⟨Nat.lt_of_lt_of_le ((h.rows r hr).2 g hg).1 hb.size, ((h.rows r hr).2 g hg).2⟩⟩, h.trow.ext hb, fun g hg => ⟨Nat.lt_of_lt_of_le (h.tapt g hg).1 hb.size, (h.tapt g hg).2⟩, h.below.trans (hb.mono h.below.size)⟩
/-- told anew -/
theorem GR.retold {w1 wq : World} {gsd : List RowD} {ua : Option Addr} {uc : Nat} {told : List Nm} {at_ : Option Addr} {ct : Nat} (h : GR w1 wq gsd ua uc told at_ ct) {w' : World} (hb : Below wq.heap.size wq w') {told' : List Nm} {at' : Option Addr} {ct' : Nat} (hr : RowC w' at' ct' told') (h0 : 0 < told'.length) (hf : at' = at_ ∨ ∀ g, blockOf at' = some g → wq.heap.size ≤ g) : GR w1 w' gsd ua uc told' at' ct' := by
  have k := h.ext hb
  refine ⟨k.out, k.rows, hr, fun g hg => ⟨hr.1.lt (by omega) hg, ?_⟩, k.below⟩
  rcases hf with rfl | hf
  · exact (h.tapt g hg).2
  · intro e
    have h1 := hf g hg
    unfold rowOf at e; split at e
    · cases e
    · have := (h.out.size (by omega) e).2; omega
/-- a group is told -/
theorem GR.push {w1 wq : World} {gsd : List RowD} {ua : Option Addr} {uc : Nat} {told : List Nm} {at_ : Option Addr} {ct : Nat} (h : GR w1 wq gsd ua uc told at_ ct) {r : RowD} (hr : RowC wq r.a r.c r.l) (hra : ∀ g, blockOf r.a = some g → g < wq.heap.size ∧ rowOf ua uc ≠ some g) {o : Obj} {a' : Option Addr} {c' : Nat} {w' : World}
    (hown : Own w' w1.heap.size 28 1 a' (gsd.length + 1) c' (gsd.map RowD.val ++ [r.val])) (hg : (wq.alloc o).grownBy w' (rowOf ua uc)) (hbk : rowOf a' c' = rowOf ua uc ∨ rowOf a' c' = some (wq.alloc o).heap.size) : GR w1 w' (gsd ++ [r]) a' c' told at_ ct := by
  have hs := hg.size
  have key : ∀ {a : Option Addr} {c : Nat} {l : List Nm}, RowC wq a c l → (∀ g, blockOf a = some g → g < wq.heap.size ∧ rowOf ua uc ≠ some g) → RowC w' a c l ∧ ∀ g, blockOf a = some g → g < w'.heap.size ∧ rowOf a' c' ≠ some g := fun hr ha =>
    ⟨⟨(hr.1.ext (below_a1 wq o)).grown hg fun g hgb => (ha g hgb).2, hr.2⟩, fun g hgb => ⟨by have := (ha g hgb).1; simp at hs; omega, rowOf_apart (ha g hgb).2 (by have := (ha g hgb).1; simp; omega) hbk⟩⟩
  have kt := key h.trow h.tapt
  refine ⟨by rw [List.length_append, List.map_append]; exact hown, fun r' hr' => ?_, kt.1, kt.2, ?_⟩
  · rcases List.mem_append.1 hr' with q | q
    · exact key (h.rows r' q).1 (h.rows r' q).2
    · simp at q; subst q; exact key hr hra
  · have hb := h.below.alloc h.below.size o
    exact hb.grown hg hb.size ((h.out.alloc o).rowBase (Nat.le_refl _))

/-- what the document's Groups hands back -/
def GOutR (_ : World) (l : List NodeD) (v : Value) (w' : World) : Prop := ∃ (gs : List RowD) (a' : Option Addr) (c' : Nat), v = .slice a' gs.length c' ∧ Row w' 1 a' gs.length (gs.map RowD.val) ∧ (∀ r ∈ gs, Row w' 1 r.a r.l.length (r.l.map strV)) ∧ gs.length ≤ 1048576 ∧ (∀ r ∈ gs, r.l.length ≤ 1048577) ∧
  Seqs (G l) ltN (names l) (gs.map RowD.l) ∧ ∀ l', ¬ May (G l) ltN (names l) (gs.map RowD.l) l'

theorem Seqs.lenLe {g : Nm → List Nm} {N : List Nm} {gs : List (List Nm)} (h : Seqs g ltN N gs) : ∃ hs : List Nm, hs.length = gs.length ∧ hs.Nodup ∧ ∀ x ∈ hs, x ∈ gs.flatten ∧ x ∈ N := by
  induction h with
  | nil => exact ⟨[], rfl, by simp, by simp⟩
  | @snoc out l _ hn ih =>
    obtain ⟨hs, h1, h2, h3⟩ := ih
    obtain ⟨x, hx⟩ := List.exists_mem_of_ne_nil _ hn.may.grp.ne
    refine ⟨hs ++ [x], by simp [h1], ?_, fun y hy => ?_⟩
    · rw [List.nodup_append]
      exact ⟨h2, by simp, fun a ha b hb => by simp at hb; subst hb; intro e; subst e; exact hn.may.new a hx (h3 a ha).1⟩
    · rw [List.flatten_append, List.mem_append]
      rcases List.mem_append.1 hy with r | r
      · exact ⟨.inl (h3 y r).1, (h3 y r).2⟩
      · simp at r; subst r; exact ⟨.inr (by simpa using hx), hn.may.sub y hx⟩

set_option maxHeartbeats 4000000 in
set_option maxRecDepth 20000 in
theorem groupsR_any (a : Option Addr) (c : Nat) (l : List NodeD) (w : World) (hn : NodesAt w a l) (hl : SmallN l) :
    Calls Try.prog 18 #[.slice a l.length c] w (Ret w (GOutR w l)) := by
  have hnames := namesR_any a c l w hn hl.len
  have HN := Lib.hid hn
  have HL := Lib.hid hl
  have hlen : l.length ≤ 1048576 := hl.len
  clear hn hl
  go_enter Try.func18, Try.ntmps18
  go_wp2_with fail
  refine hnames.mono ?_
  clear hnames
  rintro e w1 ⟨_, rfl, hb1, ns, a1, c1, rfl, hrow, hris, hmem, hnl⟩
  have Hrow := Lib.hid hrow
  have Hris := Lib.hid hris
  have Hmem := Lib.hid hmem
  have Hb1 := Lib.hid hb1
  clear hrow hris hmem hb1
  obtain ⟨ar0, har⟩ : ∃ ar0, ar0 = a1 := ⟨_, rfl⟩
  rw [← har]
  have Har := Lib.hid har
  clear har
  go_wp2_with fail
  go_loopg [4, 5, 6] (2 * ns.length + 1) (fun m o td mo wq => ∃ (gsd : List RowD) (told : List Nm) (ua at_ : Option Addr) (uc ct : Nat) (b : Bool), o = .slice ua gsd.length uc ∧ td = .slice at_ told.length ct ∧ mo = .bool b ∧ Hid (m = 2 * (ns.length - told.length) + (if b then 1 else 0)) ∧ Hid (GR w1 wq gsd ua uc told at_ ct) ∧ Hid (told.Pairwise ltN) ∧ Hid (RefG l (gsd.map RowD.l) told) ∧ Hid (∀ r ∈ gsd, r.l.length ≤ 1048577) ∧ Hid (b = false → ∀ y ∈ names l, Gone l told y))
  case atStart => exact ⟨[], [], none, none, 0, 0, true, rfl, rfl, rfl, Lib.hid (by simp), Lib.hid ⟨Own.nil _ _ _ _, by simp, RowC.nil _, fun g hg => by simp [blockOf] at hg, Below.refl _ _⟩, Lib.hid (by simp), Lib.hid ⟨.nil, by simp⟩, Lib.hid (by simp), Lib.hid (by simp)⟩
  case round =>
    obtain ⟨gsd, told, ua, at_, uc, ct, b, rfl, rfl, rfl, hm, hM, htr, hR, hgl, hgone⟩ := hrel
    cases b with
    | false =>
      go_wp2
      go_ret
      have hgn : gsd.length ≤ 1048576 := by
        obtain ⟨hs, h1, h2, h3⟩ := hR.out.seq.lenLe
        have := List.Nodup.length_le_of_subset h2 (l₂ := names l) fun x hx => (h3 x hx).2
        rw [h1, List.length_map] at this
        simp only [names, List.length_map] at this; omega
      exact ⟨_, rfl, Hb1.out.trans (hM.out.below.mono Hb1.out.size), gsd, ua, uc, rfl, hM.out.out.row, fun r hr => (hM.out.rows r hr).1.1, hgn, hgl.out, hR.out.seq, hR.out.stop (hgone.out (by first | rfl | trivial))⟩
    | true =>
      clear hgone
      go_wp2_with fail
      go_loopw [4, 5, 6, 7] (fun o td mo i wq => ∃ (k : Nat) (gsd : List RowD) (told : List Nm) (ua at_ : Option Addr) (uc ct : Nat) (b : Bool), k ≤ ns.length ∧ i = .int .i64 k ∧ o = .slice ua gsd.length uc ∧ td = .slice at_ told.length ct ∧ mo = .bool b ∧ Hid (2 * (ns.length - told.length) + (if b then 2 else 1) ≤ gk) ∧ Hid (GR w1 wq gsd ua uc told at_ ct) ∧ Hid (told.Pairwise ltN) ∧ Hid (RefG l (gsd.map RowD.l) told) ∧ Hid (∀ r ∈ gsd, r.l.length ≤ 1048577) ∧ Hid (b = false → ∀ (j : Nat) y, j < k → ns[j]? = some y → Gone l told y)) (fun _ _ _ i _ => ns.length - (intOf i).toNat)
      case atStart => exact ⟨0, gsd, told, ua, at_, uc, ct, false, Nat.zero_le _, rfl, rfl, rfl, rfl, Lib.hid (by have := hm.out; simp at this ⊢; omega), hM, htr, hR, hgl, Lib.hid fun _ j y h => by omega⟩
      case round =>
        clear hm hM htr hR hgl
        obtain ⟨k, gsd, told, ua, at_, uc, ct, b, hk, rfl, rfl, rfl, rfl, hm, hM, htr, hR, hgl, hgone⟩ := hrel
        cases b with
        | true =>
          by_cases hlt : k < ns.length
          · go_wp2
            go_roundg (2 * (ns.length - told.length) + 1)
            case rel => exact ⟨gsd, told, ua, at_, uc, ct, true, rfl, rfl, rfl, Lib.hid (by simp), hM, htr, hR, hgl, Lib.hid (by simp)⟩
            case measure => have := hm.out; simp at this; omega
          · go_wp2
            go_roundg (2 * (ns.length - told.length) + 1)
            case rel => exact ⟨gsd, told, ua, at_, uc, ct, true, rfl, rfl, rfl, Lib.hid (by simp), hM, htr, hR, hgl, Lib.hid (by simp)⟩
            case measure => have := hm.out; simp at this; omega
        | false =>
          by_cases hlt : k < ns.length
          · obtain ⟨y, hy⟩ := get_some hlt
            have hrr := (Hrow.out.ext hM.out.below).1
            rw [← Har.out] at hrr
            obtain ⟨b2, o2, e2, c2⟩ := str_at hrr hy
            clear hrr Har
            subst e2
            have hbw := Hb1.out.trans (hM.out.below.mono Hb1.out.size)
            have htl : told.length ≤ 1048576 := by
              have := List.Nodup.length_le_of_subset (l₁ := told) (l₂ := names l) (htr.out.imp fun h e => by subst e; exact List.lt_irrefl _ h) fun x hx => hR.out.seq.subN x ((hR.out.mem x).1 hx)
              simp only [names, List.length_map] at this; omega
            have hh := has_any at_ ct told y wr hM.out.trow.1 (by omega)
            have Hbw := Lib.hid hbw
            have Hy := Lib.hid hy
            clear hbw hy
            by_cases hin : y ∈ told
            · rw [decide_eq_true hin] at hh
              have Hh := Lib.hid hh
              have Hin := Lib.hid hin
              clear hh hin
              go_wp2_with fail
              refine Hh.out.mono ?_
              clear Hh
              rintro e w' ⟨rfl, rfl⟩
              go_wp2
              go_roundw
              case rel =>
                refine ⟨k + 1, gsd, told, ua, at_, uc, ct, false, by omega, by go_num, rfl, rfl, rfl, hm, hM, htr, hR, hgl, Lib.hid fun _ j z hj hz => ?_⟩
                rcases Nat.lt_or_ge j k with h | h
                · exact hgone.out (by first | rfl | trivial) j z h hz
                · obtain rfl : j = k := by omega
                  rw [Hy.out] at hz; cases hz; exact .inl Hin.out
              case measure => simp [intOf]; omega
            · rw [decide_eq_false hin] at hh
              have hgr := groupR_any a c l y wr (HN.out.ext Hbw.out) HL.out
              have Hh := Lib.hid hh
              have Hin := Lib.hid hin
              have Hgr := Lib.hid hgr
              clear hh hin hgr
              go_wp2_with fail
              refine Hh.out.mono ?_
              clear Hh
              rintro e w' ⟨rfl, rfl⟩
              go_wp2_with fail
              refine Hgr.out.mono ?_
              clear Hgr
              rintro e w3 ⟨_, rfl, hb3, q, aq, cq, rfl, hrow3, hri3, hm3, hql, hfr⟩
              obtain ⟨hgq, hyq⟩ := grp_of hri3 hm3
              have hyn : y ∈ names l := (Hmem.out y).1 (List.mem_of_getElem? Hy.out)
              have hM3 := hM.out.ext hb3
              have hqn : ∀ u ∈ q, u ∈ names l := fun u hu => ((hgq.one y hyq u).1 hu).1.names hyn
              have hrd := readyR_any a aq at_ c cq ct l q told w3 ((HN.out.ext Hbw.out).ext hb3) HL.out hrow3 hM3.trow hqn (by omega) (by omega)
              have hap : ∀ g, blockOf aq = some g → g < w3.heap.size ∧ rowOf ua uc ≠ some g := fun g hg => by
                refine ⟨hrow3.1.lt (by have := List.length_pos_of_mem hyq; omega) hg, fun e => ?_⟩
                have h1 := hfr g hg
                unfold rowOf at e; split at e
                · cases e
                · have := (hM.out.out.size (by omega) e).2; omega
              have Hrd := Lib.hid hrd
              have HM3 := Lib.hid hM3
              have Hgq := Lib.hid (And.intro hgq hyq)
              have Hrow3 := Lib.hid hrow3
              have Hap := Lib.hid hap
              have Hql := Lib.hid hql
              clear hb3 hrow3 hri3 hm3 hfr hgq hyq hM3 hqn hrd hap hM
              go_wp2_with fail
              refine Hrd.out.mono ?_
              clear Hrd
              rintro e w4 ⟨_, rfl, hb4, b4, rfl, hb4i⟩
              have HM4 := Lib.hid (HM3.out.ext hb4)
              have Hrow4 := Lib.hid (Hrow3.out.ext hb4)
              have Hap4 : Hid (∀ g, blockOf aq = some g → g < w4.heap.size ∧ rowOf ua uc ≠ some g) := Lib.hid fun g hg => ⟨Nat.lt_of_lt_of_le (Hap.out g hg).1 hb4.size, (Hap.out g hg).2⟩
              have Hb4i := Lib.hid hb4i
              clear hb4 hb4i HM3 Hrow3 Hap
              cases b4
              · go_wp2
                go_roundw
                case rel =>
                  refine ⟨k + 1, gsd, told, ua, at_, uc, ct, false, by omega, by go_num, rfl, rfl, rfl, hm, HM4, htr, hR, hgl, Lib.hid fun _ j z hj hz => ?_⟩
                  rcases Nat.lt_or_ge j k with h | h
                  · exact hgone.out (by first | rfl | trivial) j z h hz
                  · obtain rfl : j = k := by omega
                    rw [Hy.out] at hz; cases hz
                    refine .inr fun q' hq' hyq' hr' => ?_
                    have e := hq'.unique nmOrd Hgq.out.1 hyq' Hgq.out.2
                    subst e
                    exact absurd (Hb4i.out.2 hr') (by simp)
                case measure => simp [intOf]; omega
              · have hgn : gsd.length ≤ 1048576 := by
                  obtain ⟨hs, h1, h2, h3⟩ := hR.out.seq.lenLe
                  have := List.Nodup.length_le_of_subset h2 (l₂ := names l) fun x hx => (h3 x hx).2
                  rw [h1, List.length_map] at this
                  simp only [names, List.length_map] at this; omega
                have hws := HM4.out.below.size
                have hnx := hR.out.next Hris.out Hmem.out Hy.out Hin.out Hgq.out.1 Hgq.out.2 (Hb4i.out.1 rfl) (fun j z hj hz => hgone.out (by first | rfl | trivial) j z hj hz)
                have Hnx := Lib.hid hnx
                clear hnx
                go_wp2_with (at_builtin; (with_reducible show wpList _ _ _ (⟨some 46, _, _, _, _, _⟩ :: _) _ _); refine wpList_append_Own (o := ⟨some 46, _, _, _, _, _⟩) rfl _ _ 38 rfl w1.heap.size 28 _ 1 24 Try.underlying38 infoStrs rfl (by decide) ua gsd.length uc _ rfl (by exact HM4.out.out.alloc _) _ 1 1 [.slice aq q.length cq] rfl (Row.new1 (by simp) rfl rfl) (by intro u hu; simp at hu; subst hu; rfl) (by unfold maxLen; omega) (by omega) (by simp; omega) ?_; intro a5 c5 w5 hown5 hg5 hbk5; have HM5 := Lib.hid (HM4.out.push (r := ⟨q, aq, cq⟩) Hrow4.out Hap4.out hown5 hg5 hbk5); clear hown5 hg5 hbk5)
                have hrq5 := (HM5.out.rows ⟨q, aq, cq⟩ (by simp)).1
                obtain ⟨aq0, haq⟩ : ∃ aq0, aq0 = aq := ⟨_, rfl⟩
                rw [← haq]
                have Haq := Lib.hid haq
                have Hrq5 := Lib.hid hrq5
                have hql := Hql.out
                clear haq hrq5
                go_loopw [5, 11] (fun td i wq => ∃ (k2 : Nat) (t2 : List Nm) (at2 : Option Addr) (ct2 : Nat), k2 ≤ q.length ∧ i = .int .i64 k2 ∧ td = .slice at2 t2.length ct2 ∧ Hid (GR w1 wq (gsd ++ [⟨q, aq, cq⟩]) a5 c5 t2 at2 ct2 ∧ Below w5.heap.size w5 wq) ∧ Hid (t2.Pairwise ltN) ∧ Hid (∀ x, x ∈ t2 ↔ x ∈ told ∨ x ∈ q.take k2) ∧ t2.length ≤ told.length + k2) (fun _ i _ => q.length - (intOf i).toNat)
                case atStart => exact ⟨0, told, at_, ct, Nat.zero_le _, rfl, rfl, Lib.hid ⟨HM5.out, Below.refl _ _⟩, htr, Lib.hid (by simp), Nat.le_refl _⟩
                case round =>
                  obtain ⟨k2, t2, at2, ct2, hk2, rfl, rfl, hM2, ht2, hm2, htl2⟩ := hrel
                  by_cases hlt2 : k2 < q.length
                  · obtain ⟨z, hz⟩ := get_some hlt2
                    have hrr := (Hrq5.out.ext hM2.out.2).1
                    dsimp only at hrr
                    rw [← Haq.out] at hrr
                    obtain ⟨b6, o6, e6, c6⟩ := str_at hrr hz
                    have Haq6 : Hid (some ⟨b6, o6, none⟩ = aq) := Lib.hid (by rw [← e6]; exact Haq.out)
                    clear hrr Haq
                    subst e6
                    have hput := put_any at2 ct2 t2 z wr hM2.out.1.trow ht2.out (by omega)
                    have Hput := Lib.hid hput
                    have Hz := Lib.hid hz
                    clear hput hz
                    go_wp2_with fail
                    refine Hput.out.mono ?_
                    clear Hput
                    rintro e w7 ⟨_, rfl, hb7, t3, a7, c7, rfl, hr7, hri7, hm7, hl7, hf7⟩
                    have H7 := Lib.hid (And.intro (hM2.out.1.retold hb7 hr7 (by have : z ∈ t3 := (hm7 z).2 (.inr rfl); exact List.length_pos_of_mem this) hf7) (And.intro hri7 (And.intro hm7 (hM2.out.2.trans (hb7.mono hM2.out.2.size)))))
                    clear hb7 hr7 hri7 hm7 hf7
                    go_wp2
                    go_roundw
                    case rel =>
                      refine ⟨k2 + 1, t3, a7, c7, by omega, by go_num, rfl, Lib.hid ⟨H7.out.1, H7.out.2.2.2⟩, Lib.hid H7.out.2.1, Lib.hid fun x => ?_, by omega⟩
                      rw [H7.out.2.2.1 x, hm2.out x, List.take_add_one, Hz.out]
                      simp only [Option.toList_some, List.mem_append, List.mem_singleton]
                      constructor
                      · rintro ((h | h) | h)
                        · exact .inl h
                        · exact .inr (.inl h)
                        · exact .inr (.inr h)
                      · rintro (h | h | h)
                        · exact .inl (.inl h)
                        · exact .inl (.inr h)
                        · exact .inr h
                    case measure => simp [intOf]; omega
                  · obtain rfl : k2 = q.length := by omega
                    have hmt : ∀ x, x ∈ t2 ↔ x ∈ told ∨ x ∈ q := fun x => by rw [hm2.out x, List.take_length]
                    have hR2 : RefG l ((gsd ++ [(⟨q, aq, cq⟩ : RowD)]).map RowD.l) t2 := by
                      rw [List.map_append]
                      exact ⟨.snoc hR.out.seq Hnx.out, fun x => by rw [hmt x, List.flatten_append, List.mem_append, ← hR.out.mem x]; simp⟩
                    have htl3 : told.length + 1 ≤ t2.length := by
                      have := List.Nodup.length_le_of_subset (l₁ := y :: told) (l₂ := t2) (List.nodup_cons.2 ⟨Hin.out, htr.out.imp fun h e => by subst e; exact List.lt_irrefl _ h⟩) fun x hx => by
                        rcases List.mem_cons.1 hx with rfl | h
                        · exact (hmt x).2 (.inr Hgq.out.2)
                        · exact (hmt x).2 (.inl h)
                      simpa using this
                    have htl4 : t2.length ≤ ns.length := by
                      exact List.Nodup.length_le_of_subset (l₁ := t2) (l₂ := ns) (ht2.out.imp fun h e => by subst e; exact List.lt_irrefl _ h) fun x hx => (Hmem.out x).2 (hR2.seq.subN x ((hR2.mem x).1 hx))
                    have HR2 := Lib.hid hR2
                    have Hgl2 : Hid (∀ r ∈ gsd ++ [(⟨q, aq, cq⟩ : RowD)], r.l.length ≤ 1048577) := Lib.hid fun r hr => by
                      rcases List.mem_append.1 hr with h | h
                      · exact hgl.out r h
                      · simp at h; subst h; show q.length ≤ _; omega
                    have Htl := Lib.hid (And.intro htl3 htl4)
                    clear hmt hR2 htl3 htl4
                    go_wp2
                    go_roundw
                    case rel => exact ⟨k + 1, gsd ++ [⟨q, aq, cq⟩], t2, a5, at2, c5, ct2, true, by omega, by go_num, by rw [List.length_append]; rfl, rfl, rfl, Lib.hid (by have h1 := hm.out; have h2 := Htl.out; simp at h1 ⊢; omega), Lib.hid hM2.out.1, ht2, HR2, Hgl2, Lib.hid (by simp)⟩
                    case measure => simp [intOf]; omega
          · obtain rfl : k = ns.length := by omega
            go_wp2
            go_roundg (2 * (ns.length - told.length))
            case rel => exact ⟨gsd, told, ua, at_, uc, ct, false, rfl, rfl, rfl, Lib.hid (by simp), hM, htr, hR, hgl, Lib.hid fun _ y hy => by
              obtain ⟨j, hj⟩ := List.getElem?_of_mem ((Hmem.out y).2 hy)
              exact hgone.out (by first | rfl | trivial) j y (get_lt hj) hj⟩
            case measure => have := hm.out; simp at this; omega
end Go.Proofs.Ytnepamdmjppglaa
