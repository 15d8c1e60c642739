/- The document's answer, walked: Group, ready, Round, Users. -/
import Derived.Test.YtnepamdmjppglaaRef2
namespace Go.Proofs.Ytnepamdmjppglaa
open Go Go.RowKit Go.Sort

theorem rch_head {g : Nm → List Nm} {x y : Nm} (h : Rch g x y) : x = y ∨ ∃ z ∈ g x, Rch g z y := by
  induction h with
  | refl => exact .inl rfl
  | @tail u v _ he ih =>
    rcases ih with rfl | ⟨z, hz, hr⟩
    · exact .inr ⟨v, he, .refl _⟩
    · exact .inr ⟨z, hz, .tail hr he⟩
theorem rch_of {g : Nm → List Nm} {x y : Nm} (h : ∃ z ∈ g x, Rch g z y) : Rch g x y := by
  obtain ⟨z, hz, hr⟩ := h
  exact (Rch.edge hz).trans hr

theorem roundR_any (a : Option Addr) (c : Nat) (l : List NodeD) (x : Nm) (w : World) (hn : NodesAt w a l) (hl : SmallN l) :
    Calls Try.prog 15 #[.slice a l.length c, .string ⟨x.toArray⟩] w (Ret w fun v w' => IsB (∃ y ∈ G l x, Rch (G l) y x) v w') := by
  have hre := reachR_any a c l x w hn hl
  have hlen : l.length ≤ 1048576 := hl.len
  clear hn hl
  go_enter Try.func15, Try.ntmps15
  go_wp2_with fail
  refine hre.mono ?_
  clear hre
  rintro e w1 ⟨_, rfl, hb1, q, aq, cq, rfl, hrow, hris, hmem, hql⟩
  have hh := has_any aq cq q x w1 hrow.1 (by omega)
  have Hm := Lib.hid (hmem x)
  clear hrow hris hmem
  go_wp2_with fail
  refine hh.mono ?_
  rintro e w' ⟨rfl, rfl⟩
  go_wp2
  go_ret
  refine ⟨_, rfl, hb1, _, rfl, ?_⟩
  rw [decide_eq_true_iff]; exact Hm.out

/-- .. that is new -/
def RisF (w : World) (p : Nm → Prop) (m : Nat) (v : Value) (w' : World) : Prop := ∃ (l' : List Nm) (a' : Option Addr) (c' : Nat), v = .slice a' l'.length c' ∧ RowC w' a' c' l' ∧ l'.Pairwise (fun x y => x < y) ∧ (∀ x, x ∈ l' ↔ p x) ∧ l'.length ≤ m ∧ ∀ g, blockOf a' = some g → w.heap.size ≤ g
set_option maxHeartbeats 1000000 in
theorem groupR_any (a : Option Addr) (c : Nat) (l : List NodeD) (x : Nm) (w : World) (hn : NodesAt w a l) (hl : SmallN l) :
    Calls Try.prog 45 #[.slice a l.length c, .string ⟨x.toArray⟩] w (Ret w (RisF w (fun y => Rch (G l) x y ∧ Rch (G l) y x) (l.length + 1))) := by
  have HN := Lib.hid hn
  have HL := Lib.hid hl
  have hlen : l.length ≤ 1048576 := hl.len
  clear hn hl
  go_enter Try.func45, Try.ntmps45
  go_wp2_with fail
  have HO0 : Hid (RowC (w.alloc (.cells #[.string ⟨x.toArray⟩] 9)) (some ⟨w.heap.size, 0, none⟩) 1 [x]) := Lib.hid ⟨Row.new1 rfl rfl rfl, by simp⟩
  have hre := reachR_any a c l x (w.alloc (.cells #[.string ⟨x.toArray⟩] 9)) (HN.out.ext (below_a1 _ _)) HL.out
  refine hre.mono ?_
  clear hre
  rintro e w1 ⟨_, rfl, hb1, r, ar, cr, rfl, hrow, hris, hmem, hrl⟩
  have Hrow := Lib.hid hrow
  have Hmem := Lib.hid hmem
  have Hb1 := Lib.hid ((below_a1 w (.cells #[.string ⟨x.toArray⟩] 9)).trans (hb1.mono (by simp)))
  have HO1 := Lib.hid (HO0.out.ext hb1)
  clear hrow hmem hb1 hris HO0
  obtain ⟨ar0, har⟩ : ∃ ar0, ar0 = ar := ⟨_, rfl⟩
  rw [← har]
  have Har := Lib.hid har
  clear har
  go_wp2_with fail
  go_loopw [5, 7] (fun o i wq => ∃ (k : Nat) (q : List Nm) (aq : Option Addr) (cq : Nat), k ≤ r.length ∧ i = .int .i64 k ∧ o = .slice aq q.length cq ∧ Hid (RowC wq aq cq q) ∧ Hid (q.Pairwise fun x y => x < y) ∧ Hid (∀ y, y ∈ q ↔ y = x ∨ y ∈ r.take k ∧ ∃ z ∈ G l y, Rch (G l) z x) ∧ q.length ≤ k + 1 ∧ Hid (Below w1.heap.size w1 wq) ∧ Hid (∀ g, blockOf aq = some g → w.heap.size ≤ g)) (fun _ i _ => r.length - (intOf i).toNat)
  case atStart => exact ⟨0, [x], _, 1, Nat.zero_le _, rfl, rfl, HO1, Lib.hid (by simp), Lib.hid (by simp), by simp, Lib.hid (Below.refl _ _), Lib.hid (fun g hg => Nat.le_of_eq (by simpa [blockOf] using hg))⟩
  case round =>
    clear HO1
    obtain ⟨k, q, aq, cq, hk, rfl, rfl, hrow, hris, hm, hql, hb, hfr⟩ := hrel
    by_cases hlt : k < r.length
    · obtain ⟨y, hy⟩ := get_some hlt
      have hrr := (Hrow.out.ext hb.out).1
      rw [← Har.out] at hrr
      obtain ⟨b2, o2, e2, c2⟩ := str_at hrr hy
      clear hrr Har
      subst e2
      have hbw := Hb1.out.trans (hb.out.mono Hb1.out.size)
      have hre := reachR_any a c l y wr (HN.out.ext hbw) HL.out
      have Hre := Lib.hid hre
      have Hy := Lib.hid hy
      clear hre hbw hy
      go_wp2_with fail
      refine Hre.out.mono ?_
      clear Hre
      rintro e w3 ⟨_, rfl, hb3, q3, a3, c3, rfl, hrow3, -, hm3, hl3⟩
      have hh := has_any a3 c3 q3 x w3 hrow3.1 (by omega)
      have hrow' := hrow.out.ext hb3
      have hput := put_any aq cq q y w3 hrow' hris.out (by omega)
      have hkk : ∀ z, z ∈ r.take (k + 1) ↔ z ∈ r.take k ∨ z = y := fun z => by rw [List.take_add_one, Hy.out]; simp
      have Hkk := Lib.hid hkk
      have Hb3 := Lib.hid (hb.out.trans (hb3.mono hb.out.size))
      have H3 := Lib.hid (And.intro hrow' (hm3 x))
      have Hput := Lib.hid hput
      have hb3s := hb3.size
      have c2' := below_ext hb3 c2
      by_cases hin : x ∈ q3
      · rw [decide_eq_true hin] at hh
        have Hh := Lib.hid hh
        have Hin : Hid (∃ z ∈ G l y, Rch (G l) z x) := Lib.hid ((hm3 x).1 hin)
        clear hh hin hrow3 hm3 hrow' hput hkk hb3
        go_wp2_with fail
        refine Hh.out.mono ?_
        clear Hh
        rintro e w' ⟨rfl, rfl⟩
        go_wp2_with fail
        refine Hput.out.mono ?_
        clear Hput
        rintro e w4 ⟨_, rfl, hb4, l4, a4, c4, rfl, hr4, hri4, hm4, hl4, hfr4⟩
        have Hfr4 : Hid (∀ g, blockOf a4 = some g → w.heap.size ≤ g) := Lib.hid fun g hg => by
          rcases hfr4 with rfl | h
          · exact hfr.out g hg
          · have h1 := h g hg; have h2 := Hb1.out.size; have h3 := Hb3.out.size; omega
        have H4 := Lib.hid (And.intro hr4 (And.intro hri4 hm4))
        have Hb4 := Lib.hid (Hb3.out.trans (hb4.mono Hb3.out.size))
        clear hr4 hri4 hm4 hb4 hfr4
        go_wp2
        go_roundw
        case rel =>
          refine ⟨k + 1, l4, a4, c4, by omega, by go_num, rfl, Lib.hid H4.out.1, Lib.hid H4.out.2.1, Lib.hid fun z => ?_, by omega, Hb4, Hfr4⟩
          rw [H4.out.2.2 z, hm.out z, Hkk.out z]
          constructor
          · rintro ((h | ⟨h1, h2⟩) | rfl)
            · exact .inl h
            · exact .inr ⟨.inl h1, h2⟩
            · exact .inr ⟨.inr rfl, Hin.out⟩
          · rintro (h | ⟨h1 | rfl, h2⟩)
            · exact .inl (.inl h)
            · exact .inl (.inr ⟨h1, h2⟩)
            · exact .inr rfl
        case measure => simp [intOf]; omega
      · rw [decide_eq_false hin] at hh
        have Hh := Lib.hid hh
        have Hin : Hid (¬ ∃ z ∈ G l y, Rch (G l) z x) := Lib.hid fun h => hin ((hm3 x).2 h)
        clear hh hin hrow3 hm3 hrow' hput hkk hb3 Hput
        go_wp2_with fail
        refine Hh.out.mono ?_
        clear Hh
        rintro e w' ⟨rfl, rfl⟩
        go_wp2
        go_roundw
        case rel =>
          refine ⟨k + 1, q, aq, cq, by omega, by go_num, rfl, Lib.hid H3.out.1, hris, Lib.hid fun z => ?_, by omega, Hb3, hfr⟩
          rw [hm.out z, Hkk.out z]
          constructor
          · rintro (h | ⟨h1, h2⟩)
            · exact .inl h
            · exact .inr ⟨.inl h1, h2⟩
          · rintro (h | ⟨h1 | rfl, h2⟩)
            · exact .inl h
            · exact .inr ⟨h1, h2⟩
            · exact absurd h2 Hin.out
        case measure => simp [intOf]; omega
    · obtain rfl : k = r.length := by omega
      go_wp2
      go_ret
      refine ⟨_, rfl, Hb1.out.trans (hb.out.mono Hb1.out.size), q, aq, cq, rfl, hrow.out, hris.out, fun y => ?_, by omega, hfr.out⟩
      rw [hm.out y, List.take_length, Hmem.out y]
      constructor
      · rintro (rfl | ⟨h1, h2⟩)
        · exact ⟨.refl _, .refl _⟩
        · exact ⟨rch_of h1, rch_of h2⟩
      · rintro ⟨h1, h2⟩
        rcases rch_head h1 with rfl | h3
        · exact .inl rfl
        · rcases rch_head h2 with rfl | h4
          · exact .inl rfl
          · exact .inr ⟨h3, h4⟩

/-- what ready asks -/
def RdyL (l : List NodeD) (gr told : List Nm) : Prop := ∀ x ∈ gr, ∀ c ∈ callsOf l x, c ∈ names l → c ∈ gr ∨ c ∈ told
set_option maxHeartbeats 2000000 in
set_option maxRecDepth 20000 in
theorem readyR_any (a ag at_ : Option Addr) (c cg ct : Nat) (l : List NodeD) (gr told : List Nm) (w : World) (hn : NodesAt w a l) (hl : SmallN l) (hg : RowC w ag cg gr) (ht : RowC w at_ ct told) (hgn : ∀ x ∈ gr, x ∈ names l) (hgl : gr.length ≤ 4194304) (htl : told.length ≤ 4194304) :
    Calls Try.prog 46 #[.slice a l.length c, .slice ag gr.length cg, .slice at_ told.length ct] w (Ret w fun v w' => IsB (RdyL l gr told) v w') := by
  have HN := Lib.hid hn
  have HG := Lib.hid hg
  have HT := Lib.hid ht
  have Hgn := Lib.hid hgn
  have hlen : l.length ≤ 1048576 := hl.len
  have Hcl : Hid (∀ d ∈ l, d.calls.length ≤ 1048576) := Lib.hid fun d hd => by have := total_mem hd; have := hl.tot; unfold M20 at this; omega
  clear hn hl hg ht hgn
  go_enter Try.func46, Try.ntmps46
  go_wp2_with fail
  go_loopw [7] (fun i wq => ∃ (k : Nat), k ≤ gr.length ∧ i = .int .i64 k ∧ Hid (∀ (j : Nat) x, j < k → gr[j]? = some x → ∀ c ∈ callsOf l x, c ∈ names l → c ∈ gr ∨ c ∈ told) ∧ Hid (Below w.heap.size w wq)) (fun i _ => gr.length - (intOf i).toNat)
  case atStart => exact ⟨0, Nat.zero_le _, rfl, Lib.hid fun j x h => by omega, Lib.hid (Below.refl _ _)⟩
  case round =>
    obtain ⟨k, hk, rfl, hall, hb⟩ := hrel
    by_cases hlt : k < gr.length
    · obtain ⟨x, hx⟩ := get_some hlt
      obtain ⟨bg, og, rfl, c0⟩ := str_at (HG.out.ext hb.out).1 hx
      have hf := find_any a c l x wr (HN.out.ext hb.out) hlen
      have Hf := Lib.hid hf
      have Hx := Lib.hid hx
      clear hf hx
      go_wp2_with fail
      refine Hf.out.mono ?_
      clear Hf
      rintro e w' ⟨⟨r, rfl, hr⟩, rfl⟩
      rcases hr with ⟨-, hnn⟩ | ⟨i, d, rfl, hd, hdn, hco, hnm⟩
      · exact absurd (Hgn.out x (List.mem_of_getElem? Hx.out)) hnn
      · obtain ⟨b, off, rfl, c1, c2, -, hrc⟩ := node_at (HN.out.ext hb.out) hd
        have hil := get_lt hd
        have Hco := Lib.hid hco
        have Hrc := Lib.hid hrc
        have hdl := Hcl.out d (List.mem_of_getElem? hd)
        have hwr := hb.out.size
        clear hd hdn hco hnm hrc
        go_wp2_with fail
        obtain ⟨nb, hnb⟩ : ∃ nb, nb = wr.heap.size := ⟨_, rfl⟩
        have q1 : (wr.alloc (.cells #[.string ⟨d.name.toArray⟩, .slice d.a d.calls.length d.c] 47)).cell? ⟨nb, 1, none⟩ = some (.slice d.a d.calls.length d.c) := by rw [hnb]; simp
        rw [← hnb]
        obtain ⟨w2, hw2⟩ : ∃ w2, w2 = wr.alloc (.cells #[.string ⟨d.name.toArray⟩, .slice d.a d.calls.length d.c] 47) := ⟨_, rfl⟩
        rw [← hw2] at q1 ⊢
        have Hb2 : Hid (Below w.heap.size w w2) := Lib.hid (by rw [hw2]; exact hb.out.alloc hwr _)
        have Hrc2 : Hid (Row w2 1 d.a d.calls.length (d.calls.map strV)) := Lib.hid (by rw [hw2]; exact Hrc.out.ext (below_a1 _ _))
        obtain ⟨da, hda⟩ : ∃ da, da = d.a := ⟨_, rfl⟩
        rw [← hda] at q1
        have Hda := Lib.hid hda
        have Q1 := Lib.hid q1
        clear hda hw2 hnb c1 c2 Hrc q1
        go_loopw [9] (fun i wq => ∃ (k2 : Nat), k2 ≤ d.calls.length ∧ i = .int .i64 k2 ∧ Hid (∀ c ∈ d.calls.take k2, c ∈ names l → c ∈ gr ∨ c ∈ told) ∧ Hid (Below w2.heap.size w2 wq)) (fun i _ => d.calls.length - (intOf i).toNat)
        case atStart => exact ⟨0, Nat.zero_le _, rfl, Lib.hid (by simp), Lib.hid (Below.refl _ _)⟩
        case round =>
          clear hb hwr
          obtain ⟨k2, hk2, rfl, hall2, hb2⟩ := hrel
          have q1 : wr.cell? ⟨nb, 1, none⟩ = some (.slice da d.calls.length d.c) := below_ext hb2.out Q1.out
          have hbw := Hb2.out.trans (hb2.out.mono Hb2.out.size)
          by_cases hlt2 : k2 < d.calls.length
          · obtain ⟨cc, hcc⟩ := get_some hlt2
            have hrr := Hrc2.out.ext hb2.out
            rw [← Hda.out] at hrr
            obtain ⟨b3, o3, e3, c3⟩ := str_at hrr hcc
            have Hda3 : Hid (some ⟨b3, o3, none⟩ = d.a) := Lib.hid (by rw [← e3]; exact Hda.out)
            clear hrr Hda
            subst e3
            have hh1 := has_any (some ⟨bg, og, none⟩) cg gr cc wr (HG.out.ext hbw).1 (by omega)
            have hh2 := has_any at_ ct told cc wr (HT.out.ext hbw).1 (by omega)
            have hf := find_any (some ⟨b, off, none⟩) c l cc wr (HN.out.ext hbw) hlen
            obtain ⟨b1, hb1⟩ : ∃ b1, b1 = decide (cc ∈ gr) := ⟨_, rfl⟩
            obtain ⟨b2, hb2'⟩ : ∃ b2, b2 = decide (cc ∈ told) := ⟨_, rfl⟩
            rw [← hb1] at hh1
            rw [← hb2'] at hh2
            have HB1 := Lib.hid hb1
            have HB2 := Lib.hid hb2'
            have Hcc := Lib.hid hcc
            have Hh1 := Lib.hid hh1
            have Hh2 := Lib.hid hh2
            have Hf := Lib.hid hf
            have Hbw := Lib.hid hbw
            clear hh1 hh2 hf hb1 hb2' hcc hbw
            go_wp2_with fail
            refine Hh1.out.mono ?_
            clear Hh1
            rintro e w' ⟨rfl, rfl⟩
            go_wp2_with fail
            refine Hh2.out.mono ?_
            clear Hh2
            rintro e w' ⟨rfl, rfl⟩
            go_wp2_with fail
            refine Hf.out.mono ?_
            clear Hf
            rintro e w' ⟨⟨r2, rfl, hr2⟩, rfl⟩
            rcases hr2 with ⟨rfl, hnn⟩ | ⟨i2, d2, rfl, hd2, hdn2, hco2, hnm2⟩
            · have Hok : Hid (cc ∈ names l → cc ∈ gr ∨ cc ∈ told) := Lib.hid fun h => absurd h hnn
              clear hnn
              cases b1 <;> cases b2
              · go_wp2
                go_roundw
                case rel =>
                  refine ⟨k2 + 1, by omega, by go_num, Lib.hid fun z hz hN => ?_, hb2⟩
                  rw [List.take_add_one, Hcc.out, List.mem_append] at hz
                  rcases hz with h | h
                  · exact hall2.out z h hN
                  · simp at h; subst h
                    exact Hok.out hN
                case measure => simp [intOf]; omega
              · go_wp2
                go_roundw
                case rel =>
                  refine ⟨k2 + 1, by omega, by go_num, Lib.hid fun z hz hN => ?_, hb2⟩
                  rw [List.take_add_one, Hcc.out, List.mem_append] at hz
                  rcases hz with h | h
                  · exact hall2.out z h hN
                  · simp at h; subst h
                    exact Hok.out hN
                case measure => simp [intOf]; omega
              · go_wp2
                go_roundw
                case rel =>
                  refine ⟨k2 + 1, by omega, by go_num, Lib.hid fun z hz hN => ?_, hb2⟩
                  rw [List.take_add_one, Hcc.out, List.mem_append] at hz
                  rcases hz with h | h
                  · exact hall2.out z h hN
                  · simp at h; subst h
                    exact Hok.out hN
                case measure => simp [intOf]; omega
              · go_wp2
                go_roundw
                case rel =>
                  refine ⟨k2 + 1, by omega, by go_num, Lib.hid fun z hz hN => ?_, hb2⟩
                  rw [List.take_add_one, Hcc.out, List.mem_append] at hz
                  rcases hz with h | h
                  · exact hall2.out z h hN
                  · simp at h; subst h
                    exact Hok.out hN
                case measure => simp [intOf]; omega
            · have Hcn := Lib.hid hnm2
              clear hd2 hdn2 hco2 hnm2
              cases b1
              · cases b2
                · go_wp2
                  go_ret
                  refine ⟨_, rfl, Hbw.out, isB_false fun h => ?_⟩
                  rcases h x (List.mem_of_getElem? Hx.out) cc (by rw [Hco.out]; exact List.mem_of_getElem? Hcc.out) Hcn.out with h1 | h1
                  · have := HB1.out; simp [h1] at this
                  · have := HB2.out; simp [h1] at this
                · have Hok : Hid (cc ∈ names l → cc ∈ gr ∨ cc ∈ told) := Lib.hid fun _ => .inr (of_decide_eq_true HB2.out.symm)
                  go_wp2
                  go_roundw
                  case rel =>
                    refine ⟨k2 + 1, by omega, by go_num, Lib.hid fun z hz hN => ?_, hb2⟩
                    rw [List.take_add_one, Hcc.out, List.mem_append] at hz
                    rcases hz with h | h
                    · exact hall2.out z h hN
                    · simp at h; subst h
                      exact Hok.out hN
                  case measure => simp [intOf]; omega
              · have Hok : Hid (cc ∈ names l → cc ∈ gr ∨ cc ∈ told) := Lib.hid fun _ => .inl (of_decide_eq_true HB1.out.symm)
                cases b2
                · go_wp2
                  go_roundw
                  case rel =>
                    refine ⟨k2 + 1, by omega, by go_num, Lib.hid fun z hz hN => ?_, hb2⟩
                    rw [List.take_add_one, Hcc.out, List.mem_append] at hz
                    rcases hz with h | h
                    · exact hall2.out z h hN
                    · simp at h; subst h
                      exact Hok.out hN
                  case measure => simp [intOf]; omega
                · go_wp2
                  go_roundw
                  case rel =>
                    refine ⟨k2 + 1, by omega, by go_num, Lib.hid fun z hz hN => ?_, hb2⟩
                    rw [List.take_add_one, Hcc.out, List.mem_append] at hz
                    rcases hz with h | h
                    · exact hall2.out z h hN
                    · simp at h; subst h
                      exact Hok.out hN
                  case measure => simp [intOf]; omega
          · obtain rfl : k2 = d.calls.length := by omega
            have Hbw := Lib.hid hbw
            clear hbw
            go_wp2
            go_roundw
            case rel =>
              refine ⟨k + 1, by omega, by go_num, Lib.hid fun j y hj hy => ?_, Hbw⟩
              rcases Nat.lt_or_ge j k with h | h
              · exact hall.out j y h hy
              · obtain rfl : j = k := by omega
                rw [Hx.out] at hy; cases hy
                intro z hz
                rw [Hco.out] at hz
                exact hall2.out z (by rw [List.take_length]; exact hz)
            case measure => simp [intOf]; omega
    · obtain rfl : k = gr.length := by omega
      go_wp2
      go_ret
      refine ⟨_, rfl, hb.out, isB_true fun x hx => ?_⟩
      obtain ⟨j, hj⟩ := List.getElem?_of_mem hx
      exact hall.out j x (get_lt hj) hj
end Go.Proofs.Ytnepamdmjppglaa
