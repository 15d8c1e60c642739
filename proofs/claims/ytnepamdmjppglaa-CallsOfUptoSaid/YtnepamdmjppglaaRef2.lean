/- The document's answer, walked: find, Names, Reach. -/
import Derived.Test.YtnepamdmjppglaaRef1
namespace Go.Proofs.Ytnepamdmjppglaa
open Go Go.RowKit Go.Sort

/-- where the first node of a name stands; -1: none -/
def FindR (l : List NodeD) (x : Nm) (r : Int) : Prop := (r = -1 ∧ x ∉ names l) ∨ ∃ (i : Nat) (d : NodeD), r = i ∧ l[i]? = some d ∧ d.name = x ∧ callsOf l x = d.calls ∧ x ∈ names l
set_option maxHeartbeats 400000 in
theorem find_any (a : Option Addr) (c : Nat) (l : List NodeD) (x : Nm) (w : World) (hn : NodesAt w a l) (hl : l.length ≤ 1048576) :
    Calls Try.prog 52 #[.slice a l.length c, .string ⟨x.toArray⟩] w fun e w' => (∃ r, e = .returned (.int .i64 r) ∧ FindR l x r) ∧ w = w' := by
  have HN := Lib.hid hn
  clear hn
  go_enter Try.func52, Try.ntmps52
  go_wp2_with fail
  go_loop [5] (fun i => ∃ k : Nat, k ≤ l.length ∧ i = .int .i64 k ∧ Hid (∀ (j : Nat) (e : NodeD), j < k → l[j]? = some e → e.name ≠ x)) (fun i => l.length - (intOf i).toNat)
  case atStart => exact ⟨0, Nat.zero_le _, rfl, Lib.hid fun j e h => by omega⟩
  case round =>
    obtain ⟨k, hk, rfl, hall⟩ := hrel
    by_cases hlt : k < l.length
    · obtain ⟨d, hd⟩ := get_some hlt
      obtain ⟨b, off, rfl, c0, -, -, -⟩ := node_at HN.out hd
      have Hd := Lib.hid hd
      clear hd
      by_cases he : d.name = x
      · have fe : (d.name == x) = true := by simpa using he
        have He := Lib.hid he
        clear he
        go_wp2
        go_ret
        refine ⟨⟨k, rfl, .inr ⟨k, d, rfl, Hd.out, He.out, ?_, mem_names.2 ⟨d, List.mem_of_getElem? Hd.out, He.out⟩⟩⟩, rfl⟩
        have := callsOf_first Hd.out (fun j e hj he => by rw [He.out]; exact hall.out j e hj he)
        rw [He.out] at this; exact this
      · have fe : (d.name == x) = false := by simpa using he
        have He := Lib.hid he
        clear he
        go_wp2
        go_round
        case rel =>
          refine ⟨k + 1, by omega, by go_num, Lib.hid fun j e hj he => ?_⟩
          rcases Nat.lt_or_ge j k with h | h
          · exact hall.out j e h he
          · obtain rfl : j = k := by omega
            rw [Hd.out] at he; cases he; exact He.out
        case measure => simp [intOf]; omega
    · obtain rfl : k = l.length := by omega
      go_wp2
      go_ret
      refine ⟨⟨-1, rfl, .inl ⟨rfl, fun hm => ?_⟩⟩, rfl⟩
      obtain ⟨d, hd, hx⟩ := mem_names.1 hm
      obtain ⟨j, hj⟩ := List.getElem?_of_mem hd
      exact hall.out j d (get_lt hj) hj hx

/-- a rising row -/
def RisR (p : Nm → Prop) (m : Nat) (v : Value) (w' : World) : Prop := ∃ (l' : List Nm) (a' : Option Addr) (c' : Nat), v = .slice a' l'.length c' ∧ RowC w' a' c' l' ∧ l'.Pairwise (fun x y => x < y) ∧ (∀ x, x ∈ l' ↔ p x) ∧ l'.length ≤ m

set_option maxHeartbeats 400000 in
theorem namesR_any (a : Option Addr) (c : Nat) (l : List NodeD) (w : World) (hn : NodesAt w a l) (hl : l.length ≤ 1048576) :
    Calls Try.prog 22 #[.slice a l.length c] w (Ret w (RisR (fun x => x ∈ names l) l.length)) := by
  have HN := Lib.hid hn
  clear hn
  go_enter Try.func22, Try.ntmps22
  go_wp2_with fail
  go_loopw [3, 4] (fun o i wr => ∃ (k : Nat) (q : List Nm) (aq : Option Addr) (cq : Nat), k ≤ l.length ∧ i = .int .i64 k ∧ o = .slice aq q.length cq ∧ Hid (RowC wr aq cq q) ∧ Hid (q.Pairwise fun x y => x < y) ∧ Hid (∀ x, x ∈ q ↔ x ∈ names (l.take k)) ∧ q.length ≤ k ∧ Hid (Below w.heap.size w wr)) (fun _ i _ => l.length - (intOf i).toNat)
  case atStart => exact ⟨0, [], none, 0, Nat.zero_le _, rfl, rfl, Lib.hid (RowC.nil _), Lib.hid (by simp), Lib.hid (by simp [names]), Nat.zero_le _, Lib.hid (Below.refl _ _)⟩
  case round =>
    obtain ⟨k, q, aq, cq, hk, rfl, rfl, hrow, hris, hmem, hql, hb⟩ := hrel
    by_cases hlt : k < l.length
    · obtain ⟨d, hd⟩ := get_some hlt
      obtain ⟨b, off, rfl, c0, -, -, -⟩ := node_at (HN.out.ext hb.out) hd
      have hput := put_any aq cq q d.name wr hrow.out hris.out (by omega)
      have Hd := Lib.hid hd
      have Hput := Lib.hid hput
      clear hd hput
      go_wp2_with fail
      refine Hput.out.mono ?_
      clear Hput
      rintro e w2 ⟨_, rfl, hb2, l2, a2, c2, rfl, hr2, hri2, hm2, hl2, -⟩
      have Hr2 := Lib.hid hr2
      have Hri2 := Lib.hid hri2
      have Hm2 := Lib.hid hm2
      have Hb2 := Lib.hid (hb.out.trans (hb2.mono hb.out.size))
      clear hr2 hri2 hm2 hb2
      go_wp2
      go_roundw
      case rel => exact ⟨k + 1, l2, a2, c2, by omega, by go_num, rfl, Hr2, Hri2, Lib.hid (fun x => by rw [Hm2.out, hmem.out, names_take Hd.out]), by omega, Hb2⟩
      case measure => simp [intOf]; omega
    · obtain rfl : k = l.length := by omega
      go_wp2
      go_ret
      exact ⟨_, rfl, hb.out, q, aq, cq, rfl, hrow.out, hris.out, fun x => by rw [hmem.out, List.take_length], hql⟩

/-- what is reached by one step at least, and what is still to be gone from -/
structure RefI (g : Nm → List Nm) (x0 : Nm) (out td : List Nm) : Prop where
  sub : ∀ y ∈ out, ∃ z ∈ g x0, Rch g z y
  tds : ∀ y ∈ td, y = x0 ∨ y ∈ out
  clo : ∀ y, y = x0 ∨ y ∈ out → y ∈ td ∨ ∀ z ∈ g y, z ∈ out
theorem RefI.start (g : Nm → List Nm) (x0 : Nm) : RefI g x0 [] [x0] := ⟨by simp, by simp, by simp⟩
theorem RefI.done {g : Nm → List Nm} {x0 : Nm} {out : List Nm} (h : RefI g x0 out []) (y : Nm) : y ∈ out ↔ ∃ z ∈ g x0, Rch g z y := by
  refine ⟨h.sub y, ?_⟩
  rintro ⟨z, hz, hr⟩
  induction hr with
  | refl => rcases h.clo x0 (.inl rfl) with q | q
            · simp at q
            · exact q z hz
  | tail _ he ih => rcases h.clo _ (.inr ih) with q | q
                    · simp at q
                    · exact q _ he
/-- within the round of y, k of its calls gone through -/
structure RefK (g : Nm → List Nm) (x0 y : Nm) (cs : List Nm) (N : List Nm) (k : Nat) (out td : List Nm) : Prop where
  sub : ∀ y ∈ out, ∃ z ∈ g x0, Rch g z y
  tds : ∀ y ∈ td, y = x0 ∨ y ∈ out
  cur : y = x0 ∨ y ∈ out
  clo : ∀ u, u = x0 ∨ u ∈ out → u = y ∨ u ∈ td ∨ ∀ z ∈ g u, z ∈ out
  got : ∀ c ∈ cs.take k, c ∈ N → c ∈ out
theorem RefI.round {g : Nm → List Nm} {x0 y : Nm} {out td cs N : List Nm} (h : RefI g x0 out (y :: td)) : RefK g x0 y cs N 0 out td :=
  ⟨h.sub, fun u hu => h.tds u (by simp [hu]), h.tds y (by simp), fun u hu => by
    rcases h.clo u hu with q | q
    · rcases List.mem_cons.1 q with r | r
      · exact .inl r
      · exact .inr (.inl r)
    · exact .inr (.inr q), by simp⟩
theorem RefK.skip {g : Nm → List Nm} {x0 y : Nm} {out td cs N : List Nm} {k : Nat} (h : RefK g x0 y cs N k out td) {c : Nm} (hc : cs[k]? = some c) (hn : c ∉ N ∨ c ∈ out) : RefK g x0 y cs N (k + 1) out td :=
  ⟨h.sub, h.tds, h.cur, h.clo, fun z hz hN => by
    rw [List.take_add_one, hc, List.mem_append] at hz
    rcases hz with q | q
    · exact h.got z q hN
    · simp at q; subst q
      rcases hn with r | r
      · exact absurd hN r
      · exact r⟩
theorem RefK.take {g : Nm → List Nm} {x0 y : Nm} {out out' td cs N : List Nm} {k : Nat} (h : RefK g x0 y cs N k out td) {c : Nm} (hc : cs[k]? = some c) (hg : c ∈ g y) (ho : ∀ u, u ∈ out' ↔ u ∈ out ∨ u = c) : RefK g x0 y cs N (k + 1) out' (td ++ [c]) := by
  have hc0 : ∃ z ∈ g x0, Rch g z c := by
    rcases h.cur with rfl | hy
    · exact ⟨c, hg, .refl _⟩
    · obtain ⟨z, hz, hr⟩ := h.sub y hy
      exact ⟨z, hz, .tail hr hg⟩
  refine ⟨fun u hu => ?_, fun u hu => ?_, ?_, fun u hu => ?_, fun z hz hN => ?_⟩
  · rcases (ho u).1 hu with q | rfl
    · exact h.sub u q
    · exact hc0
  · rw [List.mem_append, List.mem_singleton] at hu
    rcases hu with q | rfl
    · exact (h.tds u q).imp id fun r => (ho u).2 (.inl r)
    · exact .inr ((ho u).2 (.inr rfl))
  · exact h.cur.imp id fun r => (ho y).2 (.inl r)
  · rw [List.mem_append, List.mem_singleton]
    have : (u = x0 ∨ u ∈ out) ∨ u = c := by
      rcases hu with q | q
      · exact .inl (.inl q)
      · rcases (ho u).1 q with r | r
        · exact .inl (.inr r)
        · exact .inr r
    rcases this with q | q
    · rcases h.clo u q with r | r | r
      · exact .inl r
      · exact .inr (.inl (.inl r))
      · exact .inr (.inr fun z hz => (ho z).2 (.inl (r z hz)))
    · exact .inr (.inl (.inr q))
  · rw [List.take_add_one, hc, List.mem_append] at hz
    rcases hz with q | q
    · exact (ho z).2 (.inl (h.got z q hN))
    · simp at q; exact (ho z).2 (.inr (by first | exact q | exact q.symm))
theorem RefK.done {l : List NodeD} {x0 y : Nm} {out td : List Nm} {k : Nat} (h : RefK (G l) x0 y (callsOf l y) (names l) k out td) (hk : (callsOf l y).length ≤ k) : RefI (G l) x0 out td :=
  ⟨h.sub, h.tds, fun u hu => by
    rcases h.clo u hu with rfl | r | r
    · refine .inr fun z hz => ?_
      rw [mem_G] at hz
      exact h.got z (by rw [List.take_of_length_le hk]; exact hz.1) hz.2
    · exact .inl r
    · exact .inr r⟩

theorem Row.grown {w w' : World} {sz n : Nat} {a : Option Addr} {xs : List Value} {row : Option Nat} (h : Row w sz a n xs) (hg : w.grownBy w' row) (hne : ∀ g, blockOf a = some g → row ≠ some g) : Row w' sz a n xs := by
  refine ⟨h.1, fun h0 => ?_⟩
  obtain ⟨b, off, e, hc⟩ := h.2 h0
  refine ⟨b, off, e, fun j hj => ?_⟩
  have h1 := hc j hj
  have hlt : j < xs.length := by rw [h.1]; exact hj
  rw [List.getElem?_eq_getElem hlt] at h1 ⊢
  exact hg.cell h1 (fun e2 => hne b (by rw [e]; rfl) e2.symm)
/-- two rows that do not lie in one block -/
def Apart (_ : World) (aq : Option Addr) (at_ : Option Addr) (ct : Nat) : Prop := ∀ g, blockOf aq = some g → rowOf at_ ct ≠ some g

set_option maxHeartbeats 2000000 in
set_option maxRecDepth 20000 in
theorem reachR_any (a : Option Addr) (c : Nat) (l : List NodeD) (x : Nm) (w : World) (hn : NodesAt w a l) (hl : SmallN l) :
    Calls Try.prog 30 #[.slice a l.length c, .string ⟨x.toArray⟩] w (Ret w (RisR (fun y => ∃ z ∈ G l x, Rch (G l) z y) l.length)) := by
  have hlen : l.length ≤ 1048576 := hl.len
  have Hcl : Hid (∀ d ∈ l, d.calls.length ≤ 1048576) := Lib.hid fun d hd => by have := total_mem hd; have := hl.tot; unfold M20 at this; omega
  have HN := Lib.hid hn
  clear hn hl
  go_enter Try.func30, Try.ntmps30
  go_wp2_with fail
  have HO0 : Hid (Own (w.alloc (.cells #[.string ⟨x.toArray⟩] 9)) w.heap.size 9 1 (some ⟨w.heap.size, 0, none⟩) [x].length 1 ([x].map strV)) := Lib.hid (Own.ofBlock (Nat.le_refl _) (by exact Blk.new rfl) rfl (by show (1 : Nat) ≤ _; unfold maxLen; decide))
  go_loopg [5, 6] (1 + l.length) (fun m o td wq => ∃ (q t : List Nm) (aq at_ : Option Addr) (cq ct : Nat), o = .slice aq q.length cq ∧ td = .slice at_ t.length ct ∧ Hid (m = t.length + (l.length - q.length) ∧ m ≤ 1 + l.length) ∧ Hid (RowC wq aq cq q) ∧ Hid (q.Pairwise fun x y => x < y) ∧ Hid (RefI (G l) x q t) ∧ Hid (Own wq w.heap.size 9 1 at_ t.length ct (t.map strV)) ∧ Hid (Below w.heap.size w wq) ∧ Hid (∀ y ∈ q, y ∈ names l) ∧ Hid (Apart wq aq at_ ct))
  case atStart => exact ⟨[], [x], none, _, 0, 1, rfl, rfl, Lib.hid ⟨by simp, Nat.le_refl _⟩, Lib.hid (RowC.nil _), Lib.hid (by simp), Lib.hid (RefI.start _ _), HO0, Lib.hid (below_a1 _ _), Lib.hid (by simp), Lib.hid fun g hg => by simp [blockOf] at hg⟩
  case round =>
    clear HO0
    obtain ⟨q, t, aq, at_, cq, ct, rfl, rfl, hm, hrow, hris, hI, hown, hb, hqn, hap⟩ := hrel
    cases t with
    | nil =>
      go_wp2
      go_ret
      have hql : q.length ≤ l.length := by
        have := List.Nodup.length_le_of_subset (l₁ := q) (l₂ := names l) (hris.out.imp fun h e => by subst e; exact List.lt_irrefl _ h) fun y hy => hqn.out y hy
        simpa [names] using this
      exact ⟨_, rfl, hb.out, q, aq, cq, rfl, hrow.out, hris.out, hI.out.done, hql⟩
    | cons y t =>
      obtain ⟨bt, ot, hat, c0⟩ := str_at (l := y :: t) (hown.out.row) (i := 0) rfl
      subst hat
      have c0' : wr.cell? ⟨bt, ot, none⟩ = some (.string ⟨y.toArray⟩) := by simpa using c0
      have hct : t.length + 1 ≤ ct := by have := hown.out.le; simpa using this
      have hf := find_any a c l y wr (HN.out.ext hb.out) hlen
      have Hf := Lib.hid hf
      have hlt1 : (y :: t).length = t.length + 1 := rfl
      have hm0 : t.length ≤ 1048577 := by have h1 := hm.out.1; have h2 := hm.out.2; rw [List.length_cons] at h1; omega
      clear hf c0 hlt1
      go_wp2_with fail
      refine Hf.out.mono ?_
      clear Hf
      rintro e w' ⟨⟨r, rfl, hr⟩, rfl⟩
      go_wp2_with ((with_reducible show wpList _ _ _ (⟨some 22, _, _, _, _, _⟩ :: _) _ _); refine wpList_slice_from (o := ⟨some 22, _, _, _, _, _⟩) rfl _ _ _ rfl 9 1 Try.underlying28 sizeStr _ _ _ rfl _ 1 rfl (by omega) (by simp; omega) ?_; intro ax hax; have Hax := Lib.hid hax.out; clear hax; simp only [Int.toNat_one, Nat.add_sub_cancel]; (try simp only [Act.put]); (try simp only [List.setIfInBounds_toArray]); (try simp only [List.set_cons_succ, List.set_cons_zero]))
      have hownd : Own wr w.heap.size 9 1 ax t.length (ct - 1) (t.map strV) := by
        have h := hown.out.cut (l := 1) (by simp) (a' := ax) Hax.out
        simpa using h
      have Hod := Lib.hid hownd
      have Hr := Lib.hid hr
      have Hapd : Hid (Apart wr aq ax (ct - 1)) := Lib.hid fun g hg => by
        have h := rowOf_cut (l := 1) (sz := 1) (hap.out g hg) (by omega)
        have h2 : ax = cutAt (some ⟨bt, ot, none⟩) ct 1 1 := by have := Hax.out; simpa using this
        rw [h2]; exact h
      have HK0 : Hid (RefK (G l) x y (callsOf l y) (names l) 0 q t) := Lib.hid hI.out.round
      have Hm0 : Hid (t.length + (l.length - q.length) + 1 ≤ gk ∧ gk ≤ 1 + l.length) := Lib.hid (by have h1 := hm.out; rw [List.length_cons] at h1; omega)
      have Hcy : Hid ((callsOf l y).length ≤ 1048576) := Lib.hid (by
        rcases hr with ⟨_, hnn⟩ | ⟨i, d, _, hd, _, hco, _⟩
        · rw [callsOf_none hnn]; simp
        · rw [hco]; exact Hcl.out d (List.mem_of_getElem? hd))
      have hcy := Hcy.out
      clear hr hownd Hax hown hI hm hap c0'
      go_loopw [5, 6, 8] (fun o td i wq => ∃ (k : Nat) (q t : List Nm) (aq at_ : Option Addr) (cq ct : Nat), k ≤ (callsOf l y).length ∧ i = .int .i64 k ∧ o = .slice aq q.length cq ∧ td = .slice at_ t.length ct ∧ Hid (t.length + (l.length - q.length) + 1 ≤ gk ∧ gk ≤ 1 + l.length) ∧ Hid (RowC wq aq cq q) ∧ Hid (q.Pairwise fun x y => x < y) ∧ Hid (RefK (G l) x y (callsOf l y) (names l) k q t) ∧ Hid (Own wq w.heap.size 9 1 at_ t.length ct (t.map strV)) ∧ Hid (Below w.heap.size w wq) ∧ Hid (∀ y ∈ q, y ∈ names l) ∧ Hid (Apart wq aq at_ ct)) (fun _ _ i _ => (callsOf l y).length - (intOf i).toNat)
      case atStart => exact ⟨0, q, t, aq, ax, cq, ct - 1, Nat.zero_le _, rfl, rfl, rfl, Hm0, hrow, hris, HK0, Hod, hb, hqn, Hapd⟩
      case round =>
        clear hrow hris HK0 Hod hb hqn Hapd Hm0 hct hm0
        obtain ⟨k, q, t, aq, at_, cq, ct, hk, rfl, rfl, rfl, hm, hrow, hris, hK, hown, hb, hqn, hap⟩ := hrel
        have hql : q.length ≤ l.length := by
          have := List.Nodup.length_le_of_subset (l₁ := q) (l₂ := names l) (hris.out.imp fun h e => by subst e; exact List.lt_irrefl _ h) fun y hy => hqn.out y hy
          simpa [names] using this
        have hm0 : t.length ≤ 1048577 := by have := hm.out; omega
        rcases Hr.out with ⟨rfl, hnn⟩ | ⟨i, d, rfl, hd, hdn, hco, hnm⟩
        · have hk0 : (callsOf l y).length ≤ k := by rw [callsOf_none hnn]; simp
          have Hk0 := Lib.hid hk0
          clear hnn hk0
          go_wp2
          go_roundg (t.length + (l.length - q.length))
          case rel => exact ⟨q, t, aq, at_, cq, ct, rfl, rfl, Lib.hid ⟨rfl, by have := hm.out; omega⟩, hrow, hris, Lib.hid (hK.out.done Hk0.out), hown, hb, hqn, hap⟩
          case measure => have := hm.out; omega
        · obtain ⟨b, off, rfl, -, c1, -, hrc⟩ := node_at (HN.out.ext hb.out) hd
          obtain ⟨cs, hcs⟩ : ∃ cs, cs = d.calls := ⟨_, rfl⟩
          rw [← hcs] at c1 hrc hco
          have hil : i < l.length := get_lt hd
          have hcsl : cs.length ≤ 1048576 := by rw [hcs]; exact Hcl.out d (List.mem_of_getElem? hd)
          obtain ⟨da, hda⟩ : ∃ da, da = d.a := ⟨_, rfl⟩
          rw [← hda] at c1 hrc
          have Hco := Lib.hid hco
          have Hnm := Lib.hid hnm
          rw [hco] at hk
          clear hd hdn hco hnm hcs hda
          by_cases hlt : k < cs.length
          · obtain ⟨cc, hcc⟩ := get_some hlt
            obtain ⟨b3, off3, rfl, c3⟩ := str_at hrc hcc
            have hhas := has_any aq cq q cc wr hrow.out.1 (by omega)
            have hf := find_any (some ⟨b, off, none⟩) c l cc wr (HN.out.ext hb.out) hlen
            have Hcc : Hid ((callsOf l y)[k]? = some cc) := Lib.hid (by rw [Hco.out]; exact hcc)
            by_cases hin : cc ∈ q
            · rw [decide_eq_true hin] at hhas
              have Hin := Lib.hid hin
              have Hhas := Lib.hid hhas
              have Hf := Lib.hid hf
              clear hin hhas hf hcc hrc
              go_wp2_with fail
              refine Hhas.out.mono ?_
              rintro e w' ⟨rfl, rfl⟩
              go_wp2_with fail
              refine Hf.out.mono ?_
              rintro e w' ⟨⟨r2, rfl, hr2⟩, rfl⟩
              clear Hf Hhas
              rcases hr2 with ⟨rfl, hnn⟩ | ⟨i2, d2, rfl, hd2, hdn2, hco2, hnm2⟩
              · go_wp2
                go_roundw
                case rel => exact ⟨k + 1, q, t, aq, at_, cq, ct, by rw [Hco.out]; omega, by go_num, rfl, rfl, hm, hrow, hris, Lib.hid (hK.out.skip Hcc.out (.inr Hin.out)), hown, hb, hqn, hap⟩
                case measure => rw [Hco.out]; simp [intOf]; omega
              · clear hd2 hdn2 hco2 hnm2
                go_wp2
                go_roundw
                case rel => exact ⟨k + 1, q, t, aq, at_, cq, ct, by rw [Hco.out]; omega, by go_num, rfl, rfl, hm, hrow, hris, Lib.hid (hK.out.skip Hcc.out (.inr Hin.out)), hown, hb, hqn, hap⟩
                case measure => rw [Hco.out]; simp [intOf]; omega
            · rw [decide_eq_false hin] at hhas
              have Hin := Lib.hid hin
              have Hhas := Lib.hid hhas
              have Hf := Lib.hid hf
              clear hin hhas hf hcc hrc
              go_wp2_with fail
              refine Hhas.out.mono ?_
              rintro e w' ⟨rfl, rfl⟩
              go_wp2_with fail
              refine Hf.out.mono ?_
              rintro e w' ⟨⟨r2, rfl, hr2⟩, rfl⟩
              clear Hf Hhas
              rcases hr2 with ⟨rfl, hnn⟩ | ⟨i2, d2, rfl, hd2, hdn2, hco2, hnm2⟩
              · have Hnn := Lib.hid hnn
                clear hnn
                go_wp2
                go_roundw
                case rel => exact ⟨k + 1, q, t, aq, at_, cq, ct, by rw [Hco.out]; omega, by go_num, rfl, rfl, hm, hrow, hris, Lib.hid (hK.out.skip Hcc.out (.inl Hnn.out)), hown, hb, hqn, hap⟩
                case measure => rw [Hco.out]; simp [intOf]; omega
              · have Hcn := Lib.hid hnm2
                have hput := put_any aq cq q cc wr hrow.out hris.out (by omega)
                have Hput := Lib.hid hput
                have hap0 := hap
                clear hd2 hdn2 hco2 hnm2 hput
                go_wp2_with fail
                refine Hput.out.mono ?_
                clear Hput
                rintro e w2 ⟨_, rfl, hb2, l2, a2, c2, rfl, hr2, hri2, hm2, hl2, ha2⟩
                have hown2 := hown.out.ext hb2
                have hl2n : l2.length ≤ l.length := by
                  have := List.Nodup.length_le_of_subset (l₁ := l2) (l₂ := names l) (hri2.imp fun h e => by subst e; exact List.lt_irrefl _ h) fun y hy => by
                    rcases (hm2 y).1 hy with h | rfl
                    · exact hqn.out y h
                    · exact Hcn.out
                  simpa [names] using this
                have hl2q : q.length + 1 ≤ l2.length := by
                  have := List.Nodup.length_le_of_subset (l₁ := cc :: q) (l₂ := l2) (List.nodup_cons.2 ⟨Hin.out, hris.out.imp fun h e => by subst e; exact List.lt_irrefl _ h⟩) fun y hy => by
                    rcases List.mem_cons.1 hy with rfl | h
                    · exact (hm2 y).2 (.inr rfl)
                    · exact (hm2 y).2 (.inl h)
                  simpa using this
                have hap2 : ∀ g, blockOf a2 = some g → rowOf at_ ct ≠ some g ∧ g < w2.heap.size := fun g hg => by
                  refine ⟨?_, hr2.1.lt (by omega) hg⟩
                  rcases ha2 with rfl | h
                  · exact hap.out g hg
                  · intro e
                    have h1 := h g hg
                    unfold rowOf at e; split at e
                    · cases e
                    · have := (hown.out.size (by omega) e).2; omega
                have Hap2 := Lib.hid hap2
                have Hr2 := Lib.hid hr2
                have Hri2 := Lib.hid hri2
                have Hm2 := Lib.hid hm2
                have Hb2 := Lib.hid (hb.out.trans (hb2.mono hb.out.size))
                have Hown2 := Lib.hid hown2
                have Hl2 := Lib.hid (And.intro hl2n hl2q)
                have hbs2 := hb2.size
                have hbs1 := hb.out.size
                clear hr2 hri2 hm2 hb2 hown2 hl2n hl2q hap2 ha2 hl2
                go_wp2_with (at_builtin; refine wpList_append_Own rfl _ _ 28 rfl w.heap.size 9 _ 1 16 Try.underlying28 infoStr rfl (by decide) at_ t.length ct _ rfl (by exact Hown2.out.alloc _) _ 1 1 [strV cc] rfl (Row.new1 (by simp) rfl rfl) (by intro u hu; simp at hu; subst hu; rfl) (by unfold maxLen; omega) (by omega) (by simp; omega) ?_; intro a5 c5 w5 hown5 hg5 hbk5)
                have hrb := Hown2.out.rowBase (Nat.le_refl _)
                have hr5 : RowC w5 a2 c2 l2 := ⟨(Hr2.out.1.ext (below_a1 _ _)).grown hg5 fun g hg => (Hap2.out g hg).1, Hr2.out.2⟩
                have hb5 : Below w.heap.size w w5 := (Hb2.out.alloc Hb2.out.size _).grown hg5 (by have := Hb2.out.size; simp; omega) (fun j hj => hrb j hj)
                have hap5 : Apart w5 a2 a5 c5 := fun g hg => rowOf_apart (w := w2.alloc _) (Hap2.out g hg).1 (by have := (Hap2.out g hg).2; simp; omega) hbk5
                have H5 := Lib.hid (And.intro hr5 (And.intro hb5 (And.intro hap5 hown5)))
                clear hr5 hb5 hap5 hown5 hg5 hbk5 hrb
                go_roundw
                case rel => exact ⟨k + 1, l2, t ++ [cc], a2, a5, c2, c5, by rw [Hco.out]; omega, by go_num, rfl, by rw [List.length_append]; rfl, Lib.hid (by have := hm.out; have := Hl2.out; rw [List.length_append]; simp; omega), Lib.hid H5.out.1, Hri2, Lib.hid (hK.out.take Hcc.out (by rw [mem_G]; exact ⟨List.mem_of_getElem? Hcc.out, Hcn.out⟩) Hm2.out), Lib.hid (by rw [List.length_append, List.map_append]; exact H5.out.2.2.2), Lib.hid H5.out.2.1, Lib.hid (fun z hz => by
                  rcases (Hm2.out z).1 hz with h | rfl
                  · exact hqn.out z h
                  · exact Hcn.out), Lib.hid H5.out.2.2.1⟩
                case measure => rw [Hco.out]; simp [intOf]; omega
          · obtain rfl : k = cs.length := by omega
            clear hrc
            go_wp2
            go_roundg (t.length + (l.length - q.length))
            case rel => exact ⟨q, t, aq, at_, cq, ct, rfl, rfl, Lib.hid ⟨rfl, by have := hm.out; omega⟩, hrow, hris, Lib.hid (hK.out.done (by rw [Hco.out]; omega)), hown, hb, hqn, hap⟩
            case measure => have := hm.out; omega
end Go.Proofs.Ytnepamdmjppglaa
