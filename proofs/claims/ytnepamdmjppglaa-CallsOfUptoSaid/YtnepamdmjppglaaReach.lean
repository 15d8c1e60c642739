/- Names, and all that they reach: the program's (graph).reach, walked. -/
import Derived.Test.YtnepamdmjppglaaMadeC
import Derived.Test.YtnepamdmjppglaaShelf
namespace Go.Proofs.Ytnepamdmjppglaa
open Go Go.RowKit

theorem Own.take {w : World} {base : Nat} {e : TypeId} {sz : Nat} {a : Option Addr} {n cap : Nat} {xs : List Value} (h : Own w base e sz a n cap xs) {m : Nat} (hm : m ≤ n) : Own w base e sz a m cap (xs.take (m * sz)) := by
  have hk : m * sz ≤ n * sz := Nat.mul_le_mul_right sz hm
  refine ⟨by rw [List.length_take, h.1]; omega, ?_⟩
  rcases h.2 with ⟨h1, h2, h3⟩ | ⟨g, off, cur, h1, h2, h3, h4, h5, h6, h7⟩
  · exact .inl ⟨by omega, h2, h3⟩
  · refine .inr ⟨g, off, cur, h1, h2, h3, by omega, h5, h6, ?_⟩
    rw [← h7, List.take_take, Nat.min_eq_left hk]
theorem cutAt_zero (a : Option Addr) (cap sz : Nat) : cutAt a cap 0 sz = a := by
  unfold cutAt; split
  · rfl
  · cases a with
    | none => rfl
    | some x => simp [Addr.add]
section
variable {P : Program}
theorem wpList_slice_to {w : World} {ops : Array Oper} {rest : List Oper} {o : Oper} {act : Act} {Q : Exit → Act → World → Prop} (hgd : o.guard = none) (x hi : Operand) (t : TypeId) (ho : o.op = .slice t x none (some hi) none)
    (e : TypeId) (sz : Nat) (ht : P.underlying t = some (.slice e)) (hsz : (P.info? e).map (·.size) = some sz) (a : Option Addr) (n cap : Nat) (hs : act.eval x = .slice a n cap) (k : IntKind) (l : Int) (hl : act.eval hi = .int k l) (h0 : 0 ≤ l) (h1 : l ≤ cap)
    (h : wpList P ops Q rest (act.put o.dst (.slice a l.toNat cap)) w) : wpList P ops Q (o :: rest) act w := by
  obtain ⟨i, hi', rfl⟩ := Option.map_eq_some_iff.1 hsz
  have hr := run_slice_to (P := P) w t e i ht hi' a n cap k l h0 h1
  rw [cutAt_zero] at hr
  refine wpList_plain hgd fun K hK' => ?_
  unfold Oper.wp
  simp [execOp, ho, hs, hl, hr, Result.andThen, Instr.sliceAt, run_underlying ht]
  exact hK' _ _ h
end
theorem snoc_cases {α : Type} (q : List α) : q = [] ∨ ∃ (q' : List α) (x : α), q = q' ++ [x] := by
  rcases List.eq_nil_or_concat q with h | ⟨q', x, h⟩
  · exact .inl h
  · exact .inr ⟨q', x, by rw [h, List.concat_eq_append]⟩
theorem sizeStr : (Try.prog.info? 9).map (·.size) = some 1 := by kernel_rfl

theorem strV_arr (l : List Nm) : (l.map fun x => (⟨x.toArray⟩ : ByteArray)).map Value.string = l.map strV := by rw [List.map_map]; rfl
theorem clone_any (a : Option Addr) (c : Nat) (l : List Nm) (w : World) (hr : Row w 1 a l.length (l.map strV)) (hl : l.length ≤ 1048576) :
    Calls Try.prog 51 #[.slice a l.length c] w (Ret w fun v w' => ∃ a' c', v = .slice a' l.length c' ∧ Own w' w.heap.size 9 1 a' l.length c' (l.map strV)) := by
  cases a with
  | none =>
    cases l with
    | nil => exact Calls.mono (Try.slices_Clone_string_nil 0 c w) fun e w' h => ⟨_, h.1, by rw [h.2]; exact Below.refl _ _, none, 0, rfl, by rw [h.2]; exact Own.nil _ _ _ _⟩
    | cons x l =>
      obtain ⟨b, off, hh, _⟩ := str_at hr (i := 0) rfl
      cases hh
  | some ad =>
    cases l with
    | nil =>
      refine Calls.mono (Try.slices_Clone_string_zero ad c w) fun e w' h => ?_
      obtain ⟨v, h1, h2, _, h3⟩ := h
      obtain ⟨a', c', rfl, ho, _⟩ := Own.ofOwns h2
      exact ⟨_, h1, h3, a', c', rfl, ho⟩
    | cons x l =>
      obtain ⟨b, off, hh, _⟩ := str_at hr (i := 0) rfl
      cases hh
      refine Calls.mono (Try.slices_Clone_string b off (x :: l).length c ((x :: l).map fun x => (⟨x.toArray⟩ : ByteArray)) w (by simp) (by simp at hl; simp; omega) fun j hj => ?_) fun e w' h => ?_
      · rw [List.length_map] at hj
        obtain ⟨y, hy⟩ := get_some hj
        obtain ⟨b2, off2, e2, h2⟩ := str_at hr hy
        cases e2
        rw [h2]
        have : (x :: l)[j]'hj = y := by rw [List.getElem?_eq_getElem hj] at hy; exact Option.some.inj hy
        simp only [List.getD_eq_getElem?_getD, List.getElem?_map, hy]; rfl
      · obtain ⟨v, h1, h2, _, h3⟩ := h
        obtain ⟨a', c', rfl, ho, _⟩ := Own.ofOwns h2
        rw [← List.length_map (f := fun x : Nm => (⟨x.toArray⟩ : ByteArray)), List.take_length, strV_arr] at ho
        refine ⟨_, h1, h3, a', c', rfl, ?_⟩
        rw [List.length_map] at ho; exact ho

/-- what stands between two takes -/
structure RInv (E : List (Nm × Nm)) (ks st out td : List Nm) : Prop where
  sub : ∀ x ∈ out, x ∈ ks ∧ ∃ n ∈ st, Rch (outs E) n x
  tds : ∀ x ∈ td, ∃ n ∈ st, Rch (outs E) n x
  clo : ∀ x ∈ out, ∀ y ∈ outs E x, y ∈ out ∨ y ∈ td
  beg : ∀ n ∈ st, n ∈ out ∨ n ∈ td ∨ n ∉ ks
theorem RInv.start (E : List (Nm × Nm)) (ks st : List Nm) : RInv E ks st [] st := ⟨by simp, fun x hx => ⟨x, hx, .refl _⟩, by simp, fun n hn => .inr (.inl hn)⟩
theorem RInv.done {E : List (Nm × Nm)} {ks st out : List Nm} (h : RInv E ks st out []) (hk : ∀ p ∈ E, p.1 ∈ ks ∧ p.2 ∈ ks) (x : Nm) : x ∈ out ↔ x ∈ ks ∧ ∃ n ∈ st, Rch (outs E) n x := by
  refine ⟨h.sub x, ?_⟩
  rintro ⟨hx, n, hn, hr⟩
  induction hr with
  | refl => rcases h.beg n hn with q | q | q; exact q; simp at q; exact absurd hx q
  | tail hr he ih =>
    rename_i y z
    have hy := ih (hk (y, z) (mem_outs.1 he)).1
    rcases h.clo y hy z he with q | q
    · exact q
    · simp at q
/-- nothing new is taken -/
theorem RInv.old {E : List (Nm × Nm)} {ks st out td : List Nm} {x : Nm} (h : RInv E ks st out (td ++ [x])) (hx : x ∈ out ∨ x ∉ ks) (hk : ∀ p ∈ E, p.1 ∈ ks ∧ p.2 ∈ ks) : RInv E ks st out td := by
  refine ⟨h.sub, fun y hy => h.tds y (by simp [hy]), fun y hy z hz => ?_, fun n hn => ?_⟩
  · rcases h.clo y hy z hz with q | q
    · exact .inl q
    · rw [List.mem_append, List.mem_singleton] at q
      rcases q with q | rfl
      · exact .inr q
      · rcases hx with hx | hx
        · exact .inl hx
        · exact absurd (hk (y, z) (mem_outs.1 hz)).2 hx
  · rcases h.beg n hn with q | q | q
    · exact .inl q
    · rw [List.mem_append, List.mem_singleton] at q
      rcases q with q | rfl
      · exact .inr (.inl q)
      · rcases hx with hx | hx
        · exact .inl hx
        · exact .inr (.inr hx)
    · exact .inr (.inr q)
/-- a new one is taken -/
theorem RInv.new {E : List (Nm × Nm)} {ks st out td : List Nm} {x : Nm} (h : RInv E ks st out (td ++ [x])) (hx : x ∈ ks) : RInv E ks st (addK out x) (td ++ outs E x) := by
  obtain ⟨n0, hn0, hr0⟩ := h.tds x (by simp)
  refine ⟨fun y hy => ?_, fun y hy => ?_, fun y hy z hz => ?_, fun n hn => ?_⟩
  · rcases mem_addK.1 hy with q | rfl
    · exact h.sub y q
    · exact ⟨hx, n0, hn0, hr0⟩
  · rw [List.mem_append] at hy
    rcases hy with q | q
    · exact h.tds y (by simp [q])
    · exact ⟨n0, hn0, .tail hr0 q⟩
  · rw [mem_addK, List.mem_append]
    rcases mem_addK.1 hy with q | rfl
    · rcases h.clo y q z hz with q | q
      · exact .inl (.inl q)
      · rw [List.mem_append, List.mem_singleton] at q
        rcases q with q | q
        · exact .inr (.inl q)
        · exact .inl (.inr q)
    · exact .inr (.inr hz)
  · rw [mem_addK, List.mem_append]
    rcases h.beg n hn with q | q | q
    · exact .inl (.inl q)
    · rw [List.mem_append, List.mem_singleton] at q
      rcases q with q | q
      · exact .inr (.inl (.inl q))
      · exact .inl (.inr q)
    · exact .inr (.inr q)
/-- how many pairs are still to be looked at -/
def left (E : List (Nm × Nm)) (out : List Nm) : Nat := (E.filter fun p => decide (p.1 ∉ out)).length
theorem left_nil (E : List (Nm × Nm)) : left E [] = E.length := by
  have : E.filter (fun p => decide (p.1 ∉ ([] : List Nm))) = E := List.filter_eq_self.2 fun a _ => by simp
  unfold left; rw [this]
theorem left_add {out : List Nm} {x : Nm} (hx : x ∉ out) (E : List (Nm × Nm)) : left E out = left E (addK out x) + (outs E x).length := by
  induction E with
  | nil => simp [left, outs]
  | cons p E ih =>
    unfold left outs at ih ⊢
    by_cases h1 : p.1 = x
    · have h2 : p.1 ∉ out := by rw [h1]; exact hx
      have h3 : ¬ p.1 ∉ addK out x := by rw [mem_addK]; simp [h1]
      simp only [List.filter_cons, h1, decide_true, if_true, List.map_cons, List.length_cons] at ih ⊢
      rw [h1] at h2 h3
      simp only [h2, h3, not_false_eq_true, decide_true, if_true, decide_false, if_false, List.length_cons, Bool.false_eq_true] at ih ⊢
      omega
    · by_cases h2 : p.1 ∈ out
      · have h3 : ¬ p.1 ∉ addK out x := by rw [mem_addK]; simp [h2]
        have h2' : ¬ p.1 ∉ out := by simp [h2]
        simp only [List.filter_cons, h1, h2', h3, decide_false, if_false, Bool.false_eq_true] at ih ⊢
        exact ih
      · have h3 : p.1 ∉ addK out x := by rw [mem_addK]; simp [h2, h1]
        simp only [List.filter_cons, h1, h2, h3, not_false_eq_true, decide_true, if_true, decide_false, if_false, List.length_cons, Bool.false_eq_true] at ih ⊢
        omega

theorem one_upd (ko : List Nm) (x y : Nm) : upd (fun y => if y ∈ ko then 1 else 0) x 1 y = if y ∈ addK ko x then 1 else 0 := by
  by_cases h : y = x
  · subst h; rw [upd_same, if_pos (mem_addK.2 (.inr rfl))]
  · rw [upd_other _ _ h]
    by_cases h2 : y ∈ ko
    · rw [if_pos h2, if_pos (mem_addK.2 (.inl h2))]
    · rw [if_neg h2, if_neg (by rw [mem_addK]; simp [h, h2])]

set_option maxHeartbeats 1000000 in
set_option maxRecDepth 20000 in
theorem reach_any (gb : Nat) (a : Option Addr) (c : Nat) (st : List Nm) (w : World) (B : Nat) (ks : List Nm) (E : List (Nm × Nm)) (sl : Nm → Option Addr × Nat) (hg : GRows w B gb ks E sl) (hr : Row w 1 a st.length (st.map strV))
    (hst : st.length ≤ 1048576) (hE : E.length ≤ 1048576) (hln : ∀ n ∈ st, n.length ≤ maxLen) (hlk : ∀ n ∈ ks, n.length ≤ maxLen) :
    Calls Try.prog 29 #[.map (some gb), .slice a st.length c] w (Ret w fun v w' => ∃ ob ko, v = .map (some ob) ∧ w.heap.size ≤ ob ∧ IM w' ob ko (fun x => if x ∈ ko then 1 else 0) ∧ ko.length ≤ 2097152 ∧ (∀ x, x ∈ ko ↔ x ∈ ks ∧ ∃ n ∈ st, Rch (outs E) n x)) := by
  have HG := Lib.hid hg
  have HR := Lib.hid hr
  have Hln := Lib.hid hln
  have Hlk := Lib.hid hlk
  have hmm := @run_makeMap Try.prog
  have hcl := clone_any a c st (w.alloc (.map #[] 0)) (hr.ext (below_a1 _ _)) hst
  clear hg hr hln hlk
  go_enter Try.func29, Try.ntmps29
  go_wp2_with fail
  refine hcl.mono ?_
  clear hcl
  rintro e w1 ⟨_, rfl, hb1, a1, c1, rfl, hown⟩
  have hb1' : Below w.heap.size w w1 := (below_a1 w _).trans (hb1.mono (by simp))
  have HI1 : Hid (IM w1 w.heap.size [] (fun x => if x ∈ ([] : List Nm) then 1 else 0)) := Lib.hid (IM.ext (IM.im_f (fun x => by simp) (SMap.made w (.int .i64 0))) hb1)
  have HO1 : Hid (Own w1 (w.heap.size + 1) 9 1 a1 st.length c1 (st.map strV)) := Lib.hid (hown.mono (by simp))
  have HB1 := Lib.hid hb1'
  have HP1 : Hid (RInv E ks st [] st ∧ ([] : List Nm).length + (st.length + left E []) ≤ st.length + E.length) := Lib.hid ⟨RInv.start E ks st, by rw [left_nil]; simp⟩
  have Hln0 : Hid (∀ n ∈ st, n.length ≤ maxLen) := Hln
  clear hb1 hb1' hown Hln
  go_wp2_with fail
  go_loopg [6] (st.length + left E []) (fun m todo wq => ∃ (ko q : List Nm) (a : Option Addr) (c : Nat), todo = .slice a q.length c ∧ Hid (m = q.length + left E ko ∧ ko.length + m ≤ st.length + E.length) ∧ Hid (RInv E ks st ko q) ∧ Hid (Own wq (w.heap.size + 1) 9 1 a q.length c (q.map strV)) ∧ Hid (IM wq w.heap.size ko (fun x => if x ∈ ko then 1 else 0)) ∧ Hid (Below w.heap.size w wq) ∧ Hid (∀ n ∈ q, n.length ≤ maxLen))
  case atStart => exact ⟨[], st, a1, c1, rfl, Lib.hid ⟨rfl, HP1.out.2⟩, Lib.hid HP1.out.1, HO1, HI1, HB1, Hln0⟩
  case round =>
    clear HI1 HO1 HB1 HP1 Hln0
    obtain ⟨ko, q, a2, c2, rfl, hm, hinv, hown, hI, hb, hqn⟩ := hrel
    rcases snoc_cases q with rfl | ⟨q, x, rfl⟩
    · go_wp2
      go_ret
      exact ⟨_, rfl, hb.out, w.heap.size, ko, rfl, Nat.le_refl _, hI.out, by have := hm.out.2; omega, hinv.out.done HG.out.keys⟩
    · have hlq : (q ++ [x]).length = q.length + 1 := by simp
      have hc2 : q.length + 1 ≤ c2 := by have := hown.out.le; rw [hlq] at this; exact this
      obtain ⟨bq, oq, rfl, hx0⟩ := str_at hown.out.row (i := q.length) (x := x) (by simp)
      have Hx : Hid (x.length ≤ maxLen) := Lib.hid (hqn.out x (by simp))
      have Hqn : Hid (∀ n ∈ q, n.length ≤ maxLen) := Lib.hid fun n hn => hqn.out n (by simp [hn])
      have Hm : Hid (gk = q.length + 1 + left E ko) := Lib.hid (by rw [← hlq]; exact hm.out.1)
      have Hm2 := hm
      have hql : q.length + 1 ≤ 2097152 := by have h1 := Hm.out; have h2 := hm.out.2; omega
      have Hot : Hid (Own wr (w.heap.size + 1) 9 1 (some ⟨bq, oq, none⟩) q.length c2 (q.map strV)) := Lib.hid (by
        have h := hown.out.take (m := q.length) (by rw [hlq]; omega)
        simpa using h)
      have hwr := hb.out.size
      have hobw := hI.out.lt
      have HGr : Hid (GRows wr B gb ks E sl) := Lib.hid (HG.out.ext (hb.out))
      rw [hlq]
      clear hlq hown hqn hm
      have tok1 : True := trivial
      by_cases hk : x ∈ ks
      · have Hk := Lib.hid hk
        clear hk
        by_cases ho : x ∈ ko
        · -- KNOWN
          have Ho := Lib.hid ho
          clear ho
          go_wp2_with (first
            | ((with_reducible show wpList _ _ _ _ _ _); refine wpList_slice_to (o := ⟨some 26, _, _, _, _, _⟩) rfl _ _ _ rfl 9 1 Try.underlying28 sizeStr _ _ _ rfl _ (q.length : Int) (by go_num) (by omega) (by omega) ?_; simp only [Int.toNat_natCast])
            | (at_lookup; have _t := tok1; refine wpList_lookok rfl _ _ _ _ rfl undG (zeroStrs _) (by exact HGr.out.map) Hx.out rfl rfl (q := true) (by have := Hk.out; simp [this]) ?_; clear tok1)
            | (at_lookup; refine wpList_lookI rfl _ _ rfl (by exact hI.out) Hx.out rfl rfl 1 (by have := Ho.out; simp [this]) ?_))
          go_roundg (q.length + left E ko)
          case rel => exact ⟨ko, q, _, c2, rfl, Lib.hid ⟨rfl, by have := Hm.out; have := Hm2.out.2; omega⟩, Lib.hid (hinv.out.old (.inl Ho.out) HG.out.keys), Hot, hI, hb, Hqn⟩
          case measure => have := Hm.out; omega
        · -- NEW
          have Hl1 : Hid (left E ko = left E (addK ko x) + (outs E x).length) := Lib.hid (left_add ho E)
          have hl1 : q.length + (outs E x).length ≤ 2097152 := by have := Hl1.out; have h1 := Hm.out; have h2 := Hm2.out.2; omega
          have hkl : ko.length ≤ 2097152 := by have h2 := Hm2.out.2; omega
          have Ho := Lib.hid ho
          clear ho
          go_wp2_with (first
            | ((with_reducible show wpList _ _ _ _ _ _); refine wpList_slice_to (o := ⟨some 26, _, _, _, _, _⟩) rfl _ _ _ rfl 9 1 Try.underlying28 sizeStr _ _ _ rfl _ (q.length : Int) (by go_num) (by omega) (by omega) ?_; simp only [Int.toNat_natCast])
            | (at_lookup; have _t := tok1; refine wpList_lookok rfl _ _ _ _ rfl undG (zeroStrs _) (by exact HGr.out.map) Hx.out rfl rfl (q := true) (by have := Hk.out; simp [this]) ?_; clear tok1)
            | (at_lookup; refine wpList_lookI rfl _ _ rfl (by exact hI.out) Hx.out rfl rfl 0 (by have := Ho.out; simp [this]) ?_)
            | (at_mapUpdate; refine wpList_storeI rfl _ _ _ rfl (by exact hI.out) Hx.out (by unfold maxLen; omega) rfl rfl 1 rfl ?_; intro w3 hs3 hg3 hz3; have Hs3 : Hid (IM w3 w.heap.size (addK ko x) (fun y => if y ∈ addK ko x then 1 else 0)) := Lib.hid (IM.im_f (one_upd ko x) hs3); have Hot3 := Lib.hid (Hot.out.kept hg3 (.inr (by intro e; have := Hot.out.base e; omega))); have Hb3 := Lib.hid (hb.out.grown hg3 hwr (fun j hj => by cases hj; exact Nat.le_refl _)); have Hr3 : Hid (Row w3 1 (sl x).1 (outs E x).length ((outs E x).map strV)) := Lib.hid (by have := HG.out; exact ((this.own x).row.ext Hb3.out)); have Hz3 : Hid (w3.heap.size = wr.heap.size) := Lib.hid hz3; clear hs3 hg3 hz3)
            | (at_builtin; refine wpList_append_Own rfl _ _ 28 rfl (w.heap.size + 1) 9 _ 1 16 Try.underlying28 infoStr rfl (by decide) _ _ _ _ rfl (by exact Hot3.out) _ _ _ ((outs E x).map strV) rfl Hr3.out (by intro u hu; obtain ⟨y, _, rfl⟩ := List.mem_map.1 hu; rfl) (by unfold maxLen; omega) (by omega) (by have := Hz3.out; omega) ?_; intro a4 c4 w4 hown4 hg4 hbk4))
          have Hrb := Hot3.out.rowBase (Nat.le_refl _)
          go_roundg (q.length + (outs E x).length + left E (addK ko x))
          case rel =>
            refine ⟨addK ko x, q ++ outs E x, a4, c4, by rw [List.length_append], Lib.hid ⟨by rw [List.length_append], ?_⟩, Lib.hid (hinv.out.new Hk.out), Lib.hid (by rw [List.length_append, List.map_append]; exact hown4), Lib.hid (Hs3.out.grown hg4 (fun e => by have := Hrb _ e.symm; omega)), Lib.hid (Hb3.out.grown hg4 (by have := Hz3.out; omega) (fun j hj => by have := Hrb j hj; omega)), Lib.hid fun n hn => ?_⟩
            · rw [addK_len, if_neg Ho.out]; have := Hm.out; have := Hm2.out.2; have := Hl1.out; omega
            · rcases List.mem_append.1 hn with h | h
              · exact Hqn.out n h
              · exact Hlk.out n (HG.out.keys (x, n) (mem_outs.1 h)).2
          case measure => have := Hm.out; have := Hl1.out; omega
      · have Hk := Lib.hid hk
        have Ho : Hid (x ∉ ko) := Lib.hid fun h => hk (hinv.out.sub x h).1
        clear hk
        go_wp2_with (first
          | ((with_reducible show wpList _ _ _ _ _ _); refine wpList_slice_to (o := ⟨some 26, _, _, _, _, _⟩) rfl _ _ _ rfl 9 1 Try.underlying28 sizeStr _ _ _ rfl _ (q.length : Int) (by go_num) (by omega) (by omega) ?_; simp only [Int.toNat_natCast])
          | (at_lookup; have _t := tok1; refine wpList_lookok rfl _ _ _ _ rfl undG (zeroStrs _) (by exact HGr.out.map) Hx.out rfl rfl (q := false) (by have := Hk.out; simp [this]) ?_; clear tok1)
          | (at_lookup; refine wpList_lookI rfl _ _ rfl (by exact hI.out) Hx.out rfl rfl 0 (by have := Ho.out; simp [this]) ?_))
        go_roundg (q.length + left E ko)
        case rel => exact ⟨ko, q, _, c2, rfl, Lib.hid ⟨rfl, by have := Hm.out; have := Hm2.out.2; omega⟩, Lib.hid (hinv.out.old (.inr Hk.out) HG.out.keys), Hot, hI, hb, Hqn⟩
        case measure => have := Hm.out; omega
end Go.Proofs.Ytnepamdmjppglaa
