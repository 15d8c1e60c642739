/- Whether two values are one: walked. -/
import Derived.Test.YtahiopjplfnlmaaGreatDoorRgt3
namespace Go.Proofs.YtahiopjplfnlmaaGreatDoor
open Go Go.RowKit

set_option maxHeartbeats 400000 in
theorem equal_any (a b : Option Addr) (ca cb : Nat) (la lb : List (List UInt8)) (w : World) (ha : Row w 1 a la.length (la.map strV)) (hb : Row w 1 b lb.length (lb.map strV)) (hl : la.length ≤ 1099511627776) :
    Calls Tryz.prog 27 #[.slice a la.length ca, .slice b lb.length cb] w (Ret w (IsB (la = lb))) := by
  have HA := Lib.hid ha
  have HB := Lib.hid hb
  clear ha hb
  go_enter Tryz.func27, Tryz.ntmps27
  by_cases hn : la.length = lb.length
  · have hn2 : ((la.length : Int) != lb.length) = false := by simp [hn]
    go_wp2
    go_loopw [4, 13] (fun _ i wq => ∃ k : Nat, k ≤ la.length ∧ i = .int .i64 k ∧ Hid (Below w.heap.size w wq ∧ ∀ j, j < k → la[j]? = lb[j]?)) (fun _ i _ => la.length - (intOf i).toNat)
    case atStart => exact ⟨0, Nat.zero_le _, rfl, Below.refl _ _, fun j h => by omega⟩
    case round =>
      obtain ⟨k, hk, rfl, hq⟩ := hrel
      by_cases hlt : k < la.length
      · obtain ⟨x, hx⟩ := get_some hlt
        obtain ⟨y, hy⟩ := get_some (l := lb) (i := k) (by omega)
        obtain ⟨ab, ao, rfl, v1⟩ := (HA.out.ext hq.out.1).elem1 hx
        obtain ⟨bb, bo, rfl, v2⟩ := (HB.out.ext hq.out.1).elem1 hy
        have Hx := Lib.hid hx
        have Hy := Lib.hid hy
        have hkl : (k : Int) < la.length := by omega
        have hkl2 : (k : Int) < lb.length := by omega
        have u1 : wr.cell? ⟨ab, ao + k, none⟩ = some (.string ⟨x.toArray⟩) := v1
        have u2 : wr.cell? ⟨bb, bo + k, none⟩ = some (.string ⟨y.toArray⟩) := v2
        clear hx hy v1 v2
        by_cases hxy : x = y
        · have hne : (x == y) = true := by simpa using hxy
          have Hxy := Lib.hid hxy
          clear hxy
          go_wp2_with fail
          go_quiet (fail)
          go_wp2
          go_roundw
          case rel =>
            refine ⟨k + 1, by omega, by go_num, below_drew hq.out.1 _, fun j hj => ?_⟩
            rcases Nat.lt_or_ge j k with h | h
            · exact hq.out.2 j h
            · obtain rfl : j = k := by omega
              rw [Hx.out, Hy.out, Hxy.out]
          case measure => simp [intOf]; omega
        · have hne : (x == y) = false := by simpa using hxy
          have Hxy := Lib.hid hxy
          clear hxy
          go_wp2_with fail
          go_quiet (fail)
          go_wp2
          go_ret
          exact ⟨_, rfl, below_drew hq.out.1 _, isB_false fun h => Hxy.out (by have := Hx.out; rw [h, Hy.out] at this; simpa using this.symm)⟩
      · obtain rfl : k = la.length := by omega
        go_wp2
        go_ret
        exact ⟨_, rfl, hq.out.1, isB_true (List.ext_getElem? fun i => by rcases Nat.lt_or_ge i la.length with h | h; exact hq.out.2 i h; rw [List.getElem?_eq_none h, List.getElem?_eq_none (by omega)])⟩
  · have hn2 : ((la.length : Int) != lb.length) = true := by simp; omega
    go_wp2
    go_ret
    exact ⟨_, rfl, Below.refl _ _, isB_false fun h => hn (by rw [h])⟩

set_option maxHeartbeats 1000000 in
theorem equalfunc_any (a b : Option Addr) (ca cb : Nat) (l m : List VD) (w : World) (ha : Row w 6 a l.length (l.flatMap VD.cells)) (hb : Row w 6 b m.length (m.flatMap VD.cells)) (hl : l.length ≤ 1048576)
    (hc : ∀ W (j : Nat) x y, Below w.heap.size w W → l[j]? = some x → m[j]? = some y → Calls Tryz.prog 18 #[x.val, y.val] W (Ret W (IsB (x.v = y.v)))) :
    Calls Tryz.prog 28 #[.slice a l.length ca, .slice b m.length cb, .func (.func 18) #[] #[]] w (Ret w (IsB (l.map VD.v = m.map VD.v))) := by
  have HA := Lib.hid ha
  have HB := Lib.hid hb
  have HC := Lib.hid hc
  clear ha hb hc
  go_enter Tryz.func28, Tryz.ntmps28
  by_cases hn : l.length = m.length
  · have hn2 : ((l.length : Int) != m.length) = false := by simp [hn]
    have Hn := Lib.hid hn
    clear hn
    go_wp2
    go_loopw [6, 17] (fun _ i wq => ∃ k : Nat, k ≤ l.length ∧ i = .int .i64 k ∧ Hid (Below w.heap.size w wq ∧ ∀ j, j < k → (l.map VD.v)[j]? = (m.map VD.v)[j]?)) (fun _ i _ => l.length - (intOf i).toNat)
    case atStart => exact ⟨0, Nat.zero_le _, rfl, Lib.hid ⟨Below.refl _ _, fun j h => by omega⟩⟩
    case round =>
      obtain ⟨k, hk, rfl, hq⟩ := hrel
      by_cases hlt : k < l.length
      · obtain ⟨x, hx⟩ := get_some hlt
        obtain ⟨y, hy⟩ := get_some (l := m) (i := k) (by have := Hn.out; omega)
        have hwl := hq.out.1.size
        obtain ⟨ab, ao, rfl, v0, v1, v2, v3, v4, v5⟩ := val_at (HA.out.ext hq.out.1) hx
        obtain ⟨bb, bo, rfl, u0, u1, u2, u3, u4, u5⟩ := val_at (HB.out.ext hq.out.1) hy
        have hbl : bb < wr.heap.size := cell_lt u0
        have Hx := Lib.hid hx
        have Hy := Lib.hid hy
        have hkl : (k : Int) < l.length := by omega
        have hkl2 : (k : Int) < m.length := by have := Hn.out; omega
        unfold strV at v3 u3
        have hcx := fun W hW => HC.out W k x y hW hx hy
        rw [VD.val6, VD.val6] at hcx
        have HCX := Lib.hid hcx
        clear hx hy hcx
        go_wp2_with fail
        refine (HCX.out _ ((hq.out.1.alloc hwl _).alloc (by simp; omega) _)).mono ?_
        rintro e W2 ⟨v, rfl, hb2, bo, rfl, hbo⟩
        have HB2 : Hid (Below w.heap.size w W2) := Lib.hid ((((hq.out.1.alloc hwl _).alloc (by simp; omega) _)).trans (hb2.mono (by simp; omega)))
        have HBO := Lib.hid hbo
        clear hb2 hbo HCX v0 v1 v2 v3 v4 v5 u0 u1 u2 u3 u4 u5
        cases bo with
        | true =>
          have Hxy : Hid (x.v = y.v) := Lib.hid (HBO.out.1 rfl)
          go_wp2
          go_roundw
          case rel =>
            refine ⟨k + 1, by omega, by go_num, Lib.hid ⟨HB2.out, fun j hj => ?_⟩⟩
            rcases Nat.lt_or_ge j k with h | h
            · exact hq.out.2 j h
            · obtain rfl : j = k := by omega
              rw [List.getElem?_map, List.getElem?_map, Hx.out, Hy.out, Option.map_some, Option.map_some, Hxy.out]
          case measure => simp [intOf]; omega
        | false =>
          have Hxy : Hid (x.v ≠ y.v) := Lib.hid (fun h => by have := HBO.out.2 h; cases this)
          go_wp2
          go_ret
          exact ⟨_, rfl, HB2.out, isB_false fun h => Hxy.out (by
            have h2 := congrArg (fun z => z[k]?) h
            simp only [List.getElem?_map, Hx.out, Hy.out, Option.map_some] at h2
            exact Option.some.inj h2)⟩
      · obtain rfl : k = l.length := by omega
        go_wp2
        go_ret
        exact ⟨_, rfl, hq.out.1, isB_true (List.ext_getElem? fun i => by rcases Nat.lt_or_ge i l.length with h | h; exact hq.out.2 i h; rw [List.getElem?_eq_none (by simpa using h), List.getElem?_eq_none (by have := Hn.out; simp; omega)])⟩
  · have hn2 : ((l.length : Int) != m.length) = true := by simp; omega
    go_wp2
    go_ret
    exact ⟨_, rfl, Below.refl _ _, isB_false fun h => hn (by have := congrArg List.length h; simpa using this)⟩

structure SB (w W : World) (d e : VD) : Prop where
  one : Blk W w.heap.size #[.int .i64 d.sort, .bool d.on, .int .i64 d.n, .string ⟨d.text.toArray⟩, .slice d.a d.list.length d.c, .slice d.ka d.keys.length d.kc] 34
  two : Blk W (w.heap.size + 1) #[.int .i64 e.sort, .bool e.on, .int .i64 e.n, .string ⟨e.text.toArray⟩, .slice e.a e.list.length e.c, .slice e.ka e.keys.length e.kc] 34
  below : Below w.heap.size w W
theorem SB.ext {w W W' : World} {d e : VD} (h : SB w W d e) (hb : Below W.heap.size W W') : SB w W' d e := ⟨h.one.ext hb, h.two.ext hb, h.below.trans (hb.mono h.below.size)⟩
theorem v_same (d e : VD) : d.v = e.v ↔ d.sort = e.sort ∧ d.on = e.on ∧ d.n = e.n ∧ d.text = e.text ∧ d.keys = e.keys ∧ d.list.map VD.v = e.list.map VD.v := by
  rw [VD.v_eq, VD.v_eq, V.mk.injEq]
  constructor
  · rintro ⟨a, b, c, d, e, f⟩; exact ⟨a, b, c, d, f, e⟩
  · rintro ⟨a, b, c, d, e, f⟩; exact ⟨a, b, c, d, f, e⟩
set_option maxHeartbeats 4000000 in
theorem same_walk (d e : VD) (w : World) (hd : ValAt w (fun _ => True) d) (he : ValAt w (fun _ => True) e) (hs : sizeV d.v ≤ 1048576)
    (hc : ∀ W (j : Nat) x y, Below w.heap.size w W → d.list[j]? = some x → e.list[j]? = some y → Calls Tryz.prog 18 #[x.val, y.val] W (Ret W (IsB (x.v = y.v)))) :
    Calls Tryz.prog 18 #[d.val, e.val] w (Ret w (IsB (d.v = e.v))) := by
  obtain ⟨W0, hW0⟩ : ∃ W0, W0 = (w.alloc (.cells #[.int .i64 d.sort, .bool d.on, .int .i64 d.n, .string ⟨d.text.toArray⟩, .slice d.a d.list.length d.c, .slice d.ka d.keys.length d.kc] 34)).alloc (.cells #[.int .i64 e.sort, .bool e.on, .int .i64 e.n, .string ⟨e.text.toArray⟩, .slice e.a e.list.length e.c, .slice e.ka e.keys.length e.kc] 34) := ⟨_, rfl⟩
  have S0 : Hid (SB w W0 d e) := Lib.hid (by rw [hW0]; exact ⟨(Blk.new rfl).alloc _, Blk.new (by simp), (below_a1 w _).alloc (by simp) _⟩)
  have hsz : sizeV (.mk d.sort d.on d.n d.text (d.list.map VD.v) d.keys) ≤ 1048576 := by rw [← VD.v_eq]; exact hs
  obtain ⟨s1, s2, s3, s4, s5⟩ := size_parts hsz
  rw [List.length_map] at s3
  clear s4 s5 hsz hs
  have HC := Lib.hid hc
  have HD := Lib.hid hd
  have HE := Lib.hid he
  rw [VD.val6, VD.val6]
  clear hd he hc
  obtain ⟨c0, c1, c2, c3, c4, c5⟩ := S0.out.one.six
  obtain ⟨e0, e1, e2, e3, e4, e5⟩ := S0.out.two.six
  go_enter Tryz.func18, Tryz.ntmps18
  go_upto_region 1 with (fail)
  rw [← hW0]
  clear hW0
  have hp := v_same d e
  generalize hP : (d.v = e.v) = P at *
  clear hP
  by_cases a1 : d.sort = e.sort
  case neg =>
    have a1' : (d.sort == e.sort) = false := by simpa using a1
    have Hn : Hid (¬ P) := Lib.hid (fun h => a1 (hp.1 h).1)
    clear hp a1
    go_wp2
    go_ret
    exact ⟨_, rfl, S0.out.below, isB_false Hn.out⟩
  by_cases a2 : d.on = e.on
  case neg =>
    have a2' : (d.on == e.on) = false := by simpa using a2
    have Hn : Hid (¬ P) := Lib.hid (fun h => a2 (hp.1 h).2.1)
    clear hp a2
    go_wp2
    go_ret
    exact ⟨_, rfl, S0.out.below, isB_false Hn.out⟩
  by_cases a3 : d.n = e.n
  case neg =>
    have a3' : (d.n == e.n) = false := by simpa using a3
    have Hn : Hid (¬ P) := Lib.hid (fun h => a3 (hp.1 h).2.2.1)
    clear hp a3
    go_wp2
    go_ret
    exact ⟨_, rfl, S0.out.below, isB_false Hn.out⟩
  by_cases a4 : d.text = e.text
  case neg =>
    have a4' : (d.text == e.text) = false := by simpa using a4
    have Hn : Hid (¬ P) := Lib.hid (fun h => a4 (hp.1 h).2.2.2.1)
    clear hp a4
    go_wp2
    go_ret
    exact ⟨_, rfl, S0.out.below, isB_false Hn.out⟩
  have hp2 : P ↔ d.keys = e.keys ∧ d.list.map VD.v = e.list.map VD.v := by rw [hp]; simp [a1, a2, a3, a4]
  have a4' : (d.text == e.text) = true := by simpa using a4
  have HP := Lib.hid hp2
  have A4 := Lib.hid a4
  clear hp hp2 a4
  have hk := equal_any d.ka e.ka d.kc e.kc d.keys e.keys W0 (HD.out.ext S0.out.below).krow (HE.out.ext S0.out.below).krow (by omega)
  have HK := Lib.hid hk
  clear hk
  go_wp2_with fail
  refine HK.out.mono ?_
  rintro r W1 ⟨v, rfl, hb, bo, rfl, hbo⟩
  have S1 := Lib.hid (S0.out.ext hb)
  clear c0 c1 c2 c3 c4 c5 e0 e1 e2 e3 e4 e5 hb HK
  obtain ⟨c0, c1, c2, c3, c4, c5⟩ := S1.out.one.six
  obtain ⟨e0, e1, e2, e3, e4, e5⟩ := S1.out.two.six
  cases bo with
  | false =>
    have Hn : Hid (¬ P) := Lib.hid (fun h => by have := hbo.2 (HP.out.1 h).1; cases this)
    clear hbo
    go_wp2
    go_ret
    exact ⟨_, rfl, S1.out.below, isB_false Hn.out⟩
  | true =>
    have Hk : Hid (d.keys = e.keys) := Lib.hid (hbo.1 rfl)
    clear hbo
    have hf := equalfunc_any d.a e.a d.c e.c d.list e.list W1 (HD.out.ext S1.out.below).row (HE.out.ext S1.out.below).row s3 (fun W j x y hb => HC.out W j x y (S1.out.ext hb).below)
    have HF := Lib.hid hf
    clear hf
    go_wp2_with fail
    refine HF.out.mono ?_
    rintro r W2 ⟨v, rfl, hb, bo, rfl, hbo⟩
    have S2 := Lib.hid (S1.out.ext hb)
    have HBO : Hid (bo = true ↔ P) := Lib.hid (by rw [hbo, HP.out]; simp [Hk.out])
    clear c0 c1 c2 c3 c4 c5 e0 e1 e2 e3 e4 e5 hb HF hbo
    go_wp2
    go_ret
    exact ⟨_, rfl, S2.out.below, bo, rfl, HBO.out⟩
theorem same_any : ∀ (d e : VD) (w : World), ValAt w (fun _ => True) d → ValAt w (fun _ => True) e → sizeV d.v ≤ 1048576 → Calls Tryz.prog 18 #[d.val, e.val] w (Ret w (IsB (d.v = e.v))) := by
  intro d
  induction d using VD.ind with
  | h s o n t a c l ka kc ks ih =>
    intro e w hd he hs
    refine same_walk _ e w hd he hs fun W j x y hb hx hy => ?_
    have hxm : x ∈ l := List.mem_of_getElem? hx
    have hsz := (size_parts (by rw [VD.v_eq] at hs; exact hs)).2.2.2.2
    exact ih x hxm y W ((hd.kid x hxm).ext hb) ((he.kid y (List.mem_of_getElem? hy)).ext hb) (hsz x.v (List.mem_map_of_mem hxm))
end Go.Proofs.YtahiopjplfnlmaaGreatDoor
