/- Names, and lists of names, compared. -/
import Derived.Test.YtnepamdmjppglaaIdx
namespace Go.Proofs.Ytnepamdmjppglaa
open Go Go.RowKit Go.Sort

def cmpN (x y : Nm) : Int := if x < y then -1 else if y < x then 1 else 0
def cmpL : List Nm → List Nm → Int
  | [], [] => 0
  | [], _ :: _ => -1
  | _ :: _, [] => 1
  | x :: a, y :: b => if cmpN x y ≠ 0 then cmpN x y else cmpL a b

theorem isnan_any (x : ByteArray) (w : World) : Calls Try.prog 84 #[.string x] w fun e w' => e = .returned (.bool false) ∧ w' = w := by
  go_enter Try.func84, Try.ntmps84
  go_wp2
  go_ret
  first | exact ⟨rfl, rfl⟩ | (refine ⟨?_, rfl⟩; simp)

set_option maxHeartbeats 400000 in
theorem cmpN_any (x y : Nm) (w : World) : Calls Try.prog 60 #[.string ⟨x.toArray⟩, .string ⟨y.toArray⟩] w fun e w' => e = .returned (.int .i64 (cmpN x y)) ∧ w' = w := by
  have h1 := isnan_any ⟨x.toArray⟩ w
  have h2 := isnan_any ⟨y.toArray⟩ w
  go_enter Try.func60, Try.ntmps60
  go_wp2_with fail
  refine h1.mono ?_
  rintro e w' ⟨rfl, rfl⟩
  go_wp2_with fail
  refine h2.mono ?_
  rintro e w' ⟨rfl, rfl⟩
  clear h1 h2
  rcases Classical.em (x < y) with hlt | hlt
  · have f1 : Op.bytesLess x y = true := by rw [bytesLess_eq]; simpa using hlt
    have e : cmpN x y = -1 := by simp [cmpN, hlt]
    go_wp2
    go_ret
    exact ⟨by rw [e]; rfl, rfl⟩
  · have f1 : Op.bytesLess x y = false := by rw [bytesLess_eq]; simpa using hlt
    rcases Classical.em (x = y) with heq | heq
    · subst heq
      have f2 : (x == x) = true := by simp
      have e : cmpN x x = 0 := by simp [cmpN, hlt]
      go_wp2
      go_ret
      exact ⟨by rw [e]; rfl, rfl⟩
    · have f2 : (x == y) = false := by simpa using heq
      have hgt : y < x := (nmOrd.total _ _ heq).resolve_left hlt
      have e : cmpN x y = 1 := by simp [cmpN, hlt, hgt]
      go_wp2
      go_ret
      exact ⟨by rw [e]; rfl, rfl⟩

set_option maxHeartbeats 1000000 in
theorem compare_any (a b : Option Addr) (ca cb : Nat) (l m : List Nm) (w : World) (hl : Row w 1 a l.length (l.map strV)) (hm : Row w 1 b m.length (m.map strV)) (h1 : l.length ≤ 2097152) (_ : m.length ≤ 2097152) :
    Calls Try.prog 42 #[.slice a l.length ca, .slice b m.length cb] w fun e w' => e = .returned (.int .i64 (cmpL l m)) ∧ w = w' := by
  have HL := Lib.hid hl
  have HM := Lib.hid hm
  clear hl hm
  go_enter Try.func42, Try.ntmps42
  go_wp2
  go_loop [11] (fun i => ∃ k : Nat, k ≤ l.length ∧ k ≤ m.length ∧ i = .int .i64 k ∧ Hid (cmpL l m = cmpL (l.drop k) (m.drop k))) (fun i => l.length - (intOf i).toNat)
  case atStart => exact ⟨0, Nat.zero_le _, Nat.zero_le _, rfl, Lib.hid rfl⟩
  case round =>
    obtain ⟨k, hk, hk2, rfl, hc⟩ := hrel
    by_cases hlt : k < l.length
    · obtain ⟨x, hx⟩ := get_some hlt
      obtain ⟨bl, ol, rfl, c1⟩ := str_at HL.out hx
      have hdl : l.drop k = x :: l.drop (k + 1) := by rw [List.drop_eq_getElem_cons hlt]; rw [List.getElem?_eq_getElem hlt] at hx; cases hx; rfl
      by_cases hlm : k < m.length
      · obtain ⟨y, hy⟩ := get_some hlm
        obtain ⟨bm, om, rfl, c2⟩ := str_at HM.out hy
        have hdm : m.drop k = y :: m.drop (k + 1) := by rw [List.drop_eq_getElem_cons hlm]; rw [List.getElem?_eq_getElem hlm] at hy; cases hy; rfl
        have hcc := cmpN_any x y w
        rw [hdl, hdm] at hc
        have Hc := hc
        clear hc hdl hdm hx hy
        by_cases hz : cmpN x y = 0
        · have fz : (cmpN x y == 0) = true := by simpa using hz
          have Hz := Lib.hid hz
          clear hz
          go_wp2_with fail
          refine hcc.mono ?_
          rintro e w' ⟨rfl, rfl⟩
          go_wp2
          go_round
          case rel => exact ⟨k + 1, by omega, by omega, by go_num, Lib.hid (by rw [Hc.out, cmpL, if_neg (by simp [Hz.out])])⟩
          case measure => simp [intOf]; omega
        · have fz : (cmpN x y == 0) = false := by simpa using hz
          have Hz := Lib.hid hz
          clear hz
          go_wp2_with fail
          refine hcc.mono ?_
          rintro e w' ⟨rfl, rfl⟩
          go_wp2
          go_ret
          exact ⟨by rw [Hc.out, cmpL, if_pos Hz.out]; rfl, rfl⟩
      · obtain rfl : k = m.length := by omega
        have Hc : Hid (cmpL l m = 1) := Lib.hid (by rw [hc.out, hdl, List.drop_length]; rfl)
        clear hc hdl hx
        go_wp2
        go_ret
        exact ⟨by rw [Hc.out]; rfl, rfl⟩
    · obtain rfl : k = l.length := by omega
      by_cases hlm : l.length < m.length
      · obtain ⟨y, hy⟩ := get_some hlm
        have hdm : m.drop l.length = y :: m.drop (l.length + 1) := by rw [List.drop_eq_getElem_cons hlm]; rw [List.getElem?_eq_getElem hlm] at hy; cases hy; rfl
        have Hc : Hid (cmpL l m = -1) := Lib.hid (by rw [hc.out, hdm, List.drop_length]; rfl)
        clear hc hdm hy
        go_wp2
        go_ret
        exact ⟨by rw [Hc.out]; rfl, rfl⟩
      · have he : m.length = l.length := by omega
        have Hc : Hid (cmpL l m = 0) := Lib.hid (by rw [hc.out, List.drop_length, ← he, List.drop_length]; rfl)
        clear hc he
        go_wp2
        go_ret
        exact ⟨by rw [Hc.out]; rfl, rfl⟩

theorem cmpN_neg {x y : Nm} : cmpN x y < 0 ↔ x < y := by
  unfold cmpN; split
  · simp [*]
  · split
    · simp [*]
    · simp [*]
theorem cmpN_zero {x y : Nm} : cmpN x y = 0 ↔ x = y := by
  unfold cmpN; split
  · rename_i h
    constructor
    · intro e; cases e
    · rintro rfl; exact absurd h (List.lt_irrefl x)
  · rename_i h; split
    · rename_i h2
      constructor
      · intro e; cases e
      · rintro rfl; exact absurd h2 (List.lt_irrefl x)
    · rename_i h2
      refine ⟨fun _ => ?_, fun _ => rfl⟩
      rcases Classical.em (x = y) with q | q
      · exact q
      · rcases nmOrd.total _ _ q with r | r
        · exact absurd r h
        · exact absurd r h2
theorem cmpL_self : ∀ a : List Nm, cmpL a a = 0
  | [] => rfl
  | x :: a => by rw [cmpL, if_neg (by simp [cmpN_zero]), cmpL_self a]
theorem cmpL_lt_cons {x y : Nm} {a b : List Nm} : cmpL (x :: a) (y :: b) < 0 ↔ x < y ∨ x = y ∧ cmpL a b < 0 := by
  rw [cmpL]
  by_cases h : cmpN x y = 0
  · rw [if_neg (by simp [h])]
    have := cmpN_zero.1 h; subst this
    simp [List.lt_irrefl]
  · rw [if_pos h, cmpN_neg]
    have : x ≠ y := fun e => h (cmpN_zero.2 e)
    simp [this]
theorem cmpL_nil_lt (x : Nm) (a : List Nm) : cmpL [] (x :: a) < 0 := by show (-1 : Int) < 0; decide
theorem cmpL_gt_nil (x : Nm) (a : List Nm) : ¬ cmpL (x :: a) [] < 0 := by show ¬ (1 : Int) < 0; decide
/-- less, as a strict order that leaves no two apart -/
theorem cmpL_ord : Ord (fun a b : List Nm => cmpL a b < 0) where
  irrefl := fun a h => by rw [cmpL_self] at h; exact absurd h (by decide)
  trans := by
    intro a
    induction a with
    | nil =>
      intro b c h1 h2
      cases c with
      | nil => cases b with
        | nil => exact h1
        | cons y b => exact absurd h2 (cmpL_gt_nil _ _)
      | cons z c => exact cmpL_nil_lt _ _
    | cons x a ih =>
      intro b c h1 h2
      cases b with
      | nil => exact absurd h1 (cmpL_gt_nil _ _)
      | cons y b =>
        cases c with
        | nil => exact absurd h2 (cmpL_gt_nil _ _)
        | cons z c =>
          rw [cmpL_lt_cons] at h1 h2 ⊢
          rcases h1 with h1 | ⟨rfl, h1⟩
          · rcases h2 with h2 | ⟨rfl, h2⟩
            · exact .inl (List.lt_trans h1 h2)
            · exact .inl h1
          · rcases h2 with h2 | ⟨rfl, h2⟩
            · exact .inl h2
            · exact .inr ⟨rfl, ih b c h1 h2⟩
  total := by
    intro a
    induction a with
    | nil =>
      intro b h
      cases b with
      | nil => exact absurd rfl h
      | cons y b => exact .inl (cmpL_nil_lt _ _)
    | cons x a ih =>
      intro b h
      cases b with
      | nil => exact .inr (cmpL_nil_lt _ _)
      | cons y b =>
        rw [cmpL_lt_cons, cmpL_lt_cons]
        rcases Classical.em (x = y) with q | q
        · subst q
          rcases ih b (fun e => h (by rw [e])) with r | r
          · exact .inl (.inr ⟨rfl, r⟩)
          · exact .inr (.inr ⟨rfl, r⟩)
        · rcases nmOrd.total _ _ q with r | r
          · exact .inl (.inl r)
          · exact .inr (.inl r)
end Go.Proofs.Ytnepamdmjppglaa
