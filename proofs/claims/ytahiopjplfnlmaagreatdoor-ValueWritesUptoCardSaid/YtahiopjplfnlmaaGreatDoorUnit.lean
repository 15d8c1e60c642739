/- unit: four figures; walked. -/
import Derived.Test.YtahiopjplfnlmaaGreatDoorHex
namespace Go.Proofs.YtahiopjplfnlmaaGreatDoor
open Go Go.RowKit

theorem ba_eq {a b : ByteArray} (h : a.data.toList = b.data.toList) : a = b := by
  cases a; cases b; simp at h; rw [h]
theorem ext_from (s : Nm) (k : Nat) : (⟨s.toArray⟩ : ByteArray).extract k (⟨s.toArray⟩ : ByteArray).size = ⟨(s.drop k).toArray⟩ := by
  apply ba_eq
  rw [Lib.extract_to_end, data_nm, data_nm]
theorem ext_to (s : Nm) (k : Nat) : (⟨s.toArray⟩ : ByteArray).extract 0 k = ⟨(s.take k).toArray⟩ := by
  apply ba_eq
  rw [Lib.extract_data, data_nm, data_nm]; simp
def hexSet : Nm := [48, 49, 50, 51, 52, 53, 54, 55, 56, 57, 97, 98, 99, 100, 101, 102, 65, 66, 67, 68, 69, 70]
set_option maxRecDepth 100000 in
theorem hexSet_fin : ∀ x : Fin 256, hexSet.contains (UInt8.ofNat x.val) = (hexVal (UInt8.ofNat x.val)).isSome := by decide
theorem hexSet_val (c : UInt8) : hexSet.contains c = (hexVal c).isSome := by
  have := hexSet_fin ⟨c.toNat, c.toNat_lt⟩
  simpa using this
theorem drop_nil {p : UInt8 → Bool} : ∀ {l : Nm}, l.dropWhile p = [] ↔ ∀ x ∈ l, p x = true
  | [] => by simp
  | c :: l => by
    rw [List.dropWhile_cons]
    by_cases h : p c = true
    · rw [if_pos h, drop_nil]; simp [h]
    · rw [if_neg h]; simp [h]
theorem drop_head {p : UInt8 → Bool} : ∀ {l : Nm} {y : UInt8} {r : Nm}, l.dropWhile p = y :: r → p y = false
  | [], y, r, h => by simp at h
  | c :: l, y, r, h => by
    rw [List.dropWhile_cons] at h
    by_cases hc : p c = true
    · rw [if_pos hc] at h; exact drop_head h
    · rw [if_neg hc] at h
      injection h with h1 h2
      rw [← h1]; simpa using hc
theorem trimS_nil (l cs : Nm) : Lib.trimS l cs = [] ↔ ∀ x ∈ l, cs.contains x = true := by
  unfold Lib.trimS Lib.trimLeftS Lib.trimRightS
  rw [drop_nil]
  constructor
  · intro h x hx
    have key : (l.reverse.dropWhile (cs.contains ·)) = [] := by
      cases hd : l.reverse.dropWhile (cs.contains ·) with
      | nil => rfl
      | cons y r =>
        have hy := drop_head hd
        have := h y (by rw [hd]; simp)
        rw [hy] at this; cases this
    rw [drop_nil] at key
    exact key x (by simpa using hx)
  · intro h x hx
    have h1 : x ∈ l.reverse := (List.dropWhile_sublist _).subset (by simpa using hx)
    exact h x (by simpa using h1)
theorem trim2_any (s : Nm) (w : World) (hs : s.length ≤ 1048576) : Calls Tryz.prog 102 #[.string ⟨s.toArray⟩, .string ⟨hexSet.toArray⟩] w (Ret w (fun v _ => v = strV (Lib.trimS s hexSet))) := by
  refine (Any.strings_Trim_laid Tryz.lays160 (by kernel_rfl) ⟨s.toArray⟩ ⟨hexSet.toArray⟩ w (by rw [size_nm]; omega) (by decide) ?_).mono ?_
  · intro j b hb
    rw [data_nm] at hb
    have : ∀ x ∈ hexSet, x.toNat < 128 := by decide
    exact this b (List.mem_of_getElem? hb)
  · rintro e w' ⟨rfl, hb⟩
    refine ⟨_, rfl, hb, ?_⟩
    rw [data_nm, data_nm]; rfl
theorem unit4_cons (a b c d : UInt8) (r : Nm) : unit4 (a :: b :: c :: d :: r) = match hexVal a, hexVal b, hexVal c, hexVal d with
    | some a, some b, some c, some d => some (((a * 16 + b) * 16 + c) * 16 + d, r)
    | _, _, _, _ => none := rfl
theorem unit4_hx {a b c d : UInt8} {r : Nm} {n : Nat} {q : Nm} (h : unit4 (a :: b :: c :: d :: r) = some (n, q)) : n = hx 0 [a, b, c, d] ∧ q = r ∧ ∀ x ∈ [a, b, c, d], ∃ m, hexVal x = some m := by
  rw [unit4_cons] at h
  cases ha : hexVal a with
  | none => simp [ha] at h
  | some a1 =>
    cases hb : hexVal b with
    | none => simp [ha, hb] at h
    | some b1 =>
      cases hc : hexVal c with
      | none => simp [ha, hb, hc] at h
      | some c1 =>
        cases hd : hexVal d with
        | none => simp [ha, hb, hc, hd] at h
        | some d1 =>
          simp only [ha, hb, hc, hd] at h
          injection h with h
          injection h with h1 h2
          refine ⟨?_, h2.symm, ?_⟩
          · rw [← h1]; simp [hx, ha, hb, hc, hd]
          · intro x hx
            simp only [List.mem_cons, List.not_mem_nil, or_false] at hx
            rcases hx with rfl | rfl | rfl | rfl
            · exact ⟨_, ha⟩
            · exact ⟨_, hb⟩
            · exact ⟨_, hc⟩
            · exact ⟨_, hd⟩
theorem unit4_short {s : Nm} (h : s.length < 4) : unit4 s = none := by
  match s, h with
  | [], _ => rfl
  | [_], _ => rfl
  | [_, _], _ => rfl
  | [_, _, _], _ => rfl
theorem unit4_no {s : Nm} (h : 4 ≤ s.length) (hn : unit4 s = none) : ∃ x ∈ s.take 4, hexVal x = none := by
  match s, h with
  | a :: b :: c :: d :: r, _ =>
    rw [unit4_cons] at hn
    cases ha : hexVal a with
    | none => exact ⟨a, by simp, ha⟩
    | some a1 =>
      cases hb : hexVal b with
      | none => exact ⟨b, by simp, hb⟩
      | some b1 =>
        cases hc : hexVal c with
        | none => exact ⟨c, by simp, hc⟩
        | some c1 =>
          cases hd : hexVal d with
          | none => exact ⟨d, by simp, hd⟩
          | some d1 => simp [ha, hb, hc, hd] at hn
theorem take4 {s : Nm} (h : 4 ≤ s.length) : ∃ a b c d r, s = a :: b :: c :: d :: r := by
  match s, h with
  | a :: b :: c :: d :: r, _ => exact ⟨a, b, c, d, r, rfl⟩

set_option maxHeartbeats 1000000 in
theorem unit_no (b : Nat) (s : Nm) (o : Int) (w : World) (h : RdAt w b s o) (hs : s.length ≤ 1048576) (hu : unit4 s = none) : Calls Tryz.prog 89 #[.pointer (some ⟨b, 0, none⟩)] w (ScE w b o (.tuple #[.int .i32 0, .bool false]) s) := by
  have c0 := h.c0
  have H := Lib.hid h
  have e1 := size_nm s
  have et := ext_to s 4
  have Et := Lib.hid et
  clear h
  obtain ⟨z, hz⟩ : ∃ z : ByteArray, z = ⟨s.toArray⟩ := ⟨_, rfl⟩
  rw [← hz] at c0 e1 et
  have E1 := Lib.hid e1
  by_cases hl : s.length < 4
  · have hzl : (z.size : Int) < 4 := by omega
    clear hz e1 et
    go_enter Tryz.func89, Tryz.ntmps89
    go_wp2
    go_ret2
    exact ⟨rfl, Keep.refl b _, H.out⟩
  · have hzl : (4 : Int) ≤ (z.size : Int) := by omega
    obtain ⟨x, hx, hxn⟩ := unit4_no (by omega) hu
    have hne : Lib.trimS (s.take 4) hexSet ≠ [] := fun he => by
      have := (trimS_nil _ _).1 he x hx
      rw [hexSet_val, hxn] at this; cases this
    have ht : Hid (∀ w : World, Calls Tryz.prog 102 #[.string ⟨(s.take 4).toArray⟩, .string { data := #[48, 49, 50, 51, 52, 53, 54, 55, 56, 57, 97, 98, 99, 100, 101, 102, 65, 66, 67, 68, 69, 70] }] w (Ret w (fun v _ => v = strV (Lib.trimS (s.take 4) hexSet)))) := Lib.hid fun w => trim2_any (s.take 4) w (by rw [List.length_take]; omega)
    obtain ⟨y, hy⟩ : ∃ y, y = Lib.trimS (s.take 4) hexSet := ⟨_, rfl⟩
    rw [← hy] at ht hne
    clear hz e1 hl hu hx hy hxn
    obtain ⟨yh, yt, rfl⟩ := List.exists_cons_of_ne_nil hne
    clear hne
    go_enter Tryz.func89, Tryz.ntmps89
    go_wp2_with fail
    refine (ht.out _).mono ?_
    rintro e w1 ⟨_, rfl, hb1, rfl⟩
    have Hb := Lib.hid hb1
    unfold strV
    clear ht hb1
    go_wp2
    go_ret2
    exact ⟨rfl, (Keep.refl b _).ext Hb.out, H.out.ext Hb.out⟩
set_option maxHeartbeats 1000000 in
theorem unit_yes (b : Nat) (s r : Nm) (n : Nat) (o : Int) (w : World) (h : RdAt w b s o) (hs : s.length ≤ 1048576) (hu : unit4 s = some (n, r)) : Calls Tryz.prog 89 #[.pointer (some ⟨b, 0, none⟩)] w (ScE w b o (.tuple #[.int .i32 n, .bool true]) r) := by
  have hlen : 4 ≤ s.length := by
    apply Nat.le_of_not_lt
    intro hl
    rw [unit4_short hl] at hu; cases hu
  obtain ⟨n1, n2⟩ := unit4_some hu
  clear n2
  obtain ⟨xa, xb, xc, xd, q, rfl⟩ := take4 hlen
  obtain ⟨rfl, rfl, hx4⟩ := unit4_hx hu
  have c0 := h.c0
  have H := Lib.hid h
  have e1 := size_nm (xa :: xb :: xc :: xd :: r)
  have et := ext_to (xa :: xb :: xc :: xd :: r) 4
  have ef := ext_from (xa :: xb :: xc :: xd :: r) 4
  simp only [List.take_succ_cons, List.take_zero] at et
  simp only [List.drop_succ_cons, List.drop_zero] at ef
  have ht : Hid (∀ w : World, Calls Tryz.prog 102 #[.string ⟨#[xa, xb, xc, xd]⟩, .string { data := #[48, 49, 50, 51, 52, 53, 54, 55, 56, 57, 97, 98, 99, 100, 101, 102, 65, 66, 67, 68, 69, 70] }] w (Ret w (fun v _ => v = .string { data := #[] }))) := Lib.hid fun w => by
    have h1 := trim2_any [xa, xb, xc, xd] w (by simp)
    rw [(trimS_nil _ _).2 (fun x hx => by rw [hexSet_val]; obtain ⟨m, hm⟩ := hx4 x hx; rw [hm]; rfl)] at h1
    exact h1
  have hp : Hid (∀ w : World, Calls Tryz.prog 103 #[.string ⟨#[xa, xb, xc, xd]⟩, .int .i64 16, .int .i64 16] w (Ret w fun v _ => v = .tuple #[.int .u64 (hx 0 [xa, xb, xc, xd]), .nilIface])) := Lib.hid fun w => hex_any [xa, xb, xc, xd] rfl hx4 w
  clear h hu hlen hx4
  generalize hx 0 [xa, xb, xc, xd] = n at *
  obtain ⟨z, hz⟩ : ∃ z : ByteArray, z = ⟨(xa :: xb :: xc :: xd :: r).toArray⟩ := ⟨_, rfl⟩
  have hb' : Hid (∀ w', Below w.heap.size w w' → w'.cell? ⟨b, 0, none⟩ = some (.string z) ∧ w'.frozen? ⟨b, 0, none⟩ = false) := Lib.hid fun w' hb => by
    rw [hz]; exact ⟨(H.out.ext hb).c0, Blk.free (H.out.ext hb) 0⟩
  rw [← hz] at c0 e1 et ef
  simp only [List.length_cons] at e1 hs
  have hzl : (4 : Int) ≤ (z.size : Int) := by omega
  have hzm : (z.size : Int) ≤ 1048576 := by omega
  have Hn : (n : Int) ≤ 65535 := by omega
  have Ef := Lib.hid ef
  have Et := Lib.hid et
  clear hz e1 ef
  go_enter Tryz.func89, Tryz.ntmps89
  go_wp2_with fail
  refine (ht.out _).mono ?_
  rintro e w1 ⟨_, rfl, hb1, rfl⟩
  obtain ⟨c1, f1⟩ := hb'.out w1 hb1
  have Hb1 := Lib.hid hb1
  clear c0 hb1
  go_wp2_with fail
  refine (hp.out _).mono ?_
  rintro e w2 ⟨_, rfl, hb2, rfl⟩
  have Hb2 := Lib.hid (Hb1.out.trans (hb2.mono Hb1.out.size))
  obtain ⟨c2, f2⟩ := hb'.out w2 Hb2.out
  have ef := Ef.out
  clear c1 f1 hb2
  go_wp2_with fail
  go_quiet (fail)
  go_wp2
  go_ret2
  exact ⟨rfl, (((Keep.refl b _).ext Hb2.out).set 0 _).drew _, ((H.out.ext Hb2.out).put _).drewN _⟩
end Go.Proofs.YtahiopjplfnlmaaGreatDoor
