/- The live question's Of, walked: a sort of one element; the locations about a stretch. -/
import Derived.Test.YtadekfjgdbngdaaLong
import Derived.Test.YtadekfjgdbngdaaInts
import Derived.Deep.RegionHeld3
namespace Go.Proofs.Ytadekfjgdbngdaa
open Go Go.RowKit

theorem ins1_any (a : Option Addr) (c : Nat) (fv : Value) (w : World) : Calls Try.prog 58 #[.slice a 1 c, .int .i64 0, .int .i64 1, fv] w fun e w' => e = .returned (.tuple #[]) ∧ w' = w := by
  go_enter Try.func58, Try.ntmps58
  go_wp2
  refine wp_loop_rounds 1 ?_
  rw [rounds_succ]
  go_wp2
  go_end0
  exact ⟨rfl, rfl⟩

theorem stable1_any (a : Option Addr) (c : Nat) (fv : Value) (w : World) : Calls Try.prog 48 #[.slice a 1 c, .int .i64 1, fv] w fun e w' => e = .returned (.tuple #[]) ∧ w' = w := by
  go_enter Try.func48, Try.ntmps48
  go_wp2_with fail
  refine wp_loop_rounds 1 ?_
  rw [rounds_succ]
  go_wp2_with fail
  refine (ins1_any a c fv _).mono ?_
  rintro e w' ⟨rfl, rfl⟩
  go_wp2_with fail
  refine wp_loop_rounds 1 ?_
  rw [rounds_succ]
  go_wp2
  go_end0
  exact ⟨rfl, rfl⟩

theorem sort1_any (a : Option Addr) (c : Nat) (fv : Value) (w : World) : Calls Try.prog 32 #[.slice a 1 c, fv] w fun e w' => e = .returned (.tuple #[]) ∧ w' = w := by
  go_enter Try.func32, Try.ntmps32
  go_wp2_with fail
  refine (stable1_any a c fv _).mono ?_
  rintro e w' ⟨rfl, rfl⟩
  go_wp2
  go_end0
  exact ⟨rfl, rfl⟩

def bL0 : LocD := ⟨{ data := #[104, 101, 97, 112] }, { data := #[] }, 0, 0, 0⟩
def bL1 : LocD := ⟨{ data := #[114, 101, 115, 117, 108, 116] }, { data := #[] }, 0, 0, 0⟩
def bL2 : LocD := ⟨{ data := #[118, 97, 114] }, { data := #[120] }, 3, 9, 0⟩
def bL3 : LocD := ⟨{ data := #[118, 97, 114] }, { data := #[112] }, 0, 0, 0⟩
def bL4 : LocD := ⟨{ data := #[97, 114, 103] }, { data := #[102] }, 4, 6, 0⟩
def bLocs : List LocD := [bL0, bL1, bL2, bL3, bL4]

set_option maxRecDepth 20000 in
set_option maxHeartbeats 2000000 in
theorem of1_any (aL aE : Option Addr) (cL cE : Nat) (w : World) (hL : Row w 5 aL 5 (bLocs.flatMap LocD.cells)) :
    Calls Try.prog 16 #[.agg #[.slice aL 5 cL, .slice aE 4 cE, .int .i64 0], .int .i64 4, .int .i64 5] w (Ret w (OwnInts w.heap.size [2])) := by
  have HL := Lib.hid hL
  clear hL
  go_enter Try.func16, Try.ntmps16
  go_wp2_with fail
  have hb0 := below_a1 w (.cells #[.slice aL 5 cL, .slice aE 4 cE, .int .i64 0] 35)
  generalize hW : (w.alloc (.cells #[.slice aL 5 cL, .slice aE 4 cE, .int .i64 0] 35)) = W0
  have hsz : W0.heap.size = w.heap.size + 1 := by subst hW; simp
  rw [hW] at hb0
  have Hb0 := Lib.hid hb0
  clear hW hb0
  go_loopw [7, 14] (fun out i wr => ∃ k : Nat, k ≤ 5 ∧ i = .int .i64 k ∧ Hid (Below W0.heap.size W0 wr) ∧ Hid ((k ≤ 2 ∧ out = .slice none 0 0) ∨ (3 ≤ k ∧ ∃ a c, out = .slice a 1 c ∧ Own wr W0.heap.size 3 1 a 1 c [.int .i64 2]))) (fun _ i _ => 5 - (intOf i).toNat)
  case atStart => exact ⟨0, by omega, rfl, Below.refl _ _, .inl ⟨by omega, rfl⟩⟩
  case round =>
    obtain ⟨k, hk, rfl, hb, ho⟩ := hrel
    have HLr := Lib.hid (HL.out.ext (Hb0.out.trans (hb.out.mono (by have := Hb0.out.size; omega))))
    have fin : ∀ (o : Obj), Hid (Below W0.heap.size W0 (wr.alloc o)) := fun o => hb.out.alloc hb.out.size o
    have fo : ∀ (o : Obj) (v : Value) (k' : Nat), (k < 2 ∧ k' = k + 1 ∨ 3 ≤ k ∧ 3 ≤ k') → ((k ≤ 2 ∧ v = .slice none 0 0) ∨ (3 ≤ k ∧ ∃ a c, v = .slice a 1 c ∧ Own wr W0.heap.size 3 1 a 1 c [.int .i64 2])) → Hid ((k' ≤ 2 ∧ v = .slice none 0 0) ∨ (3 ≤ k' ∧ ∃ a c, v = .slice a 1 c ∧ Own (wr.alloc o) W0.heap.size 3 1 a 1 c [.int .i64 2])) := fun o v k' hk' hv => by
      refine Lib.hid ?_
      rcases hv with ⟨h1, h2⟩ | ⟨h1, a, c, h2, h3⟩
      · exact .inl ⟨by omega, h2⟩
      · exact .inr ⟨by omega, a, c, h2, h3.alloc o⟩
    have Fin := Lib.hid fin
    have Fo := Lib.hid fo
    clear fin fo
    have hcase : k = 0 ∨ k = 1 ∨ k = 2 ∨ k = 3 ∨ k = 4 ∨ k = 5 := by omega
    rcases hcase with rfl | rfl | rfl | rfl | rfl | rfl
    · obtain ⟨b, o, rfl, l0, l1, l2, l3, l4, -⟩ := loc_at (l := bLocs) HLr.out (i := 0) rfl
      simp only [bL0, Nat.zero_mul, Nat.add_zero] at l0 l1 l2 l3 l4
      go_wp2
      go_roundw
      case rel => exact ⟨1, by omega, by go_num, Fin.out _, Fo.out _ _ _ (by omega) ho.out⟩
      case measure => simp [intOf]
    · obtain ⟨b, o, rfl, l0, l1, l2, l3, l4, -⟩ := loc_at (l := bLocs) HLr.out (i := 1) rfl
      simp only [bL1] at l0 l1 l2 l3 l4
      go_wp2
      go_roundw
      case rel => exact ⟨2, by omega, by go_num, Fin.out _, Fo.out _ _ _ (by omega) ho.out⟩
      case measure => simp [intOf]
    · obtain ⟨b, o, rfl, l0, l1, l2, l3, l4, -⟩ := loc_at (l := bLocs) HLr.out (i := 2) rfl
      simp only [bL2] at l0 l1 l2 l3 l4
      rcases ho.out with ⟨_, rfl⟩ | ⟨h, _⟩
      rotate_left
      · omega
      have hsz2 : W0.heap.size ≤ wr.heap.size := hb.out.size
      go_wp2_with (at_builtin; refine wpList_append_Own rfl _ _ 28 rfl W0.heap.size 3 _ 1 8 Try.underlying28 Try.infoInt rfl (by decide) none 0 0 [] rfl (by exact Own.nil _ _ _ _) _ 1 1 [.int .i64 2] rfl (Row.new1 (by simp) rfl rfl) (by simp [Value.oneCell']) (by decide) (by decide) (by simp; omega) ?_; intro a' c' w6 hown6 hg6 hbk6; have Hown6 := Lib.hid hown6; have Hb6 := Lib.hid (((hb.out.alloc hb.out.size _).alloc (by simp; omega) _).grown hg6 (by simp; omega) (fun j hj => by simp [rowOf] at hj)); clear hown6 hg6 hbk6)
      go_roundw
      case rel => exact ⟨3, by omega, by go_num, Hb6, .inr ⟨by omega, a', c', rfl, Hown6.out⟩⟩
      case measure => simp [intOf]
    · obtain ⟨b, o, rfl, l0, l1, l2, l3, l4, -⟩ := loc_at (l := bLocs) HLr.out (i := 3) rfl
      simp only [bL3] at l0 l1 l2 l3 l4
      go_wp2
      go_roundw
      case rel => exact ⟨4, by omega, by go_num, Fin.out _, Fo.out _ _ _ (by omega) ho.out⟩
      case measure => simp [intOf]
    · obtain ⟨b, o, rfl, l0, l1, l2, l3, l4, -⟩ := loc_at (l := bLocs) HLr.out (i := 4) rfl
      simp only [bL4] at l0 l1 l2 l3 l4
      go_wp2
      go_roundw
      case rel => exact ⟨5, by omega, by go_num, Fin.out _, Fo.out _ _ _ (by omega) ho.out⟩
      case measure => simp [intOf]
    · rcases ho.out with ⟨h, _⟩ | ⟨_, a, c, rfl, hown⟩
      · omega
      have Hown := Lib.hid hown
      clear hown
      go_wp2_with fail
      refine (sort1_any a c _ _).mono ?_
      rintro e w' ⟨rfl, rfl⟩
      go_wp2
      go_ret
      have h1 := Hb0.out.trans (hb.out.mono Hb0.out.size)
      exact ⟨_, rfl, h1.alloc h1.size _, a, c, rfl, (Hown.out.alloc _).mono (by have := Hb0.out.size; omega)⟩
end Go.Proofs.Ytadekfjgdbngdaa
