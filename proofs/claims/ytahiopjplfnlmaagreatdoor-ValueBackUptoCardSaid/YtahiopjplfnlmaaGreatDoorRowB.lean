/- ValueBack, where what it reads is of bulk at most 1048576: the law answers true, and its arguments read as they did. Conditions: none but what the card ties. -/
import Derived.Test.YtahiopjplfnlmaaGreatDoorOpV
import Derived.Test.YtahiopjplfnlmaaGreatDoorLawB
import Derived.Test.YtahiopjplfnlmaaGreatDoorLaid
import Derived.Test.YtahiopjplfnlmaaGreatDoorTie
import Derived.Test.YtahiopjplfnlmaaGreatDoorCards
import Derived.SevenTiedAt
import Derived.OpenShut
import Derived.Deep.DeepHandedRow
namespace Go.Proofs.YtahiopjplfnlmaaGreatDoor
open Go Go.RowKit Go.ChangeAt Go.ChangeShapes Go.WideShapes

theorem Tryz.laidOutV : laidOutB Tryz.prog = true := by kernel_rfl
def zeroDoc : Value := .agg #[.int .i64 0, .bool false, .int .i64 0, .string ⟨#[]⟩, .slice none 0 0, .slice none 0 0]
def zeroRead {H : Type} : DataW H := .agg [.lit (.int .i64 0), .lit (.bool false), .lit (.int .i64 0), .lit (.string []), .nil, .nil]
theorem back_row {H : Type} (os : Os) (enc : TypeId × Value → H) : (Rows.OpenSpec.upto Rows.valueBackSpec).preRow enc Tryz.prog Tryz.f4 Rows.valueBackUptoRow.domain false laidAll ((World.laidAll Tryz.prog os laidAll).forCall (fun _ _ => 0) ⟨#[], #[zeroDoc, zeroDoc], []⟩).memory #[zeroDoc, zeroDoc] := by
  have hx : DataW.whole enc Tryz.prog ((World.laidAll Tryz.prog os laidAll).forCall (fun _ _ => 0) ⟨#[], #[zeroDoc, zeroDoc], []⟩).memory Tryz.f4.params.toList (Rows.OpenSpec.upto Rows.valueBackSpec).vars false #[zeroDoc, zeroDoc].toList 8 = some ([zeroRead, zeroRead], [], []) := by kernel_rfl
  exact OpenSpec.preRow_of_cond 8 hx (by kernel_rfl) (fun k hk => by cases hk; rfl) (by kernel_rfl) (by rw [MakeChecks.laidMetH_plain _ _ _ (by kernel_rfl)]; exact laidMet_laidAll _ (by kernel_rfl) (by kernel_rfl))

set_option maxRecDepth 100000 in
set_option maxHeartbeats 2000000 in
theorem back_lifted (os : Os) (started : os.Started) (H : Type) (enc : TypeId × Value → H) (F : Stop.Interp) :
    ReturnsInHanded {} Tryz.checked os 4 .any ((Rows.OpenSpec.upto Rows.valueBackSpec).preRow enc Tryz.prog Tryz.f4 Rows.valueBackUptoRow.domain false laidAll) (((Rows.OpenSpec.upto Rows.valueBackSpec).at F).post enc Tryz.prog Tryz.f4 false true false false) := by
  refine returnsInHanded_of_row (C := Tryz.checked) (s := Rows.OpenSpec.upto Rows.valueBackSpec) Tryz.ownL started (by kernel_rfl) Tryz.func4
    ⟨World.laidAll Tryz.prog os laidAll, fun _ _ => 0, ⟨#[], #[zeroDoc, zeroDoc], []⟩, World.laidAll_os _ _ _, World.shaped_of_ZipB (by kernel_rfl) (by kernel_rfl), rfl, (Input.okWide_of_okWideB (by kernel_rfl)).2, back_row os enc, by
      simp only [Assume.holds]
      exact ⟨by simp, by simp, fun _ => Modest.zero, by simp, by simp⟩⟩ ?_
  intro W base args ds gs before hval0 hW _ hk _ hL _ _
  have hW' := hW
  obtain ⟨p, q, hA0, hV, rfl, hfz, hnd⟩ := hW
  have hA : DataW.TrodAll enc Tryz.prog W 0 (fun _ => true) true Tryz.f4.params.toList args.toList ds p := hA0
  have hval : ∀ (j : Nat) t v, Tryz.f4.params[j]? = some t → args[j]? = some v → Value.okWide Tryz.prog W .any base t v := hval0
  rw [Tryz.params4] at hA hval
  obtain ⟨v0, v1, d0, d1, p0, p1, rfl, rfl, rfl, h0, h1⟩ := trodAll_two hA
  obtain ⟨rfl, rfl⟩ := trodVars_none hV
  have hlt0 : ∀ x ∈ p0, x.block < W.heap.size := fun x hx => hW'.lt x (by simp [hx])
  have hlt1 : ∀ x ∈ p1, x.block < W.heap.size := fun x hx => hW'.lt x (by simp [hx])
  have hk' : Rows.uptoBulkAll [d0, d1] ≤ 1048576 := of_decide_eq_true (hk _ rfl)
  rw [bulk_cons, bulk_cons] at hk'
  obtain ⟨cs0, rfl, -⟩ := okWide_struct Tryz.underlying26 (hval 0 26 v0 rfl rfl)
  obtain ⟨cs1, rfl, -⟩ := okWide_struct Tryz.underlying26 (hval 1 26 v1 rfl rfl)
  obtain ⟨f0, h0'⟩ := h0
  obtain ⟨f1, h1'⟩ := h1
  obtain ⟨x, hx, hp, hw⟩ := open_doc f0 cs0.toList _ h0'
  obtain ⟨y, hy, hpy, hwy⟩ := open_doc f1 cs1.toList _ h1'
  have hxb : sizeV x.v ≤ 1048576 := by
    have : sizeV x.v ≤ Rows.uptoBulk d0 := hw
    omega
  have hyb : sizeV y.v ≤ 1048576 := by
    have : sizeV y.v ≤ Rows.uptoBulk d1 := hwy
    omega
  have hcs : (Value.agg cs0) = x.val := by unfold VD.val; rw [← hx]
  have hcs1 : (Value.agg cs1) = y.val := by unfold VD.val; rw [← hy]
  clear hA0 hval0
  rw [hcs, hcs1]
  refine (lawB_any x y W (glob_of hL) hp hpy hxb hyb).mono fun e W' hres => ?_
  obtain ⟨rfl, hb⟩ := hres
  have t0 := Below.trod Tryz.laidOutV (by kernel_rfl) (of_decide_eq_true (by kernel_rfl)) ⟨f0, h0'⟩ hb hlt0
  have t1 := Below.trod Tryz.laidOutV (by kernel_rfl) (of_decide_eq_true (by kernel_rfl)) ⟨f1, h1'⟩ hb hlt1
  rw [hcs] at t0
  rw [hcs1] at t1
  rw [hcs, hcs1] at hW'
  refine ⟨_, rfl, _, _, _, [], p0 ++ p1, [], hW', ?_, ?_, ?_, hb.frame _, fun h => by cases h⟩
  · exact trodAll_mk1 (shut_bool Tryz.underlying4 true)
  · exact trodAll_mk2 t0 t1
  · rfl

theorem back_holds : Rows.ValueBackUptoSaid :=
  OpenClaim.holds_of_cond 4 Tryz.f4 rfl rfl rfl rfl rfl rfl rfl ⟨rfl, rfl, rfl, rfl, rfl⟩ rfl rfl rfl rfl rfl (by kernel_rfl) Tryz.func4 (by kernel_rfl)
    (of_decide_eq_true (by kernel_rfl)) (by unfold Func.isWrapper; first | (rw [if_pos (by decide +kernel)]; kernel_rfl) | (rw [if_neg (by decide +kernel)]; exact ⟨rfl, rfl⟩))
    (fun os started H enc _ F => by rw [OpenClaim.pre_eq_preRow]; exact back_lifted os started H enc F)

theorem back_card : Rows.ValueBackUptoCardSaid :=
  Claim7.holds_tied_plain_at .later [] [.data, .data, .data, .data, .sentinel, .sentinel, .pinned] true (true, "96bf91f028ed53806f989092a336daa6c87036e2a7a70418273ada7e38878583") true back_holds (fun _ h => by cases h) (by kernel_rfl) (fun _ h => by cases h) valueBackUpto_row_tie rfl ⟨rfl, rfl⟩ (by kernel_rfl) rfl
    (fun f fn hf hfn => by
      obtain rfl : f = 4 := Option.some.inj ((show Tryz.prog.funcNamed "bolthole/boltholelaw02.ValueBack" = some 4 by kernel_rfl).symm.trans hf) |>.symm
      obtain rfl : fn = Tryz.f4 := (Option.some.inj (Tryz.func4.symm.trans hfn)).symm
      exact ⟨by kernel_rfl, fun j t ht => by
        rw [Tryz.params4] at ht
        have hm : t ∈ [26, 26] := by simpa using Array.mem_of_getElem? ht
        have hall : ([26, 26].all fun u => !Tryz.prog.wantsStandIn u) = true := by kernel_rfl
        exact (show Tryz.prog.wantsStandIn t = false by simpa using List.all_eq_true.1 hall t hm)⟩)
    (by kernel_rfl)
end Go.Proofs.YtahiopjplfnlmaaGreatDoor
