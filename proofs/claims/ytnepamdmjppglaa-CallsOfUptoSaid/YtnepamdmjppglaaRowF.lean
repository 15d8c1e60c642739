/- CallsOf, where what it reads is of bulk at most 1048576: the law answers true, and its argument reads as it did. -/
import Derived.Test.YtnepamdmjppglaaOpenP
import Derived.Test.YtnepamdmjppglaaLawF
import Derived.OpenShut
import Derived.JoinedCond
namespace Go.Proofs.Ytnepamdmjppglaa
open Go Go.RowKit Go.ChangeAt Go.ChangeShapes Go.WideShapes

theorem Try.ownC : ownKnob Try.prog.godebug = none := by kernel_rfl
theorem Try.laidOutC : laidOutB Try.prog = true := by kernel_rfl

set_option maxRecDepth 100000 in
theorem of_lifted (os : Os) (started : os.Started) (H : Type) (enc : TypeId × Value → H) (F : Stop.Interp) :
    ReturnsInHanded {} Try.checked os 3 .any ((Rows.OpenSpec.upto Rows.callsOfSpec).pre6 enc Try.prog Try.f3 Rows.callsOfUptoRow.domain false) (((Rows.OpenSpec.upto Rows.callsOfSpec).at F).post enc Try.prog Try.f3 false true false false) := by
  refine returnsInHanded_of_cond (C := Try.checked) (s := Rows.OpenSpec.upto Rows.callsOfSpec) (k := Rows.uptoSmall) rfl Try.ownC started (by kernel_rfl) Try.func3
    (OpenSpec.witness (enc := enc) (C := Try.checked) (s := Rows.OpenSpec.upto Rows.callsOfSpec) (k := Rows.uptoSmall) rfl false ⟨#[], #[.agg #[.string ⟨#[]⟩, .string ⟨#[]⟩, .int .i64 0, .int .i64 0, .slice none 0 0]], []⟩ 8 (by kernel_rfl) (by kernel_rfl) (by kernel_rfl)
      (x := ([.agg [.lit (.string []), .lit (.string []), .lit (.int .i64 0), .lit (.int .i64 0), .nil]], [], [])) (by kernel_rfl) rfl (by kernel_rfl)) ?_
  intro W base args ds gs before hval0 hW _ hk _
  have hW' := hW
  obtain ⟨p, q, hA0, hV, rfl, hfz, hnd⟩ := hW
  have hA : DataW.TrodAll enc Try.prog W 0 (fun _ => true) true Try.f3.params.toList args.toList ds p := hA0
  have hval : ∀ (j : Nat) t v, Try.f3.params[j]? = some t → args[j]? = some v → Value.okWide Try.prog W .any base t v := hval0
  rw [Try.params3] at hA hval
  obtain ⟨v0, d0, rfl, rfl, h0⟩ := trodAll_one hA
  obtain ⟨rfl, rfl⟩ := trodVars_none hV
  have hlt : ∀ x ∈ p, x.block < W.heap.size := fun x hx => hW'.lt x (by simp [hx])
  have hk' : Rows.uptoBulkAll [d0] ≤ 1048576 := of_decide_eq_true hk
  rw [bulk_cons] at hk'
  obtain ⟨cs0, rfl, -⟩ := okWide_struct Try.underlying24 (hval 0 24 v0 rfl rfl)
  obtain ⟨f0, h0'⟩ := h0
  obtain ⟨x, hx, hp, hw⟩ := open_part f0 cs0.toList _ h0'
  have h1b : weight (pre x) ≤ 1048576 := by
    have : weight (pre x) ≤ Rows.uptoBulk d0 := hw
    omega
  have hcs : (Value.agg cs0) = x.val := by
    unfold PartD.val; rw [← hx]
  clear hA0 hval0
  rw [hcs]
  refine (lawF_any x W hp h1b).mono fun e W' hres => ?_
  obtain ⟨v, rfl, hb, rfl⟩ := hres
  have t0 := Below.trod Try.laidOutC (by kernel_rfl) (of_decide_eq_true (by kernel_rfl)) ⟨f0, h0'⟩ hb hlt
  rw [hcs] at t0 hW'
  refine ⟨_, rfl, _, _, _, [], p, [], hW', ?_, ?_, ?_, hb.frame _, fun h => by cases h⟩
  · exact trodAll_mk1 (shut_bool Try.underlying4 true)
  · exact trodAll_mk1 t0
  · rfl

theorem of_holds : Rows.CallsOfUptoSaid :=
  OpenClaim.holds_of_cond 3 Try.f3 rfl rfl rfl rfl rfl rfl rfl ⟨rfl, rfl, rfl, rfl, rfl⟩ rfl rfl rfl rfl rfl (by kernel_rfl) Try.func3 (by kernel_rfl)
    (of_decide_eq_true (by kernel_rfl)) (by unfold Func.isWrapper; first | (rw [if_pos (by decide +kernel)]; kernel_rfl) | (rw [if_neg (by decide +kernel)]; exact ⟨rfl, rfl⟩))
    (fun os started H enc _ F => of_lifted os started H enc F)

end Go.Proofs.Ytnepamdmjppglaa
