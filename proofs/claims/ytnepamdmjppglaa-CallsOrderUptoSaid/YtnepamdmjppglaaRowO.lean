/- CallsOrder, where what it reads is of bulk at most 1048576: the law answers true, and its argument reads as it did. -/
import Derived.Test.YtnepamdmjppglaaOpen
import Derived.Test.YtnepamdmjppglaaLawO
import Derived.OpenShut
import Derived.JoinedCond
namespace Go.Proofs.Ytnepamdmjppglaa
open Go Go.RowKit Go.ChangeAt Go.ChangeShapes Go.WideShapes

theorem Try.ownC : ownKnob Try.prog.godebug = none := by kernel_rfl
theorem Try.laidOutC : laidOutB Try.prog = true := by kernel_rfl

set_option maxRecDepth 100000 in
theorem order_lifted (os : Os) (started : os.Started) (H : Type) (enc : TypeId × Value → H) (F : Stop.Interp) :
    ReturnsInHanded {} Try.checked os 5 .any ((Rows.OpenSpec.upto Rows.callsOrderSpec).pre6 enc Try.prog Try.f5 Rows.callsOrderUptoRow.domain false) (((Rows.OpenSpec.upto Rows.callsOrderSpec).at F).post enc Try.prog Try.f5 false true false false) := by
  refine returnsInHanded_of_cond (C := Try.checked) (s := Rows.OpenSpec.upto Rows.callsOrderSpec) (k := Rows.uptoSmall) rfl Try.ownC started (by kernel_rfl) Try.func5
    (OpenSpec.witness (enc := enc) (C := Try.checked) (s := Rows.OpenSpec.upto Rows.callsOrderSpec) (k := Rows.uptoSmall) rfl false ⟨#[], #[.slice none 0 0], []⟩ 8 (by kernel_rfl) (by kernel_rfl) (by kernel_rfl)
      (x := ([.nil], [], [])) (by kernel_rfl) rfl (by kernel_rfl)) ?_
  intro W base args ds gs before hval0 hW _ hk _
  have hW' := hW
  obtain ⟨p, q, hA0, hV, rfl, hfz, hnd⟩ := hW
  have hA : DataW.TrodAll enc Try.prog W 0 (fun _ => true) true Try.f5.params.toList args.toList ds p := hA0
  have hval : ∀ (j : Nat) t v, Try.f5.params[j]? = some t → args[j]? = some v → Value.okWide Try.prog W .any base t v := hval0
  rw [Try.params5] at hA hval
  obtain ⟨v0, d0, rfl, rfl, h0⟩ := trodAll_one hA
  obtain ⟨rfl, rfl⟩ := trodVars_none hV
  have hlt : ∀ x ∈ p, x.block < W.heap.size := fun x hx => hW'.lt x (by simp [hx])
  have hk' : Rows.uptoBulkAll [d0] ≤ 1048576 := of_decide_eq_true hk
  rw [bulk_cons] at hk'
  obtain ⟨a0, len0, c0, rfl⟩ := okWide_slice Try.underlying31 (hval 0 31 v0 rfl rfl)
  obtain ⟨f0, h0'⟩ := h0
  obtain ⟨a, l, c, hv0, hn, hl⟩ := open_nodes (v := .slice a0 len0 c0) h0' (by show Rows.uptoBulk d0 ≤ _; omega)
  obtain ⟨rfl, rfl, rfl⟩ := Value.slice.inj hv0
  clear hA0 hval0
  refine (lawO_any a0 c0 l W hn hl).mono fun e W' hres => ?_
  obtain ⟨v, rfl, hb, rfl⟩ := hres
  have t0 := Below.trod Try.laidOutC (by kernel_rfl) (of_decide_eq_true (by kernel_rfl)) ⟨f0, h0'⟩ hb hlt
  refine ⟨_, rfl, _, _, _, [], p, [], hW', ?_, ?_, ?_, hb.frame _, fun h => by cases h⟩
  · exact trodAll_mk1 (shut_bool Try.underlying4 true)
  · exact trodAll_mk1 t0
  · rfl

theorem order_holds : Rows.CallsOrderUptoSaid :=
  OpenClaim.holds_of_cond 5 Try.f5 rfl rfl rfl rfl rfl rfl rfl ⟨rfl, rfl, rfl, rfl, rfl⟩ rfl rfl rfl rfl rfl (by kernel_rfl) Try.func5 (by kernel_rfl)
    (of_decide_eq_true (by kernel_rfl)) (by unfold Func.isWrapper; first | (rw [if_pos (by decide +kernel)]; kernel_rfl) | (rw [if_neg (by decide +kernel)]; exact ⟨rfl, rfl⟩))
    (fun os started H enc _ F => order_lifted os started H enc F)

end Go.Proofs.Ytnepamdmjppglaa
