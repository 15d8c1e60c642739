/- CallsUsers, where what it reads is of bulk at most 1048576: the law answers true, and its arguments read as they did. -/
import Derived.Test.YtnepamdmjppglaaOpen
import Derived.Test.YtnepamdmjppglaaLawU
import Derived.OpenShut
import Derived.JoinedCond
namespace Go.Proofs.Ytnepamdmjppglaa
open Go Go.RowKit Go.ChangeAt Go.ChangeShapes Go.WideShapes

theorem Try.ownC : ownKnob Try.prog.godebug = none := by kernel_rfl
theorem Try.laidOutC : laidOutB Try.prog = true := by kernel_rfl

set_option maxRecDepth 100000 in
theorem users_lifted (os : Os) (started : os.Started) (H : Type) (enc : TypeId × Value → H) (F : Stop.Interp) :
    ReturnsInHanded {} Try.checked os 6 .any ((Rows.OpenSpec.upto Rows.callsUsersSpec).pre6 enc Try.prog Try.f6 Rows.callsUsersUptoRow.domain false) (((Rows.OpenSpec.upto Rows.callsUsersSpec).at F).post enc Try.prog Try.f6 false true false false) := by
  refine returnsInHanded_of_cond (C := Try.checked) (s := Rows.OpenSpec.upto Rows.callsUsersSpec) (k := Rows.uptoSmall) rfl Try.ownC started (by kernel_rfl) Try.func6
    (OpenSpec.witness (enc := enc) (C := Try.checked) (s := Rows.OpenSpec.upto Rows.callsUsersSpec) (k := Rows.uptoSmall) rfl false ⟨#[], #[.slice none 0 0, .slice none 0 0], []⟩ 8 (by kernel_rfl) (by kernel_rfl) (by kernel_rfl)
      (x := ([.nil, .nil], [], [])) (by kernel_rfl) rfl (by kernel_rfl)) ?_
  intro W base args ds gs before hval0 hW _ hk _
  have hW' := hW
  obtain ⟨p, q, hA0, hV, rfl, hfz, hnd⟩ := hW
  have hA : DataW.TrodAll enc Try.prog W 0 (fun _ => true) true Try.f6.params.toList args.toList ds p := hA0
  have hval : ∀ (j : Nat) t v, Try.f6.params[j]? = some t → args[j]? = some v → Value.okWide Try.prog W .any base t v := hval0
  rw [Try.params6] at hA hval
  obtain ⟨v0, v1, d0, d1, p0, p1, rfl, rfl, rfl, h0, h1⟩ := trodAll_two hA
  obtain ⟨rfl, rfl⟩ := trodVars_none hV
  have hlt : ∀ x ∈ p0, x.block < W.heap.size := fun x hx => hW'.lt x (by simp [hx])
  have hlt1 : ∀ x ∈ p1, x.block < W.heap.size := fun x hx => hW'.lt x (by simp [hx])
  have hk' : Rows.uptoBulkAll [d0, d1] ≤ 1048576 := of_decide_eq_true hk
  rw [bulk_cons, bulk_cons] at hk'
  obtain ⟨a0, len0, c0, rfl⟩ := okWide_slice Try.underlying31 (hval 0 31 v0 rfl rfl)
  obtain ⟨a1, len1, c1, rfl⟩ := okWide_slice Try.underlying28 (hval 1 28 v1 rfl rfl)
  obtain ⟨f0, h0'⟩ := h0
  obtain ⟨f1, h1'⟩ := h1
  obtain ⟨a, l, c, hv0, hn, hl⟩ := open_nodes (v := .slice a0 len0 c0) h0' (by show Rows.uptoBulk d0 ≤ _; omega)
  obtain ⟨an, st, cn, hv1, hs, hsl, hsn⟩ := open_names (v := .slice a1 len1 c1) h1'
  obtain ⟨rfl, rfl, rfl⟩ := Value.slice.inj hv0
  obtain ⟨rfl, rfl, rfl⟩ := Value.slice.inj hv1
  have h1b : Rows.uptoBulk d1 ≤ 1048576 := by omega
  clear hA0 hval0
  refine (lawU_any a0 a1 c0 c1 l st W hn hl hs (by have : st.length + 1 ≤ Rows.uptoBulk d1 := hsl; omega) (fun n h => by have : n.length ≤ Rows.uptoBulk d1 := hsn n h; unfold maxLen; omega)).mono fun e W' hres => ?_
  obtain ⟨v, rfl, hb, rfl⟩ := hres
  have t0 := Below.trod Try.laidOutC (by kernel_rfl) (of_decide_eq_true (by kernel_rfl)) ⟨f0, h0'⟩ hb hlt
  have t1 := Below.trod Try.laidOutC (by kernel_rfl) (of_decide_eq_true (by kernel_rfl)) ⟨f1, h1'⟩ hb hlt1
  refine ⟨_, rfl, _, _, _, [], p0 ++ p1, [], hW', ?_, ?_, ?_, hb.frame _, fun h => by cases h⟩
  · exact trodAll_mk1 (shut_bool Try.underlying4 true)
  · exact trodAll_mk2 t0 t1
  · rfl

theorem users_holds : Rows.CallsUsersUptoSaid :=
  OpenClaim.holds_of_cond 6 Try.f6 rfl rfl rfl rfl rfl rfl rfl ⟨rfl, rfl, rfl, rfl, rfl⟩ rfl rfl rfl rfl rfl (by kernel_rfl) Try.func6 (by kernel_rfl)
    (of_decide_eq_true (by kernel_rfl)) (by unfold Func.isWrapper; first | (rw [if_pos (by decide +kernel)]; kernel_rfl) | (rw [if_neg (by decide +kernel)]; exact ⟨rfl, rfl⟩))
    (fun os started H enc _ F => users_lifted os started H enc F)

end Go.Proofs.Ytnepamdmjppglaa
