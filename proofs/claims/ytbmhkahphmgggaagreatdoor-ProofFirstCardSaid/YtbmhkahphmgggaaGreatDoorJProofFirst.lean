/- ProofFirst of the given seat: for every input the law returns true, and the arguments read as before. The road: the model (printed) of the code, the pure law on the model, the row, the card. -/
import Derived.Test.YtbmhkahphmgggaaGreatDoorP06
set_option maxRecDepth 100000
namespace Go.Proofs.YtbmhkahphmgggaaGreatDoor
open Go Go.ChangeShapes Go.WideShapes Go.ChangeAt Go.RowKit Go.Mp
theorem proofFirst_met (os : Os) (args : Array Value) : laidMetH Tryz.prog Rows.proofFirstRow.laid ((World.laidAll Tryz.prog os Rows.proofFirstRow.laid).forCall (fun _ _ => 0) ⟨#[], args, []⟩).memory := by
  rw [MakeChecks.laidMetH_plain _ _ _ (by kernel_rfl)]
  exact laidMet_laidAll _ (by kernel_rfl) (by kernel_rfl)
theorem proofFirst_lifted (os : Os) (started : os.Started) (H : Type) (enc : TypeId × Value → H) :
    ReturnsInHanded {} Tryz.checked os 7 .any (fun w args => (Rows.proofFirstSpec.pre enc Tryz.prog Tryz.f7 [] false w args ∧ laidMetH Tryz.prog Rows.proofFirstRow.laid w) ∧ sizedMet enc Tryz.prog Tryz.f7 (OpenSpec.ofChange Rows.proofFirstSpec) false w args)
      (Rows.proofFirstSpec.post enc Tryz.prog Tryz.f7 false true false false) := by
  refine handed_shaped (C := Tryz.checked) (X := fun w _ => laidMetH Tryz.prog Rows.proofFirstRow.laid w) own_ started (by kernel_rfl) Tryz.func7
    (ChangeSpec.witness_shaped (enc := enc) (C := Tryz.checked) (os := os) (X := fun w _ => laidMetH Tryz.prog Rows.proofFirstRow.laid w) false (World.laidAll Tryz.prog os Rows.proofFirstRow.laid) #[.agg #[.slice none 0 0, .slice none 0 0], .slice none 0 0, .agg #[.bool false, .slice none 0 0, .slice none 0 0, .slice none 0 0], .slice none 0 0] 8 (World.laidAll_os _ _ _) (World.shaped_of_ZipB (by kernel_rfl) (by kernel_rfl)) (by kernel_rfl) (by kernel_rfl) (by kernel_rfl) (proofFirst_met os _)) ?_
  intro W base args ds gs before hval0 hW hsh
  have hval : ∀ (j : Nat) t v, Tryz.f7.params[j]? = some t → args[j]? = some v → Value.okWide Tryz.prog W .any base t v := hval0
  have hW0 := hW
  obtain ⟨p, q, hA0, hV, rfl, _, _⟩ := hW
  have hA : DataW.TrodAll enc Tryz.prog W 0 (fun _ => true) true Tryz.f7.params.toList args.toList ds p := hA0
  rw [Tryz.params7] at hA hval
  obtain ⟨v0, vs0, d0, ds0, p0, q0, hargs, rfl, rfl, h0, r0⟩ := trodAll_cons hA
  obtain ⟨v1, vs1, d1, ds1, p1, q1, rfl, rfl, rfl, h1, r1⟩ := trodAll_cons r0
  obtain ⟨v2, vs2, d2, ds2, p2, q2, rfl, rfl, rfl, h2, r2⟩ := trodAll_cons r1
  obtain ⟨v3, vs3, d3, ds3, p3, q3, rfl, rfl, rfl, h3, r3⟩ := trodAll_cons r2
  obtain ⟨rfl, rfl, rfl⟩ := trodAll_nil r3
  obtain rfl : args = #[v0, v1, v2, v3] := by cases args; simp_all
  obtain ⟨rfl, rfl⟩ := trodVars_none hV
  obtain ⟨a0, k0⟩ := arg_struct Tryz.underlying25 rdT25 (hval 0 25 v0 rfl rfl) h0
  obtain ⟨a1, k1⟩ := arg_slice Tryz.underlying26 rdT26 (hval 1 26 v1 rfl rfl) h1
  obtain ⟨a2, k2⟩ := arg_struct Tryz.underlying40 rdT40 (hval 2 40 v2 rfl rfl) h2
  obtain ⟨a3, k3⟩ := arg_slice Tryz.underlying37 rdT37 (hval 3 37 v3 rfl rfl) h3
  clear hA0 hval0
  refine (law_call (s_modcertlaw36_ProofFirst a0 a1 a2 a3 true (first_ok a0 a1 a2 a3)) (maxLen_ hsh) (vs := [v0, v1, v2, v3]) ⟨k0, k1, k2, k3, trivial⟩).mono fun e W' ⟨he, hl⟩ => ?_
  subst he
  refine ⟨_, rfl, post_left laidOut_ (fun t ht => ?_) rfl rfl rfl hW0 hl fun _ _ _ => trodAll_mk1 (shut_bool Tryz.underlying4 _)⟩
  rw [Tryz.params7] at ht
  have hall : ([25, 26, 40, 37].all fun u => Tryz.prog.readableRec u && decide (u < Tryz.prog.types.size)) = true := by kernel_rfl
  have h1 := (Bool.and_eq_true _ _).mp (List.all_eq_true.1 hall t ht)
  exact ⟨h1.1, of_decide_eq_true h1.2⟩
set_option maxHeartbeats 2000000 in
theorem proofFirst_facts : joinedFacts Tryz.pinned.checked.prog 7 Tryz.f7 Rows.proofFirstSpec Rows.proofFirstRow = true := by
  unfold joinedFacts
  refine Bool.and_eq_true_iff.mpr ⟨?_, by as_aux_lemma => kernel_rfl⟩
  refine Bool.and_eq_true_iff.mpr ⟨?_, by as_aux_lemma => kernel_rfl⟩
  refine Bool.and_eq_true_iff.mpr ⟨?_, by as_aux_lemma => kernel_rfl⟩
  refine Bool.and_eq_true_iff.mpr ⟨?_, by as_aux_lemma => kernel_rfl⟩
  refine Bool.and_eq_true_iff.mpr ⟨?_, by as_aux_lemma => kernel_rfl⟩
  refine Bool.and_eq_true_iff.mpr ⟨?_, by as_aux_lemma => kernel_rfl⟩
  refine Bool.and_eq_true_iff.mpr ⟨?_, by as_aux_lemma => kernel_rfl⟩
  refine Bool.and_eq_true_iff.mpr ⟨?_, by as_aux_lemma => kernel_rfl⟩
  refine Bool.and_eq_true_iff.mpr ⟨?_, by as_aux_lemma => kernel_rfl⟩
  refine Bool.and_eq_true_iff.mpr ⟨?_, by as_aux_lemma => kernel_rfl⟩
  refine Bool.and_eq_true_iff.mpr ⟨?_, by as_aux_lemma => kernel_rfl⟩
  refine Bool.and_eq_true_iff.mpr ⟨?_, by as_aux_lemma => kernel_rfl⟩
  refine Bool.and_eq_true_iff.mpr ⟨?_, by as_aux_lemma => kernel_rfl⟩
  refine Bool.and_eq_true_iff.mpr ⟨?_, by as_aux_lemma => kernel_rfl⟩
  refine Bool.and_eq_true_iff.mpr ⟨?_, by as_aux_lemma => kernel_rfl⟩
  refine Bool.and_eq_true_iff.mpr ⟨?_, by as_aux_lemma => kernel_rfl⟩
  refine Bool.and_eq_true_iff.mpr ⟨?_, by as_aux_lemma => kernel_rfl⟩
  refine Bool.and_eq_true_iff.mpr ⟨?_, by as_aux_lemma => kernel_rfl⟩
  refine Bool.and_eq_true_iff.mpr ⟨?_, by as_aux_lemma => kernel_rfl⟩
  refine Bool.and_eq_true_iff.mpr ⟨?_, by as_aux_lemma => kernel_rfl⟩
  refine Bool.and_eq_true_iff.mpr ⟨?_, by as_aux_lemma => kernel_rfl⟩
  refine Bool.and_eq_true_iff.mpr ⟨?_, by as_aux_lemma => kernel_rfl⟩
  refine Bool.and_eq_true_iff.mpr ⟨?_, by as_aux_lemma => kernel_rfl⟩
  refine Bool.and_eq_true_iff.mpr ⟨?_, by as_aux_lemma => kernel_rfl⟩
  refine Bool.and_eq_true_iff.mpr ⟨?_, by as_aux_lemma => kernel_rfl⟩
  refine Bool.and_eq_true_iff.mpr ⟨?_, by as_aux_lemma => kernel_rfl⟩
  refine Bool.and_eq_true_iff.mpr ⟨?_, by as_aux_lemma => kernel_rfl⟩
  refine Bool.and_eq_true_iff.mpr ⟨?_, by as_aux_lemma => kernel_rfl⟩
  refine Bool.and_eq_true_iff.mpr ⟨?_, by as_aux_lemma => kernel_rfl⟩
  refine Bool.and_eq_true_iff.mpr ⟨?_, by as_aux_lemma => kernel_rfl⟩
  refine Bool.and_eq_true_iff.mpr ⟨?_, by as_aux_lemma => kernel_rfl⟩
  kernel_rfl
theorem proofFirst_row : Rows.proofFirstRow.holds Tryz.pinned (OpenSpec.ofChange Rows.proofFirstSpec) :=
  OpenClaim.holds_of_wide 7 Tryz.f7 rfl rfl rfl rfl rfl rfl rfl ⟨rfl, rfl, rfl, rfl, rfl⟩ rfl rfl rfl rfl rfl (by kernel_rfl) Tryz.func7 proofFirst_facts
    (of_decide_eq_true (by kernel_rfl)) (by unfold Func.isWrapper; first | (rw [if_pos (by decide +kernel)]; kernel_rfl) | (rw [if_neg (by decide +kernel)]; exact ⟨rfl, rfl⟩))
    (fun os started H enc _ => proofFirst_lifted os started H enc)
/-- THE CARD. -/
theorem proofFirst_holds : Rows.ProofFirstCardSaid :=
  Claim7.holds_tied_plain_at .later [] [.data, .pinned] true (true, "1b61894872739943555f6c9077502ea1cb2ed480870612c06abc0609339bbea4") false proofFirst_row (fun _ h => by cases h) (by kernel_rfl) (fun _ h => by cases h) proofFirst_row_tie rfl ⟨rfl, rfl⟩ (by kernel_rfl) rfl
    (fun f fn hf hfn => by
      obtain rfl : f = 7 := Option.some.inj ((show Tryz.prog.funcNamed "modcert/modcertlaw36.ProofFirst" = some 7 by kernel_rfl).symm.trans hf) |>.symm
      obtain rfl : fn = Tryz.f7 := (Option.some.inj (Tryz.func7.symm.trans hfn)).symm
      exact ⟨by kernel_rfl, fun j t ht => by
        rw [Tryz.params7] at ht
        have hm : t ∈ [25, 26, 40, 37] := by simpa using Array.mem_of_getElem? ht
        have hall : ([25, 26, 40, 37].all fun u => !Tryz.prog.wantsStandIn u) = true := by kernel_rfl
        exact (show Tryz.prog.wantsStandIn t = false by simpa using List.all_eq_true.1 hall t hm)⟩)
    (by kernel_rfl)
#print axioms proofFirst_holds
end Go.Proofs.YtbmhkahphmgggaaGreatDoor
