/- Part 4 of the proof of tampers_ok: plain theorems, kept by a program out of the prover's own texts. No conditions. -/
import Derived.Test.YtbmhkahphmgggaaGreatDoorP03
set_option linter.unusedVariables false
set_option linter.unusedSimpArgs false
set_option linter.unusedSectionVars false
set_option maxRecDepth 100000
set_option maxHeartbeats 4000000
set_option linter.unusedVariables false
set_option linter.unusedSimpArgs false
namespace Go.Mp
open Go Go.Proofs
theorem s_term_Resolve (a0 : (List Term)) (a1 : (List Term)) (a2 : ByteArray) (r : (List Term) × Int) (hm : m_term_Resolve a0 a1 a2 = some r) : Fn Tryz.prog 196 [pSl (a0 : (List Term)), pSl (a1 : (List Term)), pS (a2)] (pTup [pSl (r.1 : (List Term)), pI (r.2)]) := by
  unfold m_term_Resolve at hm
  refine Spec.mk Tryz.func196 rfl rfl fun B => ?_
  refine TrC.seq ?_
  refine TrC.region rfl ?_
  refine L rfl rfl (PStep.assign rfl Lk.c) ?_
  refine L rfl rfl (PStep.assign rfl Lk.c) ?_
  refine TrL.nil ?_
  refine TrE.seq ?_
  refine TrC.seq ?_
  refine TrC.region rfl ?_
  refine L rfl rfl (PStep.move rfl (Lk.t rfl)) ?_
  refine L rfl rfl (PStep.move rfl (Lk.t rfl)) ?_
  obtain ⟨x1, hx1, hm⟩ := bnd_some hm
  refine TrL.allocG (AStep.call (s_term_split a0 a2 x1 hx1) Tryz.call224 rfl rfl (LkAll.cons (Lk.t rfl) (LkAll.cons (Lk.t rfl) LkAll.nil))) rfl (fun r1 => ?_)
  refine L rfl rfl (PStep.move rfl (Lk.t rfl)) ?_
  refine L rfl rfl (PStep.extract rfl (Lk.t rfl) rfl) ?_
  refine L rfl rfl (PStep.extract rfl (Lk.t rfl) rfl) ?_
  refine L rfl rfl (PStep.extract rfl (Lk.t rfl) rfl) ?_
  refine TrL.alloc (AStep.alloc Tryz.zeroValue107 rfl zc107 rfl rfl) rfl (fun b1 => ?_)
  refine LS rfl rfl (Step.storeW 0 Tryz.sizeOf107 rfl (Lk.t rfl) (Lk.t rfl) rfl rfl rfl) ?_
  refine L rfl rfl (PStep.assign rfl (Lk.t rfl)) ?_
  refine L rfl rfl (PStep.assign rfl (Lk.t rfl)) ?_
  refine TrL.nil ?_
  refine TrE.seq ?_
  refine TrC.seq ?_
  refine TrC.region rfl ?_
  refine L rfl rfl (PStep.move rfl (Lk.t rfl)) ?_
  refine L rfl rfl (PStep.move rfl (Lk.t rfl)) ?_
  obtain ⟨x2, hx2, hm⟩ := bnd_some hm
  refine TrL.allocG (AStep.call (s_term_split a1 a2 x2 hx2) Tryz.call224 rfl rfl (LkAll.cons (Lk.t rfl) (LkAll.cons (Lk.t rfl) LkAll.nil))) rfl (fun r2 => ?_)
  refine L rfl rfl (PStep.move rfl (Lk.t rfl)) ?_
  refine L rfl rfl (PStep.extract rfl (Lk.t rfl) rfl) ?_
  refine L rfl rfl (PStep.extract rfl (Lk.t rfl) rfl) ?_
  refine L rfl rfl (PStep.extract rfl (Lk.t rfl) rfl) ?_
  refine TrL.alloc (AStep.alloc Tryz.zeroValue107 rfl zc107 rfl rfl) rfl (fun b2 => ?_)
  refine LS rfl rfl (Step.storeW 0 Tryz.sizeOf107 rfl (Lk.t rfl) (Lk.t rfl) rfl rfl rfl) ?_
  refine L rfl rfl (PStep.assign rfl (Lk.t rfl)) ?_
  refine L rfl rfl (PStep.assign rfl (Lk.t rfl)) ?_
  refine TrL.nil ?_
  refine TrE.seq ?_
  refine TrC.seq ?_
  refine TrC.seq ?_
  refine TrC.region rfl ?_
  refine L rfl rfl (PStep.move rfl (Lk.t rfl)) ?_
  refine L rfl rfl (PStep.not rfl (Lk.t rfl)) ?_
  refine L rfl rfl (PStep.move rfl (Lk.t rfl)) ?_
  refine LW rfl (WStep.guard rfl rfl rfl rfl (fun hg => PStep.move rfl (Lk.t rfl))) ?_
  refine LW rfl (WStep.guard rfl rfl rfl rfl (fun hg => PStep.not rfl (Lk.g rfl hg))) ?_
  refine L rfl rfl (PStep.pickOr rfl (Lk.t rfl) (fun hq => Lk.g rfl hq)) ?_
  refine TrL.nil ?_
  refine TrE.seq ?_
  refine TrC.condB (Lk.t rfl) (fun hc1 => ?_) (fun hc1 => ?_)
  · have hm := cond_t hm hc1
    have hs1 := hc1
    try simp only [decide_eq_true_eq, decide_eq_false_iff_not, Bool.and_eq_true, Bool.or_eq_true, Bool.not_eq_true', Bool.not_eq_false', Bool.and_eq_false_iff, Bool.or_eq_false_iff] at hs1
    refine TrC.seq ?_
    refine TrC.region rfl ?_
    refine L rfl rfl (PStep.assign rfl Lk.c) ?_
    refine L rfl rfl (PStep.assign rfl Lk.c) ?_
    refine TrL.nil ?_
    refine TrE.seq ?_
    refine TrC.ret (TrE.thenR <| ?_)
    cases hm
    exact TrE.retOK (RetOK.eq (show _ = _ from rfl) (RetOK.tmp2 rfl (Lk.nilSl (α := Term) (Lk.t (t := 6) rfl)) (Lk.t (t := 7) rfl) (List.nil_sublist _)))
  · have hm := cond_f hm hc1
    have hs1 := hc1
    try simp only [decide_eq_true_eq, decide_eq_false_iff_not, Bool.and_eq_true, Bool.or_eq_true, Bool.not_eq_true', Bool.not_eq_false', Bool.and_eq_false_iff, Bool.or_eq_false_iff] at hs1
    refine TrC.skip ?_
    refine TrE.seq ?_
    refine TrC.seq ?_
    refine TrC.share 1 12 rfl rfl ?_
    refine TrC.front 3 rfl ?_
    refine TrC.lin1 13 mixed rfl (by kernel_rfl) (by kernel_rfl) rfl ?_
    refine M rfl rfl (PStep.move rfl (Lk.t rfl)) ?_
    refine M rfl rfl (PStep.move rfl (Lk.t rfl)) ?_
    obtain ⟨hk1, hm⟩ := chk_some hm
    refine MT (h0 := hRow false 107 r1 (x1.2.1 : (List Term))) (p := (fun z => pOwn z ((x1.2.1 ++ x2.2.1) : (List Term)))) (h := (fun z => hRow false 107 z ((x1.2.1 ++ x2.2.1) : (List Term)))) rfl (TStepG.append apT51 rfl rfl (Lk.t rfl) (Lk.shSl (Lk.t rfl)) (by have := hk1; omega)) ?_
    refine M rfl rfl (PStep.ldLocV (α := Term) (v := x1.1) 2 Tryz.isAgg107 Tryz.sizeOf107 rfl (Lk.t rfl) rfl rfl) ?_
    refine M rfl rfl (PStep.ldLocV (α := Term) (v := x2.1) 0 Tryz.isAgg107 Tryz.sizeOf107 rfl (Lk.t rfl) rfl rfl) ?_
    obtain ⟨hk2, hm⟩ := chk_some hm
    obtain ⟨hk3, hm⟩ := chk_some hm
    refine M rfl rfl (PStep.call (s_either x1.1 x2.1 hk2 hk3) Tryz.call225 rfl (LkAll.cons (Lk.t rfl) (LkAll.cons (Lk.t rfl) LkAll.nil))) ?_
    refine M rfl rfl (PStep.litX ([(either x1.1 x2.1)] : (List Term)) slT51 rfl ⟨rfl, Lk.agg (Lk.t rfl), trivial⟩ rfl rfl) ?_
    obtain ⟨hk4, hm⟩ := chk_some hm
    refine MO 2 2 2 39 (fun z => pOwn z ((x1.2.1 ++ x2.2.1) : (List Term))) (fun z => hRow false 107 z ((x1.2.1 ++ x2.2.1) : (List Term))) rfl (fun q => TStepG.share <| TStepG.append apT51 rfl rfl (Lk.t rfl) (Lk.slX (Lk.t rfl)) (by have := hk4; omega)) ?_
    obtain ⟨hk5, hm⟩ := chk_some hm
    obtain ⟨hk6, hm⟩ := chk_some hm
    refine M rfl rfl (PStep.call (s_CanonT (((x1.2.1 ++ x2.2.1) ++ ([(either x1.1 x2.1)] : (List Term)))) hk5 hk6) Tryz.call29 rfl (LkAll.cons (Lk.exSl (Lk.t rfl)) LkAll.nil)) ?_
    refine M rfl rfl (PStep.move rfl (Lk.t rfl)) ?_
    refine M rfl rfl (PStep.extract rfl (Lk.t rfl) rfl) ?_
    refine M rfl rfl (PStep.extract rfl (Lk.t rfl) rfl) ?_
    refine M rfl rfl (PStep.assign rfl (Lk.t rfl)) ?_
    refine FlowL.nil ?_
    refine ⟨rfl, ⟨⟨by kernel_rfl, ⟨_, _, _, rfl, rfl⟩, .inl ⟨_, _, _, rfl, rfl, rfl, rfl⟩⟩, trivial⟩, fun β => ?_⟩
    refine TrL.conv (E' := (44, pSh (β 7) (((x1.2.1 ++ x2.2.1) ++ ([(either x1.1 x2.1)] : (List Term))) : (List Term))) :: (39, pOwn (β 2) ((x1.2.1 ++ x2.2.1) : (List Term))) :: _) rfl (A' := hRow true 107 (β 7) (((x1.2.1 ++ x2.2.1) ++ ([(either x1.1 x2.1)] : (List Term))) : (List Term)) :: _) rfl ?_
    refine L rfl rfl (PStep.assign rfl (Lk.t rfl)) ?_
    refine TrL.nil ?_
    refine TrE.seq ?_
    refine TrC.seq ?_
    refine TrC.seq ?_
    refine TrC.region rfl ?_
    refine L rfl rfl (PStep.move rfl (Lk.t rfl)) ?_
    refine L rfl rfl (PStep.not rfl (Lk.t rfl)) ?_
    refine TrL.nil ?_
    refine TrE.seq ?_
    refine TrC.condB (Lk.t rfl) (fun hc2 => ?_) (fun hc2 => ?_)
    · have hm := cond_t hm hc2
      have hs2 := hc2
      try simp only [decide_eq_true_eq, decide_eq_false_iff_not, Bool.and_eq_true, Bool.or_eq_true, Bool.not_eq_true', Bool.not_eq_false', Bool.and_eq_false_iff, Bool.or_eq_false_iff] at hs2
      refine TrC.seq ?_
      refine TrC.region rfl ?_
      refine L rfl rfl (PStep.assign rfl Lk.c) ?_
      refine L rfl rfl (PStep.assign rfl Lk.c) ?_
      refine TrL.nil ?_
      refine TrE.seq ?_
      refine TrC.ret (TrE.thenR <| ?_)
      cases hm
      exact TrE.retOK (RetOK.eq (show _ = _ from rfl) (RetOK.tmp2 rfl (Lk.nilSl (α := Term) (Lk.t (t := 6) rfl)) (Lk.t (t := 7) rfl) (List.nil_sublist _)))
    · have hm := cond_f hm hc2
      have hs2 := hc2
      try simp only [decide_eq_true_eq, decide_eq_false_iff_not, Bool.and_eq_true, Bool.or_eq_true, Bool.not_eq_true', Bool.not_eq_false', Bool.and_eq_false_iff, Bool.or_eq_false_iff] at hs2
      refine TrC.skip ?_
      refine TrE.seq ?_
      refine TrC.seq ?_
      refine TrC.region rfl ?_
      refine L rfl rfl (PStep.move rfl (Lk.t rfl)) ?_
      refine L rfl rfl (PStep.assign rfl (Lk.t rfl)) ?_
      refine L rfl rfl (PStep.assign rfl Lk.c) ?_
      refine TrL.nil ?_
      refine TrE.seq ?_
      refine TrC.ret (?_)
      cases hm
      exact TrE.retOK (RetOK.eq (show _ = _ from rfl) (RetOK.tmp2 rfl (Lk.t (t := 6) rfl) (Lk.t (t := 7) rfl) (List.nil_sublist _)))
def m_proof_checker_resolve (a0 : Checker) (a1 : Inference) : Option ((List Term) × Bool) :=
  (bif ((((decide (a1.left < (0 : Int))) || (decide ((a0.derived.length : Int) ≤ a1.left))) || (decide (a1.right < (0 : Int)))) || (decide ((a0.derived.length : Int) ≤ a1.right))) then some (([] : (List Term)), false)
  else chk (0 ≤ a1.left ∧ a1.left < (a0.derived.length : Int)) <| chk (0 ≤ a1.right ∧ a1.right < (a0.derived.length : Int)) <| bnd (m_term_Resolve ((ix a0.derived a1.left)) ((ix a0.derived a1.right)) a1.path) fun x1 => some (x1.1, (decide (x1.2 = (0 : Int)))))
theorem s_proof_checker_resolve (a0 : Checker) (a1 : Inference) (bb0 : Nat) (oo0_3 : OS) (r : (List Term) × Bool) (hm : m_proof_checker_resolve a0 a1 = some r) : SpecX (X := Unit) Tryz.prog 167 [pPtr bb0 0, pT (a1 : Inference)] [hCells bb0 83 [pSl (a0.index_.releases : (List Release)), pV (.slice (a0.index_.interfaces).at_ (a0.index_.interfaces).len (a0.index_.interfaces).cap), pSl (a0.roots_ : (List Requirement)), pSh oo0_3 (a0.derived : (List (List Term)))], hRow true 51 oo0_3 (a0.derived : (List (List Term)))] (fun _ => pTup [pSl (r.1 : (List Term)), pB (r.2)]) (fun _ => [hCells bb0 83 [pSl (a0.index_.releases : (List Release)), pV (.slice (a0.index_.interfaces).at_ (a0.index_.interfaces).len (a0.index_.interfaces).cap), pSl (a0.roots_ : (List Requirement)), pSh oo0_3 (a0.derived : (List (List Term)))], hRow true 51 oo0_3 (a0.derived : (List (List Term)))]) := by
  unfold m_proof_checker_resolve at hm
  refine SpecX.mk Tryz.func167 rfl rfl fun B => ?_
  refine TrC.seq ?_
  refine TrC.region rfl ?_
  refine TrL.alloc (AStep.boxK rfl rfl (Lk.t rfl)) rfl (fun b1 => ?_)
  refine L rfl rfl (PStep.assign rfl Lk.c) ?_
  refine L rfl rfl (PStep.assign rfl Lk.c) ?_
  refine TrL.nil ?_
  refine TrE.seq ?_
  refine TrC.seq ?_
  refine TrC.region rfl ?_
  refine L rfl rfl (PStep.move rfl (Lk.t rfl)) ?_
  refine L rfl rfl (PStep.nilLoc rfl (Lk.t rfl)) ?_
  refine L rfl rfl (PStep.faLoc fo83_2 rfl (Lk.t rfl)) ?_
  refine L rfl rfl (PStep.ldLoc 1 Tryz.isAgg30 rfl (Lk.t rfl) rfl rfl) ?_
  refine L rfl rfl (PStep.lenOwn (xs := a0.derived) Tryz.runUnderlying30 rfl (Lk.shOwn (Lk.t rfl))) ?_
  refine L rfl rfl (PStep.assign rfl (Lk.t rfl)) ?_
  refine TrL.nil ?_
  refine TrE.seq ?_
  refine TrC.seq ?_
  refine TrC.seq ?_
  refine TrC.region rfl ?_
  refine L rfl rfl (PStep.faLoc fo68_4 rfl (Lk.t rfl)) ?_
  refine L rfl rfl (PStep.ldLoc 0 Tryz.isAgg3 rfl (Lk.t rfl) rfl rfl) ?_
  refine L rfl rfl (PStep.lss rfl (Lk.t rfl) Lk.c) ?_
  refine L rfl rfl (PStep.move rfl (Lk.t rfl)) ?_
  refine LW rfl (WStep.guard rfl rfl rfl rfl (fun hg => PStep.faLoc fo68_4 rfl (Lk.t rfl))) ?_
  refine LW rfl (WStep.guard rfl rfl rfl rfl (fun hg => PStep.ldLoc 0 Tryz.isAgg3 rfl (Lk.g rfl hg) rfl rfl)) ?_
  refine LW rfl (WStep.guard rfl rfl rfl rfl (fun hg => PStep.move rfl (Lk.t rfl))) ?_
  refine LW rfl (WStep.guard rfl rfl rfl rfl (fun hg => PStep.geq rfl (Lk.g rfl hg) (Lk.g rfl hg))) ?_
  refine L rfl rfl (PStep.pickOr rfl (Lk.t rfl) (fun hq => Lk.g rfl hq)) ?_
  refine L rfl rfl (PStep.move rfl (Lk.t rfl)) ?_
  refine LW rfl (WStep.guard rfl rfl rfl rfl (fun hg => PStep.faLoc fo68_5 rfl (Lk.t rfl))) ?_
  refine LW rfl (WStep.guard rfl rfl rfl rfl (fun hg => PStep.ldLoc 0 Tryz.isAgg3 rfl (Lk.g rfl hg) rfl rfl)) ?_
  refine LW rfl (WStep.guard rfl rfl rfl rfl (fun hg => PStep.lss rfl (Lk.g rfl hg) Lk.c)) ?_
  refine L rfl rfl (PStep.pickOr rfl (Lk.t rfl) (fun hq => Lk.g rfl hq)) ?_
  refine L rfl rfl (PStep.move rfl (Lk.t rfl)) ?_
  refine LW rfl (WStep.guard rfl rfl rfl rfl (fun hg => PStep.faLoc fo68_5 rfl (Lk.t rfl))) ?_
  refine LW rfl (WStep.guard rfl rfl rfl rfl (fun hg => PStep.ldLoc 0 Tryz.isAgg3 rfl (Lk.g rfl hg) rfl rfl)) ?_
  refine LW rfl (WStep.guard rfl rfl rfl rfl (fun hg => PStep.move rfl (Lk.t rfl))) ?_
  refine LW rfl (WStep.guard rfl rfl rfl rfl (fun hg => PStep.geq rfl (Lk.g rfl hg) (Lk.g rfl hg))) ?_
  refine L rfl rfl (PStep.pickOr rfl (Lk.t rfl) (fun hq => Lk.g rfl hq)) ?_
  refine TrL.nil ?_
  refine TrE.seq ?_
  refine TrC.condB (Lk.t rfl) (fun hc1 => ?_) (fun hc1 => ?_)
  · have hm := cond_t hm hc1
    have hs1 := hc1
    try simp only [decide_eq_true_eq, decide_eq_false_iff_not, Bool.and_eq_true, Bool.or_eq_true, Bool.not_eq_true', Bool.not_eq_false', Bool.and_eq_false_iff, Bool.or_eq_false_iff] at hs1
    refine TrC.seq ?_
    refine TrC.region rfl ?_
    refine L rfl rfl (PStep.assign rfl Lk.c) ?_
    refine L rfl rfl (PStep.assign rfl Lk.c) ?_
    refine TrL.nil ?_
    refine TrE.seq ?_
    refine TrC.ret (TrE.thenR <| ?_)
    cases hm
    exact TrE.retOKX (RetOKX.of (()) (RetOK.eq (show _ = _ from rfl) (RetOK.tmp2 rfl (Lk.nilSl (α := Term) (Lk.t (t := 4) rfl)) (Lk.t (t := 5) rfl) (List.Sublist.cons _ (List.Sublist.cons_cons _ (List.Sublist.cons_cons _ (List.nil_sublist _)))))))
  · have hm := cond_f hm hc1
    have hs1 := hc1
    try simp only [decide_eq_true_eq, decide_eq_false_iff_not, Bool.and_eq_true, Bool.or_eq_true, Bool.not_eq_true', Bool.not_eq_false', Bool.and_eq_false_iff, Bool.or_eq_false_iff] at hs1
    refine TrC.skip ?_
    refine TrE.seq ?_
    refine TrC.seq ?_
    refine TrC.flow 24 mixed rfl (by kernel_rfl) (by kernel_rfl) ?_
    refine F rfl rfl (PStep.move rfl (Lk.t rfl)) ?_
    refine F rfl rfl (PStep.nilLoc rfl (Lk.t rfl)) ?_
    refine F rfl rfl (PStep.faLoc fo83_2 rfl (Lk.t rfl)) ?_
    refine F rfl rfl (PStep.ldLoc 1 Tryz.isAgg30 rfl (Lk.t rfl) rfl rfl) ?_
    refine F rfl rfl (PStep.faLoc fo68_4 rfl (Lk.t rfl)) ?_
    refine F rfl rfl (PStep.ldLoc 0 Tryz.isAgg3 rfl (Lk.t rfl) rfl rfl) ?_
    obtain ⟨hk1, hm⟩ := chk_some hm
    refine F rfl rfl (PStep.ixD (xs := a0.derived) Tryz.runUnderlying30 Tryz.sizeOf51 rfl (Lk.shSl (Lk.t rfl)) (Lk.t rfl) hk1) ?_
    refine F rfl rfl (PStep.ldRef Tryz.isAgg51 rfl (Lk.t rfl) rfl) ?_
    refine F rfl rfl (PStep.move rfl (Lk.t rfl)) ?_
    refine F rfl rfl (PStep.nilLoc rfl (Lk.t rfl)) ?_
    refine F rfl rfl (PStep.faLoc fo83_2 rfl (Lk.t rfl)) ?_
    refine F rfl rfl (PStep.ldLoc 1 Tryz.isAgg30 rfl (Lk.t rfl) rfl rfl) ?_
    refine F rfl rfl (PStep.faLoc fo68_5 rfl (Lk.t rfl)) ?_
    refine F rfl rfl (PStep.ldLoc 0 Tryz.isAgg3 rfl (Lk.t rfl) rfl rfl) ?_
    obtain ⟨hk2, hm⟩ := chk_some hm
    refine F rfl rfl (PStep.ixD (xs := a0.derived) Tryz.runUnderlying30 Tryz.sizeOf51 rfl (Lk.shSl (Lk.t rfl)) (Lk.t rfl) hk2) ?_
    refine F rfl rfl (PStep.ldRef Tryz.isAgg51 rfl (Lk.t rfl) rfl) ?_
    refine F rfl rfl (PStep.faLoc fo68_1 rfl (Lk.t rfl)) ?_
    refine F rfl rfl (PStep.ldLoc 0 Tryz.isAgg9 rfl (Lk.t rfl) rfl rfl) ?_
    obtain ⟨x1, hx1, hm⟩ := bnd_some hm
    refine F rfl rfl (PStep.call ((s_term_Resolve ((ix a0.derived a1.left)) ((ix a0.derived a1.right)) a1.path x1 hx1)) Tryz.call196 rfl (LkAll.cons (Lk.t rfl) (LkAll.cons (Lk.t rfl) (LkAll.cons (Lk.t rfl) LkAll.nil)))) ?_
    refine F rfl rfl (PStep.move rfl (Lk.t rfl)) ?_
    refine F rfl rfl (PStep.extract rfl (Lk.t rfl) rfl) ?_
    refine F rfl rfl (PStep.extract rfl (Lk.t rfl) rfl) ?_
    refine F rfl rfl (PStep.assign rfl (Lk.t rfl)) ?_
    refine F rfl rfl (PStep.assign rfl (Lk.t rfl)) ?_
    refine FlowH.nil ?_
    refine ⟨rfl, ?_⟩
    refine AllocK.none rfl ?_
    refine TrL.nil ?_
    refine TrE.seq ?_
    refine TrC.seq ?_
    refine TrC.region rfl ?_
    refine L rfl rfl (PStep.move rfl (Lk.t rfl)) ?_
    refine L rfl rfl (PStep.move rfl (Lk.t rfl)) ?_
    refine L rfl rfl (PStep.eql rfl (Lk.t rfl) Lk.c) ?_
    refine L rfl rfl (PStep.assign rfl (Lk.t rfl)) ?_
    refine L rfl rfl (PStep.assign rfl (Lk.t rfl)) ?_
    refine TrL.nil ?_
    refine TrE.seq ?_
    refine TrC.ret (?_)
    cases hm
    exact TrE.retOKX (RetOKX.of (()) (RetOK.eq (show _ = _ from rfl) (RetOK.tmp2 rfl (Lk.t (t := 4) rfl) (Lk.t (t := 5) rfl) (List.Sublist.cons _ (List.Sublist.cons_cons _ (List.Sublist.cons_cons _ (List.nil_sublist _)))))))
def m_proof_kinds  : Option (Unit) :=
  some ()
theorem s_proof_kinds  (r : Unit) (hm : m_proof_kinds  = some r) : Fn Tryz.prog 111 [] (pAgg [pV (.func (.func 160) #[] #[]), pV (.func (.func 161) #[] #[]), pV (.func (.func 162) #[] #[]), pV (.func (.func 163) #[] #[]), pV (.func (.func 164) #[] #[]), pV (.func (.func 165) #[] #[]), pV (.func (.func 166) #[] #[]), pV (.func (.func 167) #[] #[])]) := by
  unfold m_proof_kinds at hm
  refine Spec.mk Tryz.func111 rfl rfl fun B => ?_
  refine TrC.seq ?_
  refine TrC.region rfl ?_
  refine TrL.alloc (AStep.alloc Tryz.zeroValue175 rfl zc175 rfl rfl) rfl (fun b1 => ?_)
  refine TrL.nil ?_
  refine TrE.seq ?_
  refine TrC.seq ?_
  refine TrC.region rfl ?_
  refine L rfl rfl ((PStep.build [(0, [pV (.func (.func 160) #[] #[])]), (1, [pV (.func (.func 161) #[] #[])])] stT174 rfl zc174 rfl ⟨⟨rfl, Nat.le_of_ble_eq_true rfl, (show Lk _ _ (pV (.func (.func 160) #[] #[])) from Lk.c).cs1⟩, ⟨rfl, Nat.le_of_ble_eq_true rfl, (show Lk _ _ (pV (.func (.func 161) #[] #[])) from Lk.c).cs1⟩, trivial⟩ rfl)) ?_
  refine L rfl rfl ((PStep.build [(0, [pV (.func (.func 162) #[] #[])]), (1, [pV (.func (.func 163) #[] #[])])] stT174 rfl zc174 rfl ⟨⟨rfl, Nat.le_of_ble_eq_true rfl, (show Lk _ _ (pV (.func (.func 162) #[] #[])) from Lk.c).cs1⟩, ⟨rfl, Nat.le_of_ble_eq_true rfl, (show Lk _ _ (pV (.func (.func 163) #[] #[])) from Lk.c).cs1⟩, trivial⟩ rfl)) ?_
  refine L rfl rfl ((PStep.build [(0, [pV (.func (.func 164) #[] #[])]), (1, [pV (.func (.func 165) #[] #[])])] stT174 rfl zc174 rfl ⟨⟨rfl, Nat.le_of_ble_eq_true rfl, (show Lk _ _ (pV (.func (.func 164) #[] #[])) from Lk.c).cs1⟩, ⟨rfl, Nat.le_of_ble_eq_true rfl, (show Lk _ _ (pV (.func (.func 165) #[] #[])) from Lk.c).cs1⟩, trivial⟩ rfl)) ?_
  refine L rfl rfl ((PStep.build [(0, [pV (.func (.func 166) #[] #[])]), (1, [pV (.func (.func 167) #[] #[])])] stT174 rfl zc174 rfl ⟨⟨rfl, Nat.le_of_ble_eq_true rfl, (show Lk _ _ (pV (.func (.func 166) #[] #[])) from Lk.c).cs1⟩, ⟨rfl, Nat.le_of_ble_eq_true rfl, (show Lk _ _ (pV (.func (.func 167) #[] #[])) from Lk.c).cs1⟩, trivial⟩ rfl)) ?_
  refine L rfl rfl ((PStep.buildA [(0, [pV (.func (.func 160) #[] #[]), pV (.func (.func 161) #[] #[])]), (2, [pV (.func (.func 162) #[] #[]), pV (.func (.func 163) #[] #[])]), (4, [pV (.func (.func 164) #[] #[]), pV (.func (.func 165) #[] #[])]), (6, [pV (.func (.func 166) #[] #[]), pV (.func (.func 167) #[] #[])])] arT175 rfl zc175 rfl rfl ⟨⟨rfl, Nat.le_of_ble_eq_true rfl, (Lk.t rfl).cs⟩, ⟨rfl, Nat.le_of_ble_eq_true rfl, (Lk.t rfl).cs⟩, ⟨rfl, Nat.le_of_ble_eq_true rfl, (Lk.t rfl).cs⟩, ⟨rfl, Nat.le_of_ble_eq_true rfl, (Lk.t rfl).cs⟩, trivial⟩ rfl)) ?_
  refine LS rfl rfl (Step.storeW 0 Tryz.sizeOf175 rfl (Lk.t rfl) (Lk.t rfl) rfl rfl rfl) ?_
  refine TrL.nil ?_
  refine TrE.seq ?_
  refine TrC.ret (?_)
  exact TrE.retOK (RetOK.eq (show _ = _ from rfl) (RetOK.cell 0 Tryz.isAgg175 Tryz.sizeOf175 rfl (Lk.t rfl) rfl rfl (List.nil_sublist _)))
def m_proof_checker_add (a0 : Checker) (a1 : Inference) : Option (Bool × Checker) :=
  (bif ((decide (a1.kind < (0 : Int))) || (decide ((3 : Int) < a1.kind))) then some (false, a0)
  else (bif decide (a1.kind = 0) then bnd (m_proof_kinds ) fun x1 => bnd (m_proof_kinds_1 a1) fun x2 => (bif (decide (x2 ≠ (⟨a1.kind, ByteArray.empty, 0, 0, 0, 0⟩ : Inference))) then some (false, a0)
  else bnd (m_proof_checker_root a0 a1) fun x3 => chk (a0.derived.length + (([x3.1] : (List (List Term)))).length ≤ 4294967296) <| some (x3.2, (⟨a0.index_, a0.roots_, (a0.derived ++ ([x3.1] : (List (List Term))))⟩ : Checker)))
  else (bif decide (a1.kind = 1) then bnd (m_proof_kinds ) fun x4 => bnd (m_proof_kinds_2 a1) fun x5 => (bif (decide (x5 ≠ (⟨a1.kind, ByteArray.empty, 0, 0, 0, 0⟩ : Inference))) then some (false, a0)
  else bnd (m_proof_checker_requires a0 a1) fun x6 => chk (a0.derived.length + (([x6.1] : (List (List Term)))).length ≤ 4294967296) <| some (x6.2, (⟨a0.index_, a0.roots_, (a0.derived ++ ([x6.1] : (List (List Term))))⟩ : Checker)))
  else (bif decide (a1.kind = 2) then bnd (m_proof_kinds ) fun x7 => bnd (m_proof_kinds_3 a1) fun x8 => (bif (decide (x8 ≠ (⟨a1.kind, ByteArray.empty, 0, 0, 0, 0⟩ : Inference))) then some (false, a0)
  else bnd (m_proof_checker_none a0 a1) fun x9 => chk (a0.derived.length + (([x9.1] : (List (List Term)))).length ≤ 4294967296) <| some (x9.2, (⟨a0.index_, a0.roots_, (a0.derived ++ ([x9.1] : (List (List Term))))⟩ : Checker)))
  else chk (a1.kind = 3) <| bnd (m_proof_kinds ) fun x10 => bnd (m_proof_kinds_4 a1) fun x11 => (bif (decide (x11 ≠ (⟨a1.kind, ByteArray.empty, 0, 0, 0, 0⟩ : Inference))) then some (false, a0)
  else bnd (m_proof_checker_resolve a0 a1) fun x12 => chk (a0.derived.length + (([x12.1] : (List (List Term)))).length ≤ 4294967296) <| some (x12.2, (⟨a0.index_, a0.roots_, (a0.derived ++ ([x12.1] : (List (List Term))))⟩ : Checker)))))))
theorem s_proof_checker_add (a0 : Checker) (a1 : Inference) (bb0 : Nat) (oo0_3 : OS) (r : Bool × Checker) (hm : m_proof_checker_add a0 a1 = some r) : SpecX (X := OS) Tryz.prog 66 [pPtr bb0 0, pT (a1 : Inference)] [hCells bb0 83 [pSl (a0.index_.releases : (List Release)), pV (.slice (a0.index_.interfaces).at_ (a0.index_.interfaces).len (a0.index_.interfaces).cap), pSl (a0.roots_ : (List Requirement)), pSh oo0_3 (a0.derived : (List (List Term)))], hRow true 51 oo0_3 (a0.derived : (List (List Term)))] (fun z => pB (r.1)) (fun z => [hCells bb0 83 [pSl (r.2.index_.releases : (List Release)), pV (.slice (r.2.index_.interfaces).at_ (r.2.index_.interfaces).len (r.2.index_.interfaces).cap), pSl (r.2.roots_ : (List Requirement)), pSh z (r.2.derived : (List (List Term)))], hRow true 51 z (r.2.derived : (List (List Term)))]) := by
  unfold m_proof_checker_add at hm
  refine SpecX.mk Tryz.func66 rfl rfl fun B => ?_
  refine TrC.seq ?_
  refine TrC.region rfl ?_
  refine TrL.alloc (AStep.boxK rfl rfl (Lk.t rfl)) rfl (fun b1 => ?_)
  refine L rfl rfl (PStep.assign rfl Lk.c) ?_
  refine TrL.nil ?_
  refine TrE.seq ?_
  refine TrC.seq ?_
  refine TrC.seq ?_
  refine TrC.region rfl ?_
  refine L rfl rfl (PStep.faLoc fo68_0 rfl (Lk.t rfl)) ?_
  refine L rfl rfl (PStep.ldLoc 0 Tryz.isAgg3 rfl (Lk.t rfl) rfl rfl) ?_
  refine L rfl rfl (PStep.lss rfl (Lk.t rfl) Lk.c) ?_
  refine L rfl rfl (PStep.move rfl (Lk.t rfl)) ?_
  refine LW rfl (WStep.guard rfl rfl rfl rfl (fun hg => PStep.faLoc fo68_0 rfl (Lk.t rfl))) ?_
  refine LW rfl (WStep.guard rfl rfl rfl rfl (fun hg => PStep.ldLoc 0 Tryz.isAgg3 rfl (Lk.g rfl hg) rfl rfl)) ?_
  refine LW rfl (WStep.guard rfl rfl rfl rfl (fun hg => PStep.gtr rfl (Lk.g rfl hg) Lk.c)) ?_
  refine L rfl rfl (PStep.pickOr rfl (Lk.t rfl) (fun hq => Lk.g rfl hq)) ?_
  refine TrL.nil ?_
  refine TrE.seq ?_
  refine TrC.condB (Lk.t rfl) (fun hc1 => ?_) (fun hc1 => ?_)
  · have hm := cond_t hm hc1
    have hs1 := hc1
    try simp only [decide_eq_true_eq, decide_eq_false_iff_not, Bool.and_eq_true, Bool.or_eq_true, Bool.not_eq_true', Bool.not_eq_false', Bool.and_eq_false_iff, Bool.or_eq_false_iff] at hs1
    refine TrC.seq ?_
    refine TrC.region rfl ?_
    refine L rfl rfl (PStep.assign rfl Lk.c) ?_
    refine TrL.nil ?_
    refine TrE.seq ?_
    refine TrC.ret (TrE.thenR <| ?_)
    cases hm
    exact TrE.retOKX (RetOKX.of oo0_3 (RetOK.eq (show _ = _ from rfl) (RetOK.tmp rfl (Lk.t (t := 4) rfl) (List.Sublist.cons _ (List.Sublist.cons_cons _ (List.Sublist.cons_cons _ (List.nil_sublist _)))))))
  · have hm := cond_f hm hc1
    have hs1 := hc1
    try simp only [decide_eq_true_eq, decide_eq_false_iff_not, Bool.and_eq_true, Bool.or_eq_true, Bool.not_eq_true', Bool.not_eq_false', Bool.and_eq_false_iff, Bool.or_eq_false_iff] at hs1
    refine TrC.skip ?_
    refine TrE.seq ?_
    refine TrC.seq ?_
    by_cases hz1 : a1.kind = 0
    · have hm := cond_t hm (decide_eq_true hz1)
      refine TrC.flow 5 mixed rfl (by kernel_rfl) (by kernel_rfl) ?_
      obtain ⟨x1, hx1, hm⟩ := bnd_some hm
      refine F rfl rfl (PStep.call ((s_proof_kinds  x1 hx1)) Tryz.call111 rfl LkAll.nil) ?_
      refine F rfl rfl (PStep.faLoc fo68_0 rfl (Lk.t rfl)) ?_
      refine F rfl rfl (PStep.ldLoc 0 Tryz.isAgg3 rfl (Lk.t rfl) rfl rfl) ?_
      refine F rfl rfl (PStep.indexAK 0 Tryz.runUnderlying175 Tryz.sizeOf174 Tryz.isAgg174 rfl (Lk.t rfl) (Lk.t rfl) hz1 rfl rfl rfl rfl) ?_
      refine FA rfl (AStep.alloc Tryz.zeroValue174 rfl zc174 rfl rfl) ?_
      refine FlowH.nil ?_
      refine ⟨rfl, ?_⟩
      refine AllocK.some rfl ?_
      intro b2
      refine LS rfl rfl (Step.storeW 0 Tryz.sizeOf174 rfl (Lk.t rfl) (Lk.t rfl) rfl rfl rfl) ?_
      refine TrL.nil ?_
      refine TrE.seq ?_
      refine TrC.seq ?_
      refine TrC.seq ?_
      refine TrC.flow 8 mixed rfl (by kernel_rfl) (by kernel_rfl) ?_
      refine F rfl rfl (PStep.faLoc fo174_0 rfl (Lk.t rfl)) ?_
      refine F rfl rfl (PStep.ldLoc 0 Tryz.isAgg171 rfl (Lk.t rfl) rfl rfl) ?_
      refine F rfl rfl (PStep.ldLocV (α := Inference) (v := a1) 1 Tryz.isAgg68 Tryz.sizeOf68 rfl (Lk.t rfl) rfl rfl) ?_
      obtain ⟨x2, hx2, hm⟩ := bnd_some hm
      refine F rfl rfl (PStep.callV (X := Unit) () rfl (Lk.fnV (fun _ => s_proof_kinds_1 a1 x2 hx2) Tryz.call160 (Lk.t rfl)) (LkAll.cons (Lk.t rfl) LkAll.nil)) ?_
      refine F rfl rfl (PStep.faLoc fo68_0 rfl (Lk.t rfl)) ?_
      refine F rfl rfl (PStep.ldLoc 1 Tryz.isAgg3 rfl (Lk.t rfl) rfl rfl) ?_
      refine F rfl rfl (mk68_0 rfl (Lk.t rfl)) ?_
      refine F rfl rfl (PStep.Ne eqT68 cellsInference rfl (Lk.t rfl) (Lk.t rfl)) ?_
      refine FlowH.nil ?_
      refine ⟨rfl, ?_⟩
      refine AllocK.none rfl ?_
      refine TrL.nil ?_
      refine TrE.seq ?_
      refine TrC.condB (Lk.t rfl) (fun hc2 => ?_) (fun hc2 => ?_)
      · have hm := cond_t hm hc2
        have hs2 := hc2
        try simp only [decide_eq_true_eq, decide_eq_false_iff_not, Bool.and_eq_true, Bool.or_eq_true, Bool.not_eq_true', Bool.not_eq_false', Bool.and_eq_false_iff, Bool.or_eq_false_iff] at hs2
        refine TrC.seq ?_
        refine TrC.region rfl ?_
        refine L rfl rfl (PStep.assign rfl Lk.c) ?_
        refine TrL.nil ?_
        refine TrE.seq ?_
        refine TrC.ret (TrE.thenR <| ?_)
        cases hm
        exact TrE.retOKX (RetOKX.of oo0_3 (RetOK.eq (show _ = _ from rfl) (RetOK.tmp rfl (Lk.t (t := 4) rfl) (List.Sublist.cons _ (List.Sublist.cons _ (List.Sublist.cons_cons _ (List.Sublist.cons_cons _ (List.nil_sublist _))))))))
      · have hm := cond_f hm hc2
        have hs2 := hc2
        try simp only [decide_eq_true_eq, decide_eq_false_iff_not, Bool.and_eq_true, Bool.or_eq_true, Bool.not_eq_true', Bool.not_eq_false', Bool.and_eq_false_iff, Bool.or_eq_false_iff] at hs2
        refine TrC.skip ?_
        refine TrE.seq ?_
        refine TrC.seq ?_
        refine TrC.region rfl ?_
        refine L rfl rfl (PStep.faLoc fo174_1 rfl (Lk.t rfl)) ?_
        refine L rfl rfl (PStep.ldLoc 0 Tryz.isAgg172 rfl (Lk.t rfl) rfl rfl) ?_
        refine L rfl rfl (PStep.move rfl (Lk.t rfl)) ?_
        refine L rfl rfl (PStep.ldLocV (α := Inference) (v := a1) 1 Tryz.isAgg68 Tryz.sizeOf68 rfl (Lk.t rfl) rfl rfl) ?_
        obtain ⟨x3, hx3, hm⟩ := bnd_some hm
        refine TrL.front 3 rfl ?_
        refine TrL.front 3 rfl ?_
        refine TrL.callFVD (ps := [pPtr bb0 0, pT (a1 : Inference)]) (s_proof_checker_root a0 a1 bb0 oo0_3 x3 hx3) Tryz.call161 rfl rfl rfl (Lk.cloV (Lk.t rfl)) (LkAll.cons (Lk.t rfl) (LkAll.cons (Lk.t rfl) LkAll.nil)) rfl ?_
        intro _
        refine TrL.conv (E' := (33, pTup [pSl (x3.1 : (List Term)), pB (x3.2)]) :: _) rfl (A' := hCells bb0 83 [pSl (a0.index_.releases : (List Release)), pV (.slice (a0.index_.interfaces).at_ (a0.index_.interfaces).len (a0.index_.interfaces).cap), pSl (a0.roots_ : (List Requirement)), pSh oo0_3 (a0.derived : (List (List Term)))] :: hRow true 51 oo0_3 (a0.derived : (List (List Term))) :: _) rfl ?_
        refine L rfl rfl (PStep.move rfl (Lk.t rfl)) ?_
        refine L rfl rfl (PStep.extract rfl (Lk.t rfl) rfl) ?_
        refine L rfl rfl (PStep.extract rfl (Lk.t rfl) rfl) ?_
        refine L rfl rfl (PStep.assign rfl (Lk.t rfl)) ?_
        refine L rfl rfl (PStep.assign rfl (Lk.t rfl)) ?_
        refine TrL.nil ?_
        refine TrE.seq ?_
        refine TrC.seq ?_
        refine TrC.region rfl ?_
        refine L rfl rfl (PStep.move rfl (Lk.t rfl)) ?_
        refine L rfl rfl (PStep.move rfl (Lk.t rfl)) ?_
        refine L rfl rfl (PStep.nilLoc rfl (Lk.t rfl)) ?_
        refine L rfl rfl (PStep.faLoc fo83_2 rfl (Lk.t rfl)) ?_
        refine L rfl rfl (PStep.ldLoc 0 Tryz.isAgg30 rfl (Lk.t rfl) rfl rfl) ?_
        refine L rfl rfl (PStep.move rfl (Lk.t rfl)) ?_
        refine L rfl rfl (PStep.litX ([x3.1] : (List (List Term))) slT30 rfl ⟨rfl, Lk.eL (Lk.t rfl), trivial⟩ rfl rfl) ?_
        obtain ⟨hk1, hm⟩ := chk_some hm
        refine TrL.append 1 apT30 rfl rfl rfl (Lk.shOwn (Lk.t rfl)) (Lk.slX (Lk.t rfl)) rfl (by have := hk1; omega) (fun r1 => ?_)
        refine L rfl rfl (PStep.nilLoc rfl (Lk.t rfl)) ?_
        refine L rfl rfl (PStep.faLoc fo83_2 rfl (Lk.t rfl)) ?_
        refine LS rfl rfl (Step.store1 0 Tryz.sizeOf30 rfl (Lk.t rfl) (Lk.t rfl) rfl rfl rfl) ?_
        refine TrL.nil ?_
        refine TrE.seq ?_
        refine TrC.seq ?_
        refine TrC.region rfl ?_
        refine L rfl rfl (PStep.move rfl (Lk.t rfl)) ?_
        refine L rfl rfl (PStep.assign rfl (Lk.t rfl)) ?_
        refine TrL.nil ?_
        refine TrE.seq ?_
        refine TrC.ret (?_)
        refine TrE.shareCS 1 0 3 rfl rfl rfl ?_
        cases hm
        exact TrE.retOKX (RetOKX.of r1 (RetOK.eq (show _ = _ from rfl) (RetOK.tmp rfl (Lk.t (t := 4) rfl) (List.Sublist.cons_cons _ (List.Sublist.cons_cons _ (List.nil_sublist _))))))
    have hm := cond_f hm (decide_eq_false hz1)
    by_cases hz2 : a1.kind = 1
    · have hm := cond_t hm (decide_eq_true hz2)
      refine TrC.flow 5 mixed rfl (by kernel_rfl) (by kernel_rfl) ?_
      obtain ⟨x4, hx4, hm⟩ := bnd_some hm
      refine F rfl rfl (PStep.call ((s_proof_kinds  x4 hx4)) Tryz.call111 rfl LkAll.nil) ?_
      refine F rfl rfl (PStep.faLoc fo68_0 rfl (Lk.t rfl)) ?_
      refine F rfl rfl (PStep.ldLoc 0 Tryz.isAgg3 rfl (Lk.t rfl) rfl rfl) ?_
      refine F rfl rfl (PStep.indexAK 1 Tryz.runUnderlying175 Tryz.sizeOf174 Tryz.isAgg174 rfl (Lk.t rfl) (Lk.t rfl) hz2 rfl rfl rfl rfl) ?_
      refine FA rfl (AStep.alloc Tryz.zeroValue174 rfl zc174 rfl rfl) ?_
      refine FlowH.nil ?_
      refine ⟨rfl, ?_⟩
      refine AllocK.some rfl ?_
      intro b3
      refine LS rfl rfl (Step.storeW 0 Tryz.sizeOf174 rfl (Lk.t rfl) (Lk.t rfl) rfl rfl rfl) ?_
      refine TrL.nil ?_
      refine TrE.seq ?_
      refine TrC.seq ?_
      refine TrC.seq ?_
      refine TrC.flow 8 mixed rfl (by kernel_rfl) (by kernel_rfl) ?_
      refine F rfl rfl (PStep.faLoc fo174_0 rfl (Lk.t rfl)) ?_
      refine F rfl rfl (PStep.ldLoc 0 Tryz.isAgg171 rfl (Lk.t rfl) rfl rfl) ?_
      refine F rfl rfl (PStep.ldLocV (α := Inference) (v := a1) 1 Tryz.isAgg68 Tryz.sizeOf68 rfl (Lk.t rfl) rfl rfl) ?_
      obtain ⟨x5, hx5, hm⟩ := bnd_some hm
      refine F rfl rfl (PStep.callV (X := Unit) () rfl (Lk.fnV (fun _ => s_proof_kinds_2 a1 x5 hx5) Tryz.call162 (Lk.t rfl)) (LkAll.cons (Lk.t rfl) LkAll.nil)) ?_
      refine F rfl rfl (PStep.faLoc fo68_0 rfl (Lk.t rfl)) ?_
      refine F rfl rfl (PStep.ldLoc 1 Tryz.isAgg3 rfl (Lk.t rfl) rfl rfl) ?_
      refine F rfl rfl (mk68_0 rfl (Lk.t rfl)) ?_
      refine F rfl rfl (PStep.Ne eqT68 cellsInference rfl (Lk.t rfl) (Lk.t rfl)) ?_
      refine FlowH.nil ?_
      refine ⟨rfl, ?_⟩
      refine AllocK.none rfl ?_
      refine TrL.nil ?_
      refine TrE.seq ?_
      refine TrC.condB (Lk.t rfl) (fun hc3 => ?_) (fun hc3 => ?_)
      · have hm := cond_t hm hc3
        have hs3 := hc3
        try simp only [decide_eq_true_eq, decide_eq_false_iff_not, Bool.and_eq_true, Bool.or_eq_true, Bool.not_eq_true', Bool.not_eq_false', Bool.and_eq_false_iff, Bool.or_eq_false_iff] at hs3
        refine TrC.seq ?_
        refine TrC.region rfl ?_
        refine L rfl rfl (PStep.assign rfl Lk.c) ?_
        refine TrL.nil ?_
        refine TrE.seq ?_
        refine TrC.ret (TrE.thenR <| ?_)
        cases hm
        exact TrE.retOKX (RetOKX.of oo0_3 (RetOK.eq (show _ = _ from rfl) (RetOK.tmp rfl (Lk.t (t := 4) rfl) (List.Sublist.cons _ (List.Sublist.cons _ (List.Sublist.cons_cons _ (List.Sublist.cons_cons _ (List.nil_sublist _))))))))
      · have hm := cond_f hm hc3
        have hs3 := hc3
        try simp only [decide_eq_true_eq, decide_eq_false_iff_not, Bool.and_eq_true, Bool.or_eq_true, Bool.not_eq_true', Bool.not_eq_false', Bool.and_eq_false_iff, Bool.or_eq_false_iff] at hs3
        refine TrC.skip ?_
        refine TrE.seq ?_
        refine TrC.seq ?_
        refine TrC.region rfl ?_
        refine L rfl rfl (PStep.faLoc fo174_1 rfl (Lk.t rfl)) ?_
        refine L rfl rfl (PStep.ldLoc 0 Tryz.isAgg172 rfl (Lk.t rfl) rfl rfl) ?_
        refine L rfl rfl (PStep.move rfl (Lk.t rfl)) ?_
        refine L rfl rfl (PStep.ldLocV (α := Inference) (v := a1) 1 Tryz.isAgg68 Tryz.sizeOf68 rfl (Lk.t rfl) rfl rfl) ?_
        obtain ⟨x6, hx6, hm⟩ := bnd_some hm
        refine TrL.front 3 rfl ?_
        refine TrL.front 3 rfl ?_
        refine TrL.callFVD (ps := [pPtr bb0 0, pT (a1 : Inference)]) (s_proof_checker_requires a0 a1 bb0 oo0_3 x6 hx6) Tryz.call163 rfl rfl rfl (Lk.cloV (Lk.t rfl)) (LkAll.cons (Lk.t rfl) (LkAll.cons (Lk.t rfl) LkAll.nil)) rfl ?_
        intro _
        refine TrL.conv (E' := (33, pTup [pSl (x6.1 : (List Term)), pB (x6.2)]) :: _) rfl (A' := hCells bb0 83 [pSl (a0.index_.releases : (List Release)), pV (.slice (a0.index_.interfaces).at_ (a0.index_.interfaces).len (a0.index_.interfaces).cap), pSl (a0.roots_ : (List Requirement)), pSh oo0_3 (a0.derived : (List (List Term)))] :: hRow true 51 oo0_3 (a0.derived : (List (List Term))) :: _) rfl ?_
        refine L rfl rfl (PStep.move rfl (Lk.t rfl)) ?_
        refine L rfl rfl (PStep.extract rfl (Lk.t rfl) rfl) ?_
        refine L rfl rfl (PStep.extract rfl (Lk.t rfl) rfl) ?_
        refine L rfl rfl (PStep.assign rfl (Lk.t rfl)) ?_
        refine L rfl rfl (PStep.assign rfl (Lk.t rfl)) ?_
        refine TrL.nil ?_
        refine TrE.seq ?_
        refine TrC.seq ?_
        refine TrC.region rfl ?_
        refine L rfl rfl (PStep.move rfl (Lk.t rfl)) ?_
        refine L rfl rfl (PStep.move rfl (Lk.t rfl)) ?_
        refine L rfl rfl (PStep.nilLoc rfl (Lk.t rfl)) ?_
        refine L rfl rfl (PStep.faLoc fo83_2 rfl (Lk.t rfl)) ?_
        refine L rfl rfl (PStep.ldLoc 0 Tryz.isAgg30 rfl (Lk.t rfl) rfl rfl) ?_
        refine L rfl rfl (PStep.move rfl (Lk.t rfl)) ?_
        refine L rfl rfl (PStep.litX ([x6.1] : (List (List Term))) slT30 rfl ⟨rfl, Lk.eL (Lk.t rfl), trivial⟩ rfl rfl) ?_
        obtain ⟨hk2, hm⟩ := chk_some hm
        refine TrL.append 1 apT30 rfl rfl rfl (Lk.shOwn (Lk.t rfl)) (Lk.slX (Lk.t rfl)) rfl (by have := hk2; omega) (fun r2 => ?_)
        refine L rfl rfl (PStep.nilLoc rfl (Lk.t rfl)) ?_
        refine L rfl rfl (PStep.faLoc fo83_2 rfl (Lk.t rfl)) ?_
        refine LS rfl rfl (Step.store1 0 Tryz.sizeOf30 rfl (Lk.t rfl) (Lk.t rfl) rfl rfl rfl) ?_
        refine TrL.nil ?_
        refine TrE.seq ?_
        refine TrC.seq ?_
        refine TrC.region rfl ?_
        refine L rfl rfl (PStep.move rfl (Lk.t rfl)) ?_
        refine L rfl rfl (PStep.assign rfl (Lk.t rfl)) ?_
        refine TrL.nil ?_
        refine TrE.seq ?_
        refine TrC.ret (?_)
        refine TrE.shareCS 1 0 3 rfl rfl rfl ?_
        cases hm
        exact TrE.retOKX (RetOKX.of r2 (RetOK.eq (show _ = _ from rfl) (RetOK.tmp rfl (Lk.t (t := 4) rfl) (List.Sublist.cons_cons _ (List.Sublist.cons_cons _ (List.nil_sublist _))))))
    have hm := cond_f hm (decide_eq_false hz2)
    by_cases hz3 : a1.kind = 2
    · have hm := cond_t hm (decide_eq_true hz3)
      refine TrC.flow 5 mixed rfl (by kernel_rfl) (by kernel_rfl) ?_
      obtain ⟨x7, hx7, hm⟩ := bnd_some hm
      refine F rfl rfl (PStep.call ((s_proof_kinds  x7 hx7)) Tryz.call111 rfl LkAll.nil) ?_
      refine F rfl rfl (PStep.faLoc fo68_0 rfl (Lk.t rfl)) ?_
      refine F rfl rfl (PStep.ldLoc 0 Tryz.isAgg3 rfl (Lk.t rfl) rfl rfl) ?_
      refine F rfl rfl (PStep.indexAK 2 Tryz.runUnderlying175 Tryz.sizeOf174 Tryz.isAgg174 rfl (Lk.t rfl) (Lk.t rfl) hz3 rfl rfl rfl rfl) ?_
      refine FA rfl (AStep.alloc Tryz.zeroValue174 rfl zc174 rfl rfl) ?_
      refine FlowH.nil ?_
      refine ⟨rfl, ?_⟩
      refine AllocK.some rfl ?_
      intro b4
      refine LS rfl rfl (Step.storeW 0 Tryz.sizeOf174 rfl (Lk.t rfl) (Lk.t rfl) rfl rfl rfl) ?_
      refine TrL.nil ?_
      refine TrE.seq ?_
      refine TrC.seq ?_
      refine TrC.seq ?_
      refine TrC.flow 8 mixed rfl (by kernel_rfl) (by kernel_rfl) ?_
      refine F rfl rfl (PStep.faLoc fo174_0 rfl (Lk.t rfl)) ?_
      refine F rfl rfl (PStep.ldLoc 0 Tryz.isAgg171 rfl (Lk.t rfl) rfl rfl) ?_
      refine F rfl rfl (PStep.ldLocV (α := Inference) (v := a1) 1 Tryz.isAgg68 Tryz.sizeOf68 rfl (Lk.t rfl) rfl rfl) ?_
      obtain ⟨x8, hx8, hm⟩ := bnd_some hm
      refine F rfl rfl (PStep.callV (X := Unit) () rfl (Lk.fnV (fun _ => s_proof_kinds_3 a1 x8 hx8) Tryz.call164 (Lk.t rfl)) (LkAll.cons (Lk.t rfl) LkAll.nil)) ?_
      refine F rfl rfl (PStep.faLoc fo68_0 rfl (Lk.t rfl)) ?_
      refine F rfl rfl (PStep.ldLoc 1 Tryz.isAgg3 rfl (Lk.t rfl) rfl rfl) ?_
      refine F rfl rfl (mk68_0 rfl (Lk.t rfl)) ?_
      refine F rfl rfl (PStep.Ne eqT68 cellsInference rfl (Lk.t rfl) (Lk.t rfl)) ?_
      refine FlowH.nil ?_
      refine ⟨rfl, ?_⟩
      refine AllocK.none rfl ?_
      refine TrL.nil ?_
      refine TrE.seq ?_
      refine TrC.condB (Lk.t rfl) (fun hc4 => ?_) (fun hc4 => ?_)
      · have hm := cond_t hm hc4
        have hs4 := hc4
        try simp only [decide_eq_true_eq, decide_eq_false_iff_not, Bool.and_eq_true, Bool.or_eq_true, Bool.not_eq_true', Bool.not_eq_false', Bool.and_eq_false_iff, Bool.or_eq_false_iff] at hs4
        refine TrC.seq ?_
        refine TrC.region rfl ?_
        refine L rfl rfl (PStep.assign rfl Lk.c) ?_
        refine TrL.nil ?_
        refine TrE.seq ?_
        refine TrC.ret (TrE.thenR <| ?_)
        cases hm
        exact TrE.retOKX (RetOKX.of oo0_3 (RetOK.eq (show _ = _ from rfl) (RetOK.tmp rfl (Lk.t (t := 4) rfl) (List.Sublist.cons _ (List.Sublist.cons _ (List.Sublist.cons_cons _ (List.Sublist.cons_cons _ (List.nil_sublist _))))))))
      · have hm := cond_f hm hc4
        have hs4 := hc4
        try simp only [decide_eq_true_eq, decide_eq_false_iff_not, Bool.and_eq_true, Bool.or_eq_true, Bool.not_eq_true', Bool.not_eq_false', Bool.and_eq_false_iff, Bool.or_eq_false_iff] at hs4
        refine TrC.skip ?_
        refine TrE.seq ?_
        refine TrC.seq ?_
        refine TrC.region rfl ?_
        refine L rfl rfl (PStep.faLoc fo174_1 rfl (Lk.t rfl)) ?_
        refine L rfl rfl (PStep.ldLoc 0 Tryz.isAgg172 rfl (Lk.t rfl) rfl rfl) ?_
        refine L rfl rfl (PStep.move rfl (Lk.t rfl)) ?_
        refine L rfl rfl (PStep.ldLocV (α := Inference) (v := a1) 1 Tryz.isAgg68 Tryz.sizeOf68 rfl (Lk.t rfl) rfl rfl) ?_
        obtain ⟨x9, hx9, hm⟩ := bnd_some hm
        refine TrL.front 3 rfl ?_
        refine TrL.front 3 rfl ?_
        refine TrL.callFVD (ps := [pPtr bb0 0, pT (a1 : Inference)]) (s_proof_checker_none a0 a1 bb0 oo0_3 x9 hx9) Tryz.call165 rfl rfl rfl (Lk.cloV (Lk.t rfl)) (LkAll.cons (Lk.t rfl) (LkAll.cons (Lk.t rfl) LkAll.nil)) rfl ?_
        intro _
        refine TrL.conv (E' := (33, pTup [pSl (x9.1 : (List Term)), pB (x9.2)]) :: _) rfl (A' := hCells bb0 83 [pSl (a0.index_.releases : (List Release)), pV (.slice (a0.index_.interfaces).at_ (a0.index_.interfaces).len (a0.index_.interfaces).cap), pSl (a0.roots_ : (List Requirement)), pSh oo0_3 (a0.derived : (List (List Term)))] :: hRow true 51 oo0_3 (a0.derived : (List (List Term))) :: _) rfl ?_
        refine L rfl rfl (PStep.move rfl (Lk.t rfl)) ?_
        refine L rfl rfl (PStep.extract rfl (Lk.t rfl) rfl) ?_
        refine L rfl rfl (PStep.extract rfl (Lk.t rfl) rfl) ?_
        refine L rfl rfl (PStep.assign rfl (Lk.t rfl)) ?_
        refine L rfl rfl (PStep.assign rfl (Lk.t rfl)) ?_
        refine TrL.nil ?_
        refine TrE.seq ?_
        refine TrC.seq ?_
        refine TrC.region rfl ?_
        refine L rfl rfl (PStep.move rfl (Lk.t rfl)) ?_
        refine L rfl rfl (PStep.move rfl (Lk.t rfl)) ?_
        refine L rfl rfl (PStep.nilLoc rfl (Lk.t rfl)) ?_
        refine L rfl rfl (PStep.faLoc fo83_2 rfl (Lk.t rfl)) ?_
        refine L rfl rfl (PStep.ldLoc 0 Tryz.isAgg30 rfl (Lk.t rfl) rfl rfl) ?_
        refine L rfl rfl (PStep.move rfl (Lk.t rfl)) ?_
        refine L rfl rfl (PStep.litX ([x9.1] : (List (List Term))) slT30 rfl ⟨rfl, Lk.eL (Lk.t rfl), trivial⟩ rfl rfl) ?_
        obtain ⟨hk3, hm⟩ := chk_some hm
        refine TrL.append 1 apT30 rfl rfl rfl (Lk.shOwn (Lk.t rfl)) (Lk.slX (Lk.t rfl)) rfl (by have := hk3; omega) (fun r3 => ?_)
        refine L rfl rfl (PStep.nilLoc rfl (Lk.t rfl)) ?_
        refine L rfl rfl (PStep.faLoc fo83_2 rfl (Lk.t rfl)) ?_
        refine LS rfl rfl (Step.store1 0 Tryz.sizeOf30 rfl (Lk.t rfl) (Lk.t rfl) rfl rfl rfl) ?_
        refine TrL.nil ?_
        refine TrE.seq ?_
        refine TrC.seq ?_
        refine TrC.region rfl ?_
        refine L rfl rfl (PStep.move rfl (Lk.t rfl)) ?_
        refine L rfl rfl (PStep.assign rfl (Lk.t rfl)) ?_
        refine TrL.nil ?_
        refine TrE.seq ?_
        refine TrC.ret (?_)
        refine TrE.shareCS 1 0 3 rfl rfl rfl ?_
        cases hm
        exact TrE.retOKX (RetOKX.of r3 (RetOK.eq (show _ = _ from rfl) (RetOK.tmp rfl (Lk.t (t := 4) rfl) (List.Sublist.cons_cons _ (List.Sublist.cons_cons _ (List.nil_sublist _))))))
    have hm := cond_f hm (decide_eq_false hz3)
    obtain ⟨hk4, hm⟩ := chk_some hm
    refine TrC.flow 5 mixed rfl (by kernel_rfl) (by kernel_rfl) ?_
    obtain ⟨x10, hx10, hm⟩ := bnd_some hm
    refine F rfl rfl (PStep.call ((s_proof_kinds  x10 hx10)) Tryz.call111 rfl LkAll.nil) ?_
    refine F rfl rfl (PStep.faLoc fo68_0 rfl (Lk.t rfl)) ?_
    refine F rfl rfl (PStep.ldLoc 0 Tryz.isAgg3 rfl (Lk.t rfl) rfl rfl) ?_
    refine F rfl rfl (PStep.indexAK 3 Tryz.runUnderlying175 Tryz.sizeOf174 Tryz.isAgg174 rfl (Lk.t rfl) (Lk.t rfl) hk4 rfl rfl rfl rfl) ?_
    refine FA rfl (AStep.alloc Tryz.zeroValue174 rfl zc174 rfl rfl) ?_
    refine FlowH.nil ?_
    refine ⟨rfl, ?_⟩
    refine AllocK.some rfl ?_
    intro b5
    refine LS rfl rfl (Step.storeW 0 Tryz.sizeOf174 rfl (Lk.t rfl) (Lk.t rfl) rfl rfl rfl) ?_
    refine TrL.nil ?_
    refine TrE.seq ?_
    refine TrC.seq ?_
    refine TrC.seq ?_
    refine TrC.flow 8 mixed rfl (by kernel_rfl) (by kernel_rfl) ?_
    refine F rfl rfl (PStep.faLoc fo174_0 rfl (Lk.t rfl)) ?_
    refine F rfl rfl (PStep.ldLoc 0 Tryz.isAgg171 rfl (Lk.t rfl) rfl rfl) ?_
    refine F rfl rfl (PStep.ldLocV (α := Inference) (v := a1) 1 Tryz.isAgg68 Tryz.sizeOf68 rfl (Lk.t rfl) rfl rfl) ?_
    obtain ⟨x11, hx11, hm⟩ := bnd_some hm
    refine F rfl rfl (PStep.callV (X := Unit) () rfl (Lk.fnV (fun _ => s_proof_kinds_4 a1 x11 hx11) Tryz.call166 (Lk.t rfl)) (LkAll.cons (Lk.t rfl) LkAll.nil)) ?_
    refine F rfl rfl (PStep.faLoc fo68_0 rfl (Lk.t rfl)) ?_
    refine F rfl rfl (PStep.ldLoc 1 Tryz.isAgg3 rfl (Lk.t rfl) rfl rfl) ?_
    refine F rfl rfl (mk68_0 rfl (Lk.t rfl)) ?_
    refine F rfl rfl (PStep.Ne eqT68 cellsInference rfl (Lk.t rfl) (Lk.t rfl)) ?_
    refine FlowH.nil ?_
    refine ⟨rfl, ?_⟩
    refine AllocK.none rfl ?_
    refine TrL.nil ?_
    refine TrE.seq ?_
    refine TrC.condB (Lk.t rfl) (fun hc5 => ?_) (fun hc5 => ?_)
    · have hm := cond_t hm hc5
      have hs5 := hc5
      try simp only [decide_eq_true_eq, decide_eq_false_iff_not, Bool.and_eq_true, Bool.or_eq_true, Bool.not_eq_true', Bool.not_eq_false', Bool.and_eq_false_iff, Bool.or_eq_false_iff] at hs5
      refine TrC.seq ?_
      refine TrC.region rfl ?_
      refine L rfl rfl (PStep.assign rfl Lk.c) ?_
      refine TrL.nil ?_
      refine TrE.seq ?_
      refine TrC.ret (TrE.thenR <| ?_)
      cases hm
      exact TrE.retOKX (RetOKX.of oo0_3 (RetOK.eq (show _ = _ from rfl) (RetOK.tmp rfl (Lk.t (t := 4) rfl) (List.Sublist.cons _ (List.Sublist.cons _ (List.Sublist.cons_cons _ (List.Sublist.cons_cons _ (List.nil_sublist _))))))))
    · have hm := cond_f hm hc5
      have hs5 := hc5
      try simp only [decide_eq_true_eq, decide_eq_false_iff_not, Bool.and_eq_true, Bool.or_eq_true, Bool.not_eq_true', Bool.not_eq_false', Bool.and_eq_false_iff, Bool.or_eq_false_iff] at hs5
      refine TrC.skip ?_
      refine TrE.seq ?_
      refine TrC.seq ?_
      refine TrC.region rfl ?_
      refine L rfl rfl (PStep.faLoc fo174_1 rfl (Lk.t rfl)) ?_
      refine L rfl rfl (PStep.ldLoc 0 Tryz.isAgg172 rfl (Lk.t rfl) rfl rfl) ?_
      refine L rfl rfl (PStep.move rfl (Lk.t rfl)) ?_
      refine L rfl rfl (PStep.ldLocV (α := Inference) (v := a1) 1 Tryz.isAgg68 Tryz.sizeOf68 rfl (Lk.t rfl) rfl rfl) ?_
      obtain ⟨x12, hx12, hm⟩ := bnd_some hm
      refine TrL.front 3 rfl ?_
      refine TrL.front 3 rfl ?_
      refine TrL.callFVD (ps := [pPtr bb0 0, pT (a1 : Inference)]) (s_proof_checker_resolve a0 a1 bb0 oo0_3 x12 hx12) Tryz.call167 rfl rfl rfl (Lk.cloV (Lk.t rfl)) (LkAll.cons (Lk.t rfl) (LkAll.cons (Lk.t rfl) LkAll.nil)) rfl ?_
      intro _
      refine TrL.conv (E' := (33, pTup [pSl (x12.1 : (List Term)), pB (x12.2)]) :: _) rfl (A' := hCells bb0 83 [pSl (a0.index_.releases : (List Release)), pV (.slice (a0.index_.interfaces).at_ (a0.index_.interfaces).len (a0.index_.interfaces).cap), pSl (a0.roots_ : (List Requirement)), pSh oo0_3 (a0.derived : (List (List Term)))] :: hRow true 51 oo0_3 (a0.derived : (List (List Term))) :: _) rfl ?_
      refine L rfl rfl (PStep.move rfl (Lk.t rfl)) ?_
      refine L rfl rfl (PStep.extract rfl (Lk.t rfl) rfl) ?_
      refine L rfl rfl (PStep.extract rfl (Lk.t rfl) rfl) ?_
      refine L rfl rfl (PStep.assign rfl (Lk.t rfl)) ?_
      refine L rfl rfl (PStep.assign rfl (Lk.t rfl)) ?_
      refine TrL.nil ?_
      refine TrE.seq ?_
      refine TrC.seq ?_
      refine TrC.region rfl ?_
      refine L rfl rfl (PStep.move rfl (Lk.t rfl)) ?_
      refine L rfl rfl (PStep.move rfl (Lk.t rfl)) ?_
      refine L rfl rfl (PStep.nilLoc rfl (Lk.t rfl)) ?_
      refine L rfl rfl (PStep.faLoc fo83_2 rfl (Lk.t rfl)) ?_
      refine L rfl rfl (PStep.ldLoc 0 Tryz.isAgg30 rfl (Lk.t rfl) rfl rfl) ?_
      refine L rfl rfl (PStep.move rfl (Lk.t rfl)) ?_
      refine L rfl rfl (PStep.litX ([x12.1] : (List (List Term))) slT30 rfl ⟨rfl, Lk.eL (Lk.t rfl), trivial⟩ rfl rfl) ?_
      obtain ⟨hk5, hm⟩ := chk_some hm
      refine TrL.append 1 apT30 rfl rfl rfl (Lk.shOwn (Lk.t rfl)) (Lk.slX (Lk.t rfl)) rfl (by have := hk5; omega) (fun r4 => ?_)
      refine L rfl rfl (PStep.nilLoc rfl (Lk.t rfl)) ?_
      refine L rfl rfl (PStep.faLoc fo83_2 rfl (Lk.t rfl)) ?_
      refine LS rfl rfl (Step.store1 0 Tryz.sizeOf30 rfl (Lk.t rfl) (Lk.t rfl) rfl rfl rfl) ?_
      refine TrL.nil ?_
      refine TrE.seq ?_
      refine TrC.seq ?_
      refine TrC.region rfl ?_
      refine L rfl rfl (PStep.move rfl (Lk.t rfl)) ?_
      refine L rfl rfl (PStep.assign rfl (Lk.t rfl)) ?_
      refine TrL.nil ?_
      refine TrE.seq ?_
      refine TrC.ret (?_)
      refine TrE.shareCS 1 0 3 rfl rfl rfl ?_
      cases hm
      exact TrE.retOKX (RetOKX.of r4 (RetOK.eq (show _ = _ from rfl) (RetOK.tmp rfl (Lk.t (t := 4) rfl) (List.Sublist.cons_cons _ (List.Sublist.cons_cons _ (List.nil_sublist _))))))
def m_proof_newChecker_L3 (a2 : (List Inference)) (K1 : (List (List Term)) → (List Release) → RawSl → (List Requirement) → Option (Option Checker × Int)) : Nat → (List (List Term)) → (List Release) → RawSl → (List Requirement) → Nat → Option (Option Checker × Int)
  | 0, _, _, _, _, _ => none
  | n + 1, l2, c4, c5, c6, i1 =>
    (bif (decide ((i1 : Int) < (a2.length : Int))) then bnd (m_proof_checker_add ((⟨(⟨c4, c5⟩ : Index), c6, l2⟩ : Checker)) (((ix a2 ((i1 : Int)))))) fun x3 => (bif (!x3.1) then some ((none : Option Checker), (18 : Int))
  else m_proof_newChecker_L3 a2 K1 n x3.2.derived x3.2.index_.releases x3.2.index_.interfaces x3.2.roots_ ((i1 + 1)))
  else K1 l2 c4 c5 c6)
def m_proof_newChecker (a0 : Index) (a1 : (List Requirement)) (a2 : (List Inference)) : Option (Option Checker × Int) :=
  bnd (m_index_Check a0) fun x1 => bnd (gd ((decide (x1 ≠ (0 : Int))) = false) (m_index_CheckRequirements a1)) fun x2 => (bif ((decide (x1 ≠ (0 : Int))) || (decide (x2 ≠ (0 : Int)))) then some ((none : Option Checker), (1 : Int))
  else (bif (decide ((65536 : Int) < (a2.length : Int))) then some ((none : Option Checker), (7 : Int))
  else joinM (fun (l1 : (List (List Term))) (c1 : (List Release)) (c2 : RawSl) (c3 : (List Requirement)) =>
    some ((some ((⟨(⟨c1, c2⟩ : Index), c3, l1⟩ : Checker))), (0 : Int))) fun K1 =>
    m_proof_newChecker_L3 a2 K1 (a2.length + 1) (([] : (List (List Term)))) a0.releases a0.interfaces a1 0))
theorem s_proof_newChecker (a0 : Index) (a1 : (List Requirement)) (a2 : (List Inference)) (r : Option Checker × Int) (hm : m_proof_newChecker a0 a1 a2 = some r) : Fn Tryz.prog 36 [pT (a0 : Index), pSl (a1 : (List Requirement)), pSl (a2 : (List Inference))] (pTup [pOpt (r.1), pI (r.2)]) := by
  unfold m_proof_newChecker at hm
  refine Spec.mk Tryz.func36 rfl rfl fun B => ?_
  refine TrC.seq ?_
  refine TrC.region rfl ?_
  refine TrL.alloc (AStep.boxK rfl rfl (Lk.t rfl)) rfl (fun b1 => ?_)
  refine L rfl rfl (PStep.assign rfl Lk.c) ?_
  refine L rfl rfl (PStep.assign rfl Lk.c) ?_
  refine TrL.nil ?_
  refine TrE.seq ?_
  refine TrC.seq ?_
  refine TrC.seq ?_
  refine TrC.region rfl ?_
  refine L rfl rfl (PStep.ldLocV (α := Index) (v := a0) 0 Tryz.isAgg25 Tryz.sizeOf25 rfl (Lk.t rfl) rfl rfl) ?_
  obtain ⟨x1, hx1, hm⟩ := bnd_some hm
  refine L rfl rfl (PStep.call ((s_index_Check a0 x1 hx1)) Tryz.call64 rfl (LkAll.cons (Lk.t rfl) LkAll.nil)) ?_
  refine L rfl rfl (PStep.neq rfl (Lk.t rfl) Lk.c) ?_
  refine L rfl rfl (PStep.move rfl (Lk.t rfl)) ?_
  refine LW rfl (WStep.guard rfl rfl rfl rfl (fun hg => PStep.move rfl (Lk.t rfl))) ?_
  obtain ⟨x2, hx2, hm⟩ := bnd_some hm
  refine LW rfl (WStep.guard rfl rfl rfl rfl (fun hg => PStep.call ((s_index_CheckRequirements a1 x2 (gd_some hx2 hg))) Tryz.call65 rfl (LkAll.cons (Lk.g rfl hg) LkAll.nil))) ?_
  refine LW rfl (WStep.guard rfl rfl rfl rfl (fun hg => PStep.neq rfl (Lk.g rfl hg) Lk.c)) ?_
  refine L rfl rfl (PStep.pickOr rfl (Lk.t rfl) (fun hq => Lk.g rfl hq)) ?_
  refine TrL.nil ?_
  refine TrE.seq ?_
  refine TrC.condB (Lk.t rfl) (fun hc1 => ?_) (fun hc1 => ?_)
  · have hm := cond_t hm hc1
    have hs1 := hc1
    try simp only [decide_eq_true_eq, decide_eq_false_iff_not, Bool.and_eq_true, Bool.or_eq_true, Bool.not_eq_true', Bool.not_eq_false', Bool.and_eq_false_iff, Bool.or_eq_false_iff] at hs1
    refine TrC.seq ?_
    refine TrC.region rfl ?_
    refine L rfl rfl (PStep.assign rfl Lk.c) ?_
    refine L rfl rfl (PStep.assign rfl Lk.c) ?_
    refine TrL.nil ?_
    refine TrE.seq ?_
    refine TrC.ret (TrE.thenR <| ?_)
    cases hm
    exact TrE.retOK (RetOK.eq (show _ = _ from rfl) (RetOK.tmp2 rfl (Lk.optNone (α := Checker) (Lk.t (t := 6) rfl)) (Lk.t (t := 7) rfl) (List.nil_sublist _)))
  · have hm := cond_f hm hc1
    have hs1 := hc1
    try simp only [decide_eq_true_eq, decide_eq_false_iff_not, Bool.and_eq_true, Bool.or_eq_true, Bool.not_eq_true', Bool.not_eq_false', Bool.and_eq_false_iff, Bool.or_eq_false_iff] at hs1
    refine TrC.skip ?_
    refine TrE.seq ?_
    refine TrC.seq ?_
    refine TrC.seq ?_
    refine TrC.region rfl ?_
    refine L rfl rfl (PStep.move rfl (Lk.t rfl)) ?_
    refine L rfl rfl (PStep.len (xs := a2) (tys := #[]) Tryz.runUnderlying27 rfl (Lk.t rfl)) ?_
    refine L rfl rfl (PStep.gtr rfl (Lk.t rfl) Lk.c) ?_
    refine TrL.nil ?_
    refine TrE.seq ?_
    refine TrC.condB (Lk.t rfl) (fun hc2 => ?_) (fun hc2 => ?_)
    · have hm := cond_t hm hc2
      have hs2 := hc2
      try simp only [decide_eq_true_eq, decide_eq_false_iff_not, Bool.and_eq_true, Bool.or_eq_true, Bool.not_eq_true', Bool.not_eq_false', Bool.and_eq_false_iff, Bool.or_eq_false_iff] at hs2
      refine TrC.seq ?_
      refine TrC.region rfl ?_
      refine L rfl rfl (PStep.assign rfl Lk.c) ?_
      refine L rfl rfl (PStep.assign rfl Lk.c) ?_
      refine TrL.nil ?_
      refine TrE.seq ?_
      refine TrC.ret (TrE.thenR <| ?_)
      cases hm
      exact TrE.retOK (RetOK.eq (show _ = _ from rfl) (RetOK.tmp2 rfl (Lk.optNone (α := Checker) (Lk.t (t := 6) rfl)) (Lk.t (t := 7) rfl) (List.nil_sublist _)))
    · have hm := cond_f hm hc2
      have hs2 := hc2
      try simp only [decide_eq_true_eq, decide_eq_false_iff_not, Bool.and_eq_true, Bool.or_eq_true, Bool.not_eq_true', Bool.not_eq_false', Bool.and_eq_false_iff, Bool.or_eq_false_iff] at hs2
      refine TrC.skip ?_
      refine TrE.seq ?_
      refine TrC.seq ?_
      refine TrC.region rfl ?_
      refine L rfl rfl (PStep.ldLocV (α := Index) (v := a0) 0 Tryz.isAgg25 Tryz.sizeOf25 rfl (Lk.t rfl) rfl rfl) ?_
      refine L rfl rfl (PStep.move rfl (Lk.t rfl)) ?_
      refine L rfl rfl ((PStep.build [(0, Enc.cells (a0 : Index)), (2, [pSl (a1 : (List Requirement))])] stT83 rfl zx83 rfl ⟨⟨rfl, Nat.le_of_ble_eq_true rfl, (Lk.t rfl).cs⟩, ⟨rfl, Nat.le_of_ble_eq_true rfl, (Lk.t rfl).cs1⟩, trivial⟩ rfl)) ?_
      refine TrL.alloc (AStep.boxK rfl rfl (Lk.t rfl)) rfl (fun b2 => ?_)
      refine L rfl rfl (PStep.assign rfl (Lk.t rfl)) ?_
      refine TrL.nil ?_
      refine TrE.seq ?_
      refine TrC.lay (hRow true 51 .nil (([] : (List (List Term))) : (List (List Term)))) rfl ?_
      refine TrC.weakC 1 3 (q := pSh .nil ([] : (List (List Term)))) rfl rfl nilSh ?_
      obtain ⟨K1, hK1, hm⟩ := joinK hm
      refine TrC.meetM (X := (List (List Term)) × (List Release) × RawSl × (List Requirement) × OS) (fun ⟨l1, c1, c2, c3, o1⟩ => K1 l1 c1 c2 c3 = some r) (fun ⟨l1, c1, c2, c3, o1⟩ => []) [(8, _)] (fun ⟨l1, c1, c2, c3, o1⟩ => fun A => (List.set (List.set A 0 (hRow true 51 o1 (l1 : (List (List Term))))) 1 (hCells b2 83 [pSl (c1 : (List Release)), pV (.slice (c2).at_ (c2).len (c2).cap), pSl (c3 : (List Requirement)), pSh o1 (l1 : (List (List Term)))]))) (EnvSub.cons rfl EnvSub.nil) ?_ ?_
      · refine TrC.seq ?_
        refine TrC.region rfl ?_
        refine L rfl rfl (PStep.move rfl (Lk.t rfl)) ?_
        refine L rfl rfl (PStep.len (xs := a2) (tys := #[]) Tryz.runUnderlying27 rfl (Lk.t rfl)) ?_
        refine L rfl rfl (PStep.move rfl Lk.c) ?_
        refine TrL.nil ?_
        refine TrE.seq ?_
        refine TrC.block ?_
        refine TrC.know (Lk.t (t := 26) rfl) pSl.lt fun hl1 => ?_
        refine TrC.loopM (X := Nat × (List (List Term)) × (List Release) × RawSl × (List Requirement) × Nat × OS) (fun ⟨n, l2, c4, c5, c6, i1, o2⟩ => m_proof_newChecker_L3 a2 K1 n l2 c4 c5 c6 i1 = some r) (fun ⟨n, l2, c4, c5, c6, i1, o2⟩ => [(28, pI ((i1 : Int)))]) [(8, _), (26, _), (27, _)] (fun ⟨n, l2, c4, c5, c6, i1, o2⟩ => fun A => (List.set (List.set A 0 (hRow true 51 o2 (l2 : (List (List Term))))) 1 (hCells b2 83 [pSl (c4 : (List Release)), pV (.slice (c5).at_ (c5).len (c5).cap), pSl (c6 : (List Requirement)), pSh o2 (l2 : (List (List Term)))]))) (fun ⟨n, l2, c4, c5, c6, i1, o2⟩ => n) (((a2.length + 1 : Nat), ([] : (List (List Term))), a0.releases, a0.interfaces, a1, 0, .nil)) hm ((EnvSub.cons rfl (EnvSub.cons rfl (EnvSub.cons rfl (EnvSub.cons rfl EnvSub.nil))))) rfl ?_
        rintro ⟨n, l2, c4, c5, c6, i1, o2⟩ hm
        obtain ⟨n, rfl⟩ := succ_of (f := fun n => m_proof_newChecker_L3 a2 K1 n l2 c4 c5 c6 i1) rfl hm
        change m_proof_newChecker_L3 a2 K1 (n + 1) l2 c4 c5 c6 i1 = some r at hm
        rw [m_proof_newChecker_L3] at hm
        refine TrC.seq ?_
        refine TrC.region rfl ?_
        refine L rfl rfl (PStep.lss rfl (Lk.t rfl) (Lk.t rfl)) ?_
        refine TrL.nil ?_
        refine TrE.seq ?_
        refine TrC.seq ?_
        refine TrC.condB (Lk.t rfl) (fun hc3 => ?_) (fun hc3 => ?_)
        · have hm := cond_t hm hc3
          have hs3 := hc3
          try simp only [decide_eq_true_eq, decide_eq_false_iff_not, Bool.and_eq_true, Bool.or_eq_true, Bool.not_eq_true', Bool.not_eq_false', Bool.and_eq_false_iff, Bool.or_eq_false_iff] at hs3
          refine TrC.skip ?_
          refine TrE.seq ?_
          refine TrC.seq ?_
          refine TrC.block ?_
          refine TrC.seq ?_
          refine TrC.region rfl ?_
          refine L rfl rfl (PStep.ixD (xs := a2) Tryz.runUnderlying27 Tryz.sizeOf68 rfl (Lk.t rfl) (Lk.t rfl) (by omega)) ?_
          refine L rfl rfl (PStep.ldRefV (α := Inference) (v := (ix a2 ((i1 : Int)))) Tryz.isAgg68 Tryz.sizeOf68 rfl (Lk.t rfl) rfl) ?_
          refine TrL.alloc (AStep.alloc Tryz.zeroValue68 rfl zc68 rfl rfl) rfl (fun b3 => ?_)
          refine LS rfl rfl (Step.storeW 0 Tryz.sizeOf68 rfl (Lk.t rfl) (Lk.t rfl) rfl rfl rfl) ?_
          refine TrL.nil ?_
          refine TrE.seq ?_
          refine TrC.seq ?_
          refine TrC.region rfl ?_
          refine L rfl rfl (PStep.move rfl (Lk.t rfl)) ?_
          refine L rfl rfl (PStep.ldLocV (α := Inference) (v := ((ix a2 ((i1 : Int))))) 0 Tryz.isAgg68 Tryz.sizeOf68 rfl (Lk.t rfl) rfl rfl) ?_
          obtain ⟨x3, hx3, hm⟩ := bnd_some hm
          refine TrL.front 1 rfl ?_
          refine TrL.front 3 rfl ?_
          refine TrL.callFD (s_proof_checker_add ((⟨(⟨c4, c5⟩ : Index), c6, l2⟩ : Checker)) (((ix a2 ((i1 : Int))))) b2 o2 x3 hx3) Tryz.call66 rfl rfl rfl (LkAll.cons (Lk.t rfl) (LkAll.cons (Lk.t rfl) LkAll.nil)) rfl ?_
          intro r1
          refine TrL.conv (E' := (34, pB (x3.1)) :: _) rfl (A' := hCells b2 83 [pSl (x3.2.index_.releases : (List Release)), pV (.slice (x3.2.index_.interfaces).at_ (x3.2.index_.interfaces).len (x3.2.index_.interfaces).cap), pSl (x3.2.roots_ : (List Requirement)), pSh r1 (x3.2.derived : (List (List Term)))] :: hRow true 51 r1 (x3.2.derived : (List (List Term))) :: _) rfl ?_
          refine L rfl rfl (PStep.not rfl (Lk.t rfl)) ?_
          refine TrL.nil ?_
          refine TrE.seq ?_
          refine TrC.condB (Lk.t rfl) (fun hc4 => ?_) (fun hc4 => ?_)
          · have hm := cond_t hm hc4
            have hs4 := hc4
            try simp only [decide_eq_true_eq, decide_eq_false_iff_not, Bool.and_eq_true, Bool.or_eq_true, Bool.not_eq_true', Bool.not_eq_false', Bool.and_eq_false_iff, Bool.or_eq_false_iff] at hs4
            refine TrC.seq ?_
            refine TrC.region rfl ?_
            refine L rfl rfl (PStep.assign rfl Lk.c) ?_
            refine L rfl rfl (PStep.assign rfl Lk.c) ?_
            refine TrL.nil ?_
            refine TrE.seq ?_
            refine TrC.ret (TrE.blockR <| TrE.thenR <| TrE.thenR <| TrE.blockR <| TrE.thenR <| ?_)
            cases hm
            exact TrE.retOK (RetOK.eq (show _ = _ from rfl) (RetOK.tmp2 rfl (Lk.optNone (α := Checker) (Lk.t (t := 6) rfl)) (Lk.t (t := 7) rfl) (List.nil_sublist _)))
          · have hm := cond_f hm hc4
            have hs4 := hc4
            try simp only [decide_eq_true_eq, decide_eq_false_iff_not, Bool.and_eq_true, Bool.or_eq_true, Bool.not_eq_true', Bool.not_eq_false', Bool.and_eq_false_iff, Bool.or_eq_false_iff] at hs4
            refine TrC.skip ?_
            refine TrE.blockN ?_
            refine TrE.seq ?_
            refine TrC.region rfl ?_
            refine L rfl rfl (PStep.add64 rfl (Lk.t rfl) Lk.c (by omega)) ?_
            refine L rfl rfl (PStep.move rfl (Lk.t rfl)) ?_
            refine TrL.nil ?_
            refine TrE.takeA 1 3 rfl rfl ?_
            refine TrE.takeA 0 4 rfl rfl ?_
            refine TrE.dropF 3 ?_
            refine TrE.again ((n, x3.2.derived, x3.2.index_.releases, x3.2.index_.interfaces, x3.2.roots_, (i1 + 1), r1)) hm (Nat.lt_succ_self n) ((EnvSub.cons rfl (EnvSub.cons rfl (EnvSub.cons rfl (EnvSub.cons rfl EnvSub.nil))))) rfl
        · have hm := cond_f hm hc3
          have hs3 := hc3
          try simp only [decide_eq_true_eq, decide_eq_false_iff_not, Bool.and_eq_true, Bool.or_eq_true, Bool.not_eq_true', Bool.not_eq_false', Bool.and_eq_false_iff, Bool.or_eq_false_iff] at hs3
          refine TrC.exit (TrE.thenX <| TrE.thenX <| TrE.blockHit <| ?_)
          refine TrE.meetX ((l2, c4, c5, c6, o2)) hm ((EnvSub.cons rfl EnvSub.nil)) rfl
      · rintro ⟨l1, c1, c2, c3, o1⟩ hm
        change K1 l1 c1 c2 c3 = some r at hm
        subst hK1
        refine TrC.seq ?_
        refine TrC.region rfl ?_
        refine L rfl rfl (PStep.move rfl (Lk.t rfl)) ?_
        refine L rfl rfl (PStep.assign rfl (Lk.t rfl)) ?_
        refine L rfl rfl (PStep.assign rfl Lk.c) ?_
        refine TrL.nil ?_
        refine TrE.seq ?_
        refine TrC.ret (?_)
        refine TrE.weakC 1 3 rfl rfl shSl ?_
        refine TrE.settleC 1 6 rfl rfl ?_
        cases hm
        exact TrE.retOK (RetOK.eq (show _ = _ from rfl) (RetOK.tmp2 rfl (Lk.optSome (Lk.t (t := 6) rfl)) (Lk.t (t := 7) rfl) (List.nil_sublist _)))
def m_proof_Derive (a0 : Index) (a1 : (List Requirement)) (a2 : (List Inference)) : Option ((List (List Term)) × Int) :=
  bnd (m_proof_newChecker a0 a1 a2) fun x1 => (bif (decide (x1.2 ≠ (0 : Int))) then some (([] : (List (List Term))), x1.2)
  else chk (x1.1.isSome = true) <| some (((x1.1.getD default)).derived, (0 : Int)))
theorem s_proof_Derive (a0 : Index) (a1 : (List Requirement)) (a2 : (List Inference)) (r : (List (List Term)) × Int) (hm : m_proof_Derive a0 a1 a2 = some r) : Fn Tryz.prog 12 [pT (a0 : Index), pSl (a1 : (List Requirement)), pSl (a2 : (List Inference))] (pTup [pSl (r.1 : (List (List Term))), pI (r.2)]) := by
  unfold m_proof_Derive at hm
  refine Spec.mk Tryz.func12 rfl rfl fun B => ?_
  refine TrC.seq ?_
  refine TrC.region rfl ?_
  refine TrL.alloc (AStep.boxK rfl rfl (Lk.t rfl)) rfl (fun b1 => ?_)
  refine L rfl rfl (PStep.assign rfl Lk.c) ?_
  refine L rfl rfl (PStep.assign rfl Lk.c) ?_
  refine TrL.nil ?_
  refine TrE.seq ?_
  refine TrC.seq ?_
  refine TrC.region rfl ?_
  refine L rfl rfl (PStep.ldLocV (α := Index) (v := a0) 0 Tryz.isAgg25 Tryz.sizeOf25 rfl (Lk.t rfl) rfl rfl) ?_
  refine L rfl rfl (PStep.move rfl (Lk.t rfl)) ?_
  refine L rfl rfl (PStep.move rfl (Lk.t rfl)) ?_
  obtain ⟨x1, hx1, hm⟩ := bnd_some hm
  refine L rfl rfl (PStep.call ((s_proof_newChecker a0 a1 a2 x1 hx1)) Tryz.call36 rfl (LkAll.cons (Lk.t rfl) (LkAll.cons (Lk.t rfl) (LkAll.cons (Lk.t rfl) LkAll.nil)))) ?_
  refine L rfl rfl (PStep.move rfl (Lk.t rfl)) ?_
  refine L rfl rfl (PStep.extract rfl (Lk.t rfl) rfl) ?_
  refine L rfl rfl (PStep.extract rfl (Lk.t rfl) rfl) ?_
  refine L rfl rfl (PStep.assign rfl (Lk.t rfl)) ?_
  refine L rfl rfl (PStep.assign rfl (Lk.t rfl)) ?_
  refine TrL.nil ?_
  refine TrE.seq ?_
  refine TrC.seq ?_
  refine TrC.seq ?_
  refine TrC.region rfl ?_
  refine L rfl rfl (PStep.move rfl (Lk.t rfl)) ?_
  refine L rfl rfl (PStep.neq rfl (Lk.t rfl) Lk.c) ?_
  refine TrL.nil ?_
  refine TrE.seq ?_
  refine TrC.condB (Lk.t rfl) (fun hc1 => ?_) (fun hc1 => ?_)
  · have hm := cond_t hm hc1
    have hs1 := hc1
    try simp only [decide_eq_true_eq, decide_eq_false_iff_not, Bool.and_eq_true, Bool.or_eq_true, Bool.not_eq_true', Bool.not_eq_false', Bool.and_eq_false_iff, Bool.or_eq_false_iff] at hs1
    refine TrC.seq ?_
    refine TrC.region rfl ?_
    refine L rfl rfl (PStep.move rfl (Lk.t rfl)) ?_
    refine L rfl rfl (PStep.assign rfl Lk.c) ?_
    refine L rfl rfl (PStep.assign rfl (Lk.t rfl)) ?_
    refine TrL.nil ?_
    refine TrE.seq ?_
    refine TrC.ret (TrE.thenR <| ?_)
    cases hm
    exact TrE.retOK (RetOK.eq (show _ = _ from rfl) (RetOK.tmp2 rfl (Lk.nilSl (α := (List Term)) (Lk.t (t := 6) rfl)) (Lk.t (t := 7) rfl) (List.nil_sublist _)))
  · have hm := cond_f hm hc1
    have hs1 := hc1
    try simp only [decide_eq_true_eq, decide_eq_false_iff_not, Bool.and_eq_true, Bool.or_eq_true, Bool.not_eq_true', Bool.not_eq_false', Bool.and_eq_false_iff, Bool.or_eq_false_iff] at hs1
    refine TrC.skip ?_
    refine TrE.seq ?_
    refine TrC.seq ?_
    refine TrC.region rfl ?_
    refine L rfl rfl (PStep.move rfl (Lk.t rfl)) ?_
    obtain ⟨hk1, hm⟩ := chk_some hm
    refine L rfl rfl (PStep.optGet rfl (Lk.t rfl) hk1) ?_
    refine L rfl rfl (PStep.faRef fo83_2 rfl (Lk.t rfl)) ?_
    refine L rfl rfl (PStep.ldRef Tryz.isAgg30 rfl (Lk.t rfl) rfl) ?_
    refine L rfl rfl (PStep.assign rfl (Lk.t rfl)) ?_
    refine L rfl rfl (PStep.assign rfl Lk.c) ?_
    refine TrL.nil ?_
    refine TrE.seq ?_
    refine TrC.ret (?_)
    cases hm
    exact TrE.retOK (RetOK.eq (show _ = _ from rfl) (RetOK.tmp2 rfl (Lk.t (t := 6) rfl) (Lk.t (t := 7) rfl) (List.nil_sublist _)))
def m_proof_checker_refuted (a0 : Checker) : Option (Bool) :=
  chk (((decide ((0 : Int) < (a0.derived.length : Int))) = true) → -9223372036854775808 ≤ ((a0.derived.length : Int) - (1 : Int)) ∧ ((a0.derived.length : Int) - (1 : Int)) ≤ 9223372036854775807) <| chk (((decide ((0 : Int) < (a0.derived.length : Int))) = true) → 0 ≤ ((a0.derived.length : Int) - (1 : Int)) ∧ ((a0.derived.length : Int) - (1 : Int)) < (a0.derived.length : Int)) <| some (((decide ((0 : Int) < (a0.derived.length : Int))) && (decide ((((ix a0.derived (((a0.derived.length : Int) - (1 : Int))))).length : Int) = (0 : Int)))))
theorem s_proof_checker_refuted (a0 : Checker) (r : Bool) (hm : m_proof_checker_refuted a0 = some r) : Fn Tryz.prog 40 [pR (a0 : Checker)] (pB (r)) := by
  unfold m_proof_checker_refuted at hm
  refine Spec.mk Tryz.func40 rfl rfl fun B => ?_
  refine TrC.seq ?_
  refine TrC.region rfl ?_
  refine L rfl rfl (PStep.assign rfl Lk.c) ?_
  refine TrL.nil ?_
  refine TrE.seq ?_
  refine TrC.seq ?_
  refine TrC.region rfl ?_
  refine L rfl rfl (PStep.move rfl (Lk.t rfl)) ?_
  refine L rfl rfl (PStep.nilRef rfl (Lk.t rfl)) ?_
  refine L rfl rfl (PStep.faRef fo83_2 rfl (Lk.t rfl)) ?_
  refine L rfl rfl (PStep.ldRef Tryz.isAgg30 rfl (Lk.t rfl) rfl) ?_
  refine L rfl rfl (PStep.len (xs := a0.derived) (tys := #[]) Tryz.runUnderlying30 rfl (Lk.t rfl)) ?_
  refine L rfl rfl (PStep.assign rfl (Lk.t rfl)) ?_
  refine TrL.nil ?_
  refine TrE.seq ?_
  refine TrC.seq ?_
  refine TrC.region rfl ?_
  refine L rfl rfl (PStep.move rfl (Lk.t rfl)) ?_
  refine L rfl rfl (PStep.gtr rfl (Lk.t rfl) Lk.c) ?_
  refine L rfl rfl (PStep.move rfl (Lk.t rfl)) ?_
  refine LW rfl (WStep.guard rfl rfl rfl rfl (fun hg => PStep.move rfl (Lk.t rfl))) ?_
  refine LW rfl (WStep.guard rfl rfl rfl rfl (fun hg => PStep.nilRef rfl (Lk.g rfl hg))) ?_
  refine LW rfl (WStep.guard rfl rfl rfl rfl (fun hg => PStep.faRef fo83_2 rfl (Lk.g rfl hg))) ?_
  refine LW rfl (WStep.guard rfl rfl rfl rfl (fun hg => PStep.ldRef Tryz.isAgg30 rfl (Lk.g rfl hg) rfl)) ?_
  refine LW rfl (WStep.guard rfl rfl rfl rfl (fun hg => PStep.move rfl (Lk.t rfl))) ?_
  obtain ⟨hk1, hm⟩ := chk_some hm
  refine LW rfl (WStep.guard rfl rfl rfl rfl (fun hg => PStep.sub64 rfl (Lk.g rfl hg) Lk.c (hk1 hg))) ?_
  obtain ⟨hk2, hm⟩ := chk_some hm
  refine LW rfl (WStep.guard rfl rfl rfl rfl (fun hg => PStep.ixD (xs := a0.derived) Tryz.runUnderlying30 Tryz.sizeOf51 rfl (Lk.g rfl hg) (Lk.g rfl hg) (hk2 hg))) ?_
  refine LW rfl (WStep.guard rfl rfl rfl rfl (fun hg => PStep.ldRef Tryz.isAgg51 rfl (Lk.g rfl hg) rfl)) ?_
  refine LW rfl (WStep.guard rfl rfl rfl rfl (fun hg => PStep.len (xs := (ix a0.derived (((a0.derived.length : Int) - (1 : Int))))) (tys := #[]) Tryz.runUnderlying51 rfl (Lk.g rfl hg))) ?_
  refine LW rfl (WStep.guard rfl rfl rfl rfl (fun hg => PStep.eql rfl (Lk.g rfl hg) Lk.c)) ?_
  refine L rfl rfl (PStep.pickAnd rfl (Lk.t rfl) (fun hq => Lk.g rfl hq)) ?_
  refine L rfl rfl (PStep.assign rfl (Lk.t rfl)) ?_
  refine TrL.nil ?_
  refine TrE.seq ?_
  refine TrC.ret (?_)
  cases hm
  exact TrE.retOK (RetOK.eq (show _ = _ from rfl) (RetOK.tmp rfl (Lk.t (t := 2) rfl) (List.nil_sublist _)))
def m_proof_Refutes (a0 : Index) (a1 : (List Requirement)) (a2 : (List Inference)) : Option (Int) :=
  bnd (m_proof_newChecker a0 a1 a2) fun x1 => (bif (decide (x1.2 ≠ (0 : Int))) then some x1.2
  else chk (x1.1.isSome = true) <| bnd (m_proof_checker_refuted ((x1.1.getD default))) fun x2 => (bif (!x2) then some ((18 : Int))
  else some ((0 : Int))))
theorem s_proof_Refutes (a0 : Index) (a1 : (List Requirement)) (a2 : (List Inference)) (r : Int) (hm : m_proof_Refutes a0 a1 a2 = some r) : Fn Tryz.prog 15 [pT (a0 : Index), pSl (a1 : (List Requirement)), pSl (a2 : (List Inference))] (pI (r)) := by
  unfold m_proof_Refutes at hm
  refine Spec.mk Tryz.func15 rfl rfl fun B => ?_
  refine TrC.seq ?_
  refine TrC.region rfl ?_
  refine TrL.alloc (AStep.boxK rfl rfl (Lk.t rfl)) rfl (fun b1 => ?_)
  refine L rfl rfl (PStep.assign rfl Lk.c) ?_
  refine TrL.nil ?_
  refine TrE.seq ?_
  refine TrC.seq ?_
  refine TrC.region rfl ?_
  refine L rfl rfl (PStep.ldLocV (α := Index) (v := a0) 0 Tryz.isAgg25 Tryz.sizeOf25 rfl (Lk.t rfl) rfl rfl) ?_
  refine L rfl rfl (PStep.move rfl (Lk.t rfl)) ?_
  refine L rfl rfl (PStep.move rfl (Lk.t rfl)) ?_
  obtain ⟨x1, hx1, hm⟩ := bnd_some hm
  refine L rfl rfl (PStep.call ((s_proof_newChecker a0 a1 a2 x1 hx1)) Tryz.call36 rfl (LkAll.cons (Lk.t rfl) (LkAll.cons (Lk.t rfl) (LkAll.cons (Lk.t rfl) LkAll.nil)))) ?_
  refine L rfl rfl (PStep.move rfl (Lk.t rfl)) ?_
  refine L rfl rfl (PStep.extract rfl (Lk.t rfl) rfl) ?_
  refine L rfl rfl (PStep.extract rfl (Lk.t rfl) rfl) ?_
  refine L rfl rfl (PStep.assign rfl (Lk.t rfl)) ?_
  refine L rfl rfl (PStep.assign rfl (Lk.t rfl)) ?_
  refine TrL.nil ?_
  refine TrE.seq ?_
  refine TrC.seq ?_
  refine TrC.seq ?_
  refine TrC.region rfl ?_
  refine L rfl rfl (PStep.move rfl (Lk.t rfl)) ?_
  refine L rfl rfl (PStep.neq rfl (Lk.t rfl) Lk.c) ?_
  refine TrL.nil ?_
  refine TrE.seq ?_
  refine TrC.condB (Lk.t rfl) (fun hc1 => ?_) (fun hc1 => ?_)
  · have hm := cond_t hm hc1
    have hs1 := hc1
    try simp only [decide_eq_true_eq, decide_eq_false_iff_not, Bool.and_eq_true, Bool.or_eq_true, Bool.not_eq_true', Bool.not_eq_false', Bool.and_eq_false_iff, Bool.or_eq_false_iff] at hs1
    refine TrC.seq ?_
    refine TrC.region rfl ?_
    refine L rfl rfl (PStep.move rfl (Lk.t rfl)) ?_
    refine L rfl rfl (PStep.assign rfl (Lk.t rfl)) ?_
    refine TrL.nil ?_
    refine TrE.seq ?_
    refine TrC.ret (TrE.thenR <| ?_)
    cases hm
    exact TrE.retOK (RetOK.eq (show _ = _ from rfl) (RetOK.tmp rfl (Lk.t (t := 6) rfl) (List.nil_sublist _)))
  · have hm := cond_f hm hc1
    have hs1 := hc1
    try simp only [decide_eq_true_eq, decide_eq_false_iff_not, Bool.and_eq_true, Bool.or_eq_true, Bool.not_eq_true', Bool.not_eq_false', Bool.and_eq_false_iff, Bool.or_eq_false_iff] at hs1
    refine TrC.skip ?_
    refine TrE.seq ?_
    refine TrC.seq ?_
    refine TrC.seq ?_
    refine TrC.region rfl ?_
    refine L rfl rfl (PStep.move rfl (Lk.t rfl)) ?_
    obtain ⟨hk1, hm⟩ := chk_some hm
    obtain ⟨x2, hx2, hm⟩ := bnd_some hm
    refine L rfl rfl (PStep.call ((s_proof_checker_refuted ((x1.1.getD default)) x2 hx2)) Tryz.call40 rfl (LkAll.cons (Lk.optRef (Lk.t rfl) hk1) LkAll.nil)) ?_
    refine L rfl rfl (PStep.not rfl (Lk.t rfl)) ?_
    refine TrL.nil ?_
    refine TrE.seq ?_
    refine TrC.condB (Lk.t rfl) (fun hc2 => ?_) (fun hc2 => ?_)
    · have hm := cond_t hm hc2
      have hs2 := hc2
      try simp only [decide_eq_true_eq, decide_eq_false_iff_not, Bool.and_eq_true, Bool.or_eq_true, Bool.not_eq_true', Bool.not_eq_false', Bool.and_eq_false_iff, Bool.or_eq_false_iff] at hs2
      refine TrC.seq ?_
      refine TrC.region rfl ?_
      refine L rfl rfl (PStep.assign rfl Lk.c) ?_
      refine TrL.nil ?_
      refine TrE.seq ?_
      refine TrC.ret (TrE.thenR <| ?_)
      cases hm
      exact TrE.retOK (RetOK.eq (show _ = _ from rfl) (RetOK.tmp rfl (Lk.t (t := 6) rfl) (List.nil_sublist _)))
    · have hm := cond_f hm hc2
      have hs2 := hc2
      try simp only [decide_eq_true_eq, decide_eq_false_iff_not, Bool.and_eq_true, Bool.or_eq_true, Bool.not_eq_true', Bool.not_eq_false', Bool.and_eq_false_iff, Bool.or_eq_false_iff] at hs2
      refine TrC.skip ?_
      refine TrE.seq ?_
      refine TrC.seq ?_
      refine TrC.region rfl ?_
      refine L rfl rfl (PStep.assign rfl Lk.c) ?_
      refine TrL.nil ?_
      refine TrE.seq ?_
      refine TrC.ret (?_)
      cases hm
      exact TrE.retOK (RetOK.eq (show _ = _ from rfl) (RetOK.tmp rfl (Lk.t (t := 6) rfl) (List.nil_sublist _)))
def m_proof_increasing_L2 (a0 : (List Selected)) (K1 : Unit → Option (Bool)) : Nat → Nat → Option (Bool)
  | 0, _ => none
  | n + 1, i1 =>
    (bif (decide ((i1 : Int) < (a0.length : Int))) then chk (-9223372036854775808 ≤ ((i1 : Int) - (1 : Int)) ∧ ((i1 : Int) - (1 : Int)) ≤ 9223372036854775807) <| chk (0 ≤ ((i1 : Int) - (1 : Int)) ∧ ((i1 : Int) - (1 : Int)) < (a0.length : Int)) <| (bif (!strLt (((ix a0 (((i1 : Int) - (1 : Int))))).path) (((ix a0 ((i1 : Int)))).path)) then some false
  else m_proof_increasing_L2 a0 K1 n ((i1 + 1)))
  else K1 ())
def m_proof_increasing (a0 : (List Selected)) : Option (Bool) :=
  joinM (fun (_ : Unit) =>
    some true) fun K1 =>
    m_proof_increasing_L2 a0 K1 (a0.length + 1) 1
theorem s_proof_increasing (a0 : (List Selected)) (r : Bool) (hm : m_proof_increasing a0 = some r) : Fn Tryz.prog 41 [pSl (a0 : (List Selected))] (pB (r)) := by
  unfold m_proof_increasing at hm
  refine Spec.mk Tryz.func41 rfl rfl fun B => ?_
  refine TrC.seq ?_
  refine TrC.region rfl ?_
  refine L rfl rfl (PStep.assign rfl Lk.c) ?_
  refine TrL.nil ?_
  refine TrE.seq ?_
  obtain ⟨K1, hK1, hm⟩ := joinK hm
  refine TrC.meetM (X := Unit) (fun _ => K1 () = some r) (fun _ => []) [] (fun _ => fun A => A) EnvSub.nil ?_ ?_
  · refine TrC.seq ?_
    refine TrC.region rfl ?_
    refine L rfl rfl (PStep.assign rfl Lk.c) ?_
    refine TrL.nil ?_
    refine TrE.seq ?_
    refine TrC.block ?_
    refine TrC.know (Lk.t (t := 0) rfl) pSl.lt fun hl1 => ?_
    refine TrC.loopM (X := Nat × Nat) (fun ⟨n, i1⟩ => m_proof_increasing_L2 a0 K1 n i1 = some r) (fun ⟨n, i1⟩ => [(3, pI ((i1 : Int)))]) [(0, _)] (fun ⟨n, i1⟩ => fun A => A) (fun ⟨n, i1⟩ => n) (((a0.length + 1 : Nat), 1)) hm ((EnvSub.cons rfl (EnvSub.cons rfl EnvSub.nil))) rfl ?_
    rintro ⟨n, i1⟩ hm
    obtain ⟨n, rfl⟩ := succ_of (f := fun n => m_proof_increasing_L2 a0 K1 n i1) rfl hm
    change m_proof_increasing_L2 a0 K1 (n + 1) i1 = some r at hm
    rw [m_proof_increasing_L2] at hm
    refine TrC.seq ?_
    refine TrC.seq ?_
    refine TrC.region rfl ?_
    refine L rfl rfl (PStep.move rfl (Lk.t rfl)) ?_
    refine L rfl rfl (PStep.move rfl (Lk.t rfl)) ?_
    refine L rfl rfl (PStep.len (xs := a0) (tys := #[]) Tryz.runUnderlying37 rfl (Lk.t rfl)) ?_
    refine L rfl rfl (PStep.lss rfl (Lk.t rfl) (Lk.t rfl)) ?_
    refine TrL.nil ?_
    refine TrE.seq ?_
    refine TrC.condB (Lk.t rfl) (fun hc1 => ?_) (fun hc1 => ?_)
    · have hm := cond_t hm hc1
      have hs1 := hc1
      try simp only [decide_eq_true_eq, decide_eq_false_iff_not, Bool.and_eq_true, Bool.or_eq_true, Bool.not_eq_true', Bool.not_eq_false', Bool.and_eq_false_iff, Bool.or_eq_false_iff] at hs1
      refine TrC.skip ?_
      refine TrE.seq ?_
      refine TrC.seq ?_
      refine TrC.block ?_
      refine TrC.seq ?_
      refine TrC.flow 12 mixed rfl (by kernel_rfl) (by kernel_rfl) ?_
      refine F rfl rfl (PStep.move rfl (Lk.t rfl)) ?_
      refine F rfl rfl (PStep.move rfl (Lk.t rfl)) ?_
      obtain ⟨hk1, hm⟩ := chk_some hm
      refine F rfl rfl (PStep.sub64 rfl (Lk.t rfl) Lk.c hk1) ?_
      obtain ⟨hk2, hm⟩ := chk_some hm
      refine F rfl rfl (PStep.ixD (xs := a0) Tryz.runUnderlying37 Tryz.sizeOf59 rfl (Lk.t rfl) (Lk.t rfl) hk2) ?_
      refine F rfl rfl (PStep.faRef fo59_0 rfl (Lk.t rfl)) ?_
      refine F rfl rfl (PStep.ldRef Tryz.isAgg9 rfl (Lk.t rfl) rfl) ?_
      refine F rfl rfl (PStep.move rfl (Lk.t rfl)) ?_
      refine F rfl rfl (PStep.move rfl (Lk.t rfl)) ?_
      refine F rfl rfl (PStep.ixD (xs := a0) Tryz.runUnderlying37 Tryz.sizeOf59 rfl (Lk.t rfl) (Lk.t rfl) (by omega)) ?_
      refine F rfl rfl (PStep.faRef fo59_0 rfl (Lk.t rfl)) ?_
      refine F rfl rfl (PStep.ldRef Tryz.isAgg9 rfl (Lk.t rfl) rfl) ?_
      refine F rfl rfl (PStep.sgeq rfl (Lk.t rfl) (Lk.t rfl)) ?_
      refine FlowH.nil ?_
      refine ⟨rfl, ?_⟩
      refine AllocK.none rfl ?_
      refine TrL.nil ?_
      refine TrE.seq ?_
      refine TrC.condB (Lk.t rfl) (fun hc2 => ?_) (fun hc2 => ?_)
      · have hm := cond_t hm hc2
        have hs2 := hc2
        try simp only [decide_eq_true_eq, decide_eq_false_iff_not, Bool.and_eq_true, Bool.or_eq_true, Bool.not_eq_true', Bool.not_eq_false', Bool.and_eq_false_iff, Bool.or_eq_false_iff] at hs2
        refine TrC.seq ?_
        refine TrC.region rfl ?_
        refine L rfl rfl (PStep.assign rfl Lk.c) ?_
        refine TrL.nil ?_
        refine TrE.seq ?_
        refine TrC.ret (TrE.blockR <| TrE.thenR <| TrE.thenR <| TrE.blockR <| TrE.thenR <| ?_)
        cases hm
        exact TrE.retOK (RetOK.eq (show _ = _ from rfl) (RetOK.tmp rfl (Lk.t (t := 2) rfl) (List.nil_sublist _)))
      · have hm := cond_f hm hc2
        have hs2 := hc2
        try simp only [decide_eq_true_eq, decide_eq_false_iff_not, Bool.and_eq_true, Bool.or_eq_true, Bool.not_eq_true', Bool.not_eq_false', Bool.and_eq_false_iff, Bool.or_eq_false_iff] at hs2
        refine TrC.skip ?_
        refine TrE.blockN ?_
        refine TrE.seq ?_
        refine TrC.region rfl ?_
        refine L rfl rfl (PStep.move rfl (Lk.t rfl)) ?_
        refine L rfl rfl (PStep.add64 rfl (Lk.t rfl) Lk.c (by omega)) ?_
        refine L rfl rfl (PStep.assign rfl (Lk.t rfl)) ?_
        refine TrL.nil ?_
        refine TrE.again ((n, (i1 + 1))) hm (Nat.lt_succ_self n) ((EnvSub.cons rfl (EnvSub.cons rfl EnvSub.nil))) rfl
    · have hm := cond_f hm hc1
      have hs1 := hc1
      try simp only [decide_eq_true_eq, decide_eq_false_iff_not, Bool.and_eq_true, Bool.or_eq_true, Bool.not_eq_true', Bool.not_eq_false', Bool.and_eq_false_iff, Bool.or_eq_false_iff] at hs1
      refine TrC.exit (TrE.thenX <| TrE.thenX <| TrE.blockHit <| ?_)
      refine TrE.meetX (()) hm (EnvSub.nil) rfl
  · rintro _ hm
    change K1 () = some r at hm
    subst hK1
    refine TrC.seq ?_
    refine TrC.region rfl ?_
    refine L rfl rfl (PStep.assign rfl Lk.c) ?_
    refine TrL.nil ?_
    refine TrE.seq ?_
    refine TrC.ret (?_)
    cases hm
    exact TrE.retOK (RetOK.eq (show _ = _ from rfl) (RetOK.tmp rfl (Lk.t (t := 2) rfl) (List.nil_sublist _)))
def m_slices_IndexFunc_Selected_Selected_L2 (a0 : (List Selected)) (a1 : Selected → Option (Bool)) (K1 : Unit → Option (Int)) : Nat → Nat → Option (Int)
  | 0, _ => none
  | n + 1, i1 =>
    (bif (decide ((i1 : Int) < (a0.length : Int))) then bnd (a1 ((ix a0 ((i1 : Int))))) fun x1 => (bif x1 then some ((i1 : Int))
  else m_slices_IndexFunc_Selected_Selected_L2 a0 a1 K1 n ((i1 + 1)))
  else K1 ())
def m_slices_IndexFunc_Selected_Selected (a0 : (List Selected)) (a1 : Selected → Option (Bool)) : Option (Int) :=
  joinM (fun (_ : Unit) =>
    some ((-1 : Int))) fun K1 =>
    m_slices_IndexFunc_Selected_Selected_L2 a0 a1 K1 (a0.length + 1) 0
theorem s_slices_IndexFunc_Selected_Selected (a0 : (List Selected)) (a1 : Selected → Option (Bool)) (r : Int) (hm : m_slices_IndexFunc_Selected_Selected a0 a1 = some r) : Fn Tryz.prog 78 [pSl (a0 : (List Selected)), pF1 Tryz.prog (a1) (fun a => pT (a : Selected)) (fun r => pB (r))] (pI (r)) := by
  unfold m_slices_IndexFunc_Selected_Selected at hm
  refine Spec.mk Tryz.func78 rfl rfl fun B => ?_
  refine TrC.seq ?_
  refine TrC.region rfl ?_
  refine L rfl rfl (PStep.assign rfl Lk.c) ?_
  refine TrL.nil ?_
  refine TrE.seq ?_
  obtain ⟨K1, hK1, hm⟩ := joinK hm
  refine TrC.meetM (X := Unit) (fun _ => K1 () = some r) (fun _ => []) [] (fun _ => fun A => A) EnvSub.nil ?_ ?_
  · refine TrC.seq ?_
    refine TrC.region rfl ?_
    refine L rfl rfl (PStep.move rfl (Lk.t rfl)) ?_
    refine L rfl rfl (PStep.len (xs := a0) (tys := #[]) Tryz.runUnderlying37 rfl (Lk.t rfl)) ?_
    refine L rfl rfl (PStep.move rfl Lk.c) ?_
    refine TrL.nil ?_
    refine TrE.seq ?_
    refine TrC.block ?_
    refine TrC.know (Lk.t (t := 0) rfl) pSl.lt fun hl1 => ?_
    refine TrC.loopM (X := Nat × Nat) (fun ⟨n, i1⟩ => m_slices_IndexFunc_Selected_Selected_L2 a0 a1 K1 n i1 = some r) (fun ⟨n, i1⟩ => [(8, pI ((i1 : Int)))]) [(0, _), (1, _), (7, _)] (fun ⟨n, i1⟩ => fun A => A) (fun ⟨n, i1⟩ => n) (((a0.length + 1 : Nat), 0)) hm ((EnvSub.cons rfl (EnvSub.cons rfl (EnvSub.cons rfl (EnvSub.cons rfl EnvSub.nil))))) rfl ?_
    rintro ⟨n, i1⟩ hm
    obtain ⟨n, rfl⟩ := succ_of (f := fun n => m_slices_IndexFunc_Selected_Selected_L2 a0 a1 K1 n i1) rfl hm
    change m_slices_IndexFunc_Selected_Selected_L2 a0 a1 K1 (n + 1) i1 = some r at hm
    rw [m_slices_IndexFunc_Selected_Selected_L2] at hm
    refine TrC.seq ?_
    refine TrC.region rfl ?_
    refine L rfl rfl (PStep.lss rfl (Lk.t rfl) (Lk.t rfl)) ?_
    refine TrL.nil ?_
    refine TrE.seq ?_
    refine TrC.seq ?_
    refine TrC.condB (Lk.t rfl) (fun hc1 => ?_) (fun hc1 => ?_)
    · have hm := cond_t hm hc1
      have hs1 := hc1
      try simp only [decide_eq_true_eq, decide_eq_false_iff_not, Bool.and_eq_true, Bool.or_eq_true, Bool.not_eq_true', Bool.not_eq_false', Bool.and_eq_false_iff, Bool.or_eq_false_iff] at hs1
      refine TrC.skip ?_
      refine TrE.seq ?_
      refine TrC.seq ?_
      refine TrC.block ?_
      refine TrC.seq ?_
      refine TrC.region rfl ?_
      refine L rfl rfl (PStep.move rfl (Lk.t rfl)) ?_
      refine L rfl rfl (PStep.assign rfl (Lk.t rfl)) ?_
      refine TrL.nil ?_
      refine TrE.seq ?_
      refine TrC.seq ?_
      refine TrC.region rfl ?_
      refine L rfl rfl (PStep.move rfl (Lk.t rfl)) ?_
      refine L rfl rfl (PStep.move rfl (Lk.t rfl)) ?_
      refine L rfl rfl (PStep.move rfl (Lk.t rfl)) ?_
      refine L rfl rfl (PStep.ixD (xs := a0) Tryz.runUnderlying37 Tryz.sizeOf59 rfl (Lk.t rfl) (Lk.t rfl) (by omega)) ?_
      refine L rfl rfl (PStep.ldRefV (α := Selected) (v := (ix a0 ((i1 : Int)))) Tryz.isAgg59 Tryz.sizeOf59 rfl (Lk.t rfl) rfl) ?_
      obtain ⟨x1, hx1, hm⟩ := bnd_some hm
      refine L rfl rfl (PStep.callV ⟨((ix a0 ((i1 : Int))), x1), hx1⟩ rfl (Lk.t rfl) (LkAll.cons (Lk.t rfl) LkAll.nil)) ?_
      refine TrL.nil ?_
      refine TrE.seq ?_
      refine TrC.condB (Lk.t rfl) (fun hc2 => ?_) (fun hc2 => ?_)
      · have hm := cond_t hm hc2
        have hs2 := hc2
        try simp only [decide_eq_true_eq, decide_eq_false_iff_not, Bool.and_eq_true, Bool.or_eq_true, Bool.not_eq_true', Bool.not_eq_false', Bool.and_eq_false_iff, Bool.or_eq_false_iff] at hs2
        refine TrC.seq ?_
        refine TrC.region rfl ?_
        refine L rfl rfl (PStep.move rfl (Lk.t rfl)) ?_
        refine L rfl rfl (PStep.assign rfl (Lk.t rfl)) ?_
        refine TrL.nil ?_
        refine TrE.seq ?_
        refine TrC.ret (TrE.blockR <| TrE.thenR <| TrE.thenR <| TrE.blockR <| TrE.thenR <| ?_)
        cases hm
        exact TrE.retOK (RetOK.eq (show _ = _ from rfl) (RetOK.tmp rfl (Lk.t (t := 4) rfl) (List.nil_sublist _)))
      · have hm := cond_f hm hc2
        have hs2 := hc2
        try simp only [decide_eq_true_eq, decide_eq_false_iff_not, Bool.and_eq_true, Bool.or_eq_true, Bool.not_eq_true', Bool.not_eq_false', Bool.and_eq_false_iff, Bool.or_eq_false_iff] at hs2
        refine TrC.skip ?_
        refine TrE.blockN ?_
        refine TrE.seq ?_
        refine TrC.region rfl ?_
        refine L rfl rfl (PStep.add64 rfl (Lk.t rfl) Lk.c (by omega)) ?_
        refine L rfl rfl (PStep.move rfl (Lk.t rfl)) ?_
        refine TrL.nil ?_
        refine TrE.again ((n, (i1 + 1))) hm (Nat.lt_succ_self n) ((EnvSub.cons rfl (EnvSub.cons rfl (EnvSub.cons rfl (EnvSub.cons rfl EnvSub.nil))))) rfl
    · have hm := cond_f hm hc1
      have hs1 := hc1
      try simp only [decide_eq_true_eq, decide_eq_false_iff_not, Bool.and_eq_true, Bool.or_eq_true, Bool.not_eq_true', Bool.not_eq_false', Bool.and_eq_false_iff, Bool.or_eq_false_iff] at hs1
      refine TrC.exit (TrE.thenX <| TrE.thenX <| TrE.blockHit <| ?_)
      refine TrE.meetX (()) hm (EnvSub.nil) rfl
  · rintro _ hm
    change K1 () = some r at hm
    subst hK1
    refine TrC.seq ?_
    refine TrC.region rfl ?_
    refine L rfl rfl (PStep.assign rfl Lk.c) ?_
    refine TrL.nil ?_
    refine TrE.seq ?_
    refine TrC.ret (?_)
    cases hm
    exact TrE.retOK (RetOK.eq (show _ = _ from rfl) (RetOK.tmp rfl (Lk.t (t := 4) rfl) (List.nil_sublist _)))
def m_slices_ContainsFunc_Selected_Selected (a0 : (List Selected)) (a1 : Selected → Option (Bool)) : Option (Bool) :=
  bnd (m_slices_IndexFunc_Selected_Selected a0 a1) fun x1 => some ((decide ((0 : Int) ≤ x1)))
theorem s_slices_ContainsFunc_Selected_Selected (a0 : (List Selected)) (a1 : Selected → Option (Bool)) (r : Bool) (hm : m_slices_ContainsFunc_Selected_Selected a0 a1 = some r) : Fn Tryz.prog 51 [pSl (a0 : (List Selected)), pF1 Tryz.prog (a1) (fun a => pT (a : Selected)) (fun r => pB (r))] (pB (r)) := by
  unfold m_slices_ContainsFunc_Selected_Selected at hm
  refine Spec.mk Tryz.func51 rfl rfl fun B => ?_
  refine TrC.seq ?_
  refine TrC.region rfl ?_
  refine L rfl rfl (PStep.assign rfl Lk.c) ?_
  refine TrL.nil ?_
  refine TrE.seq ?_
  refine TrC.seq ?_
  refine TrC.region rfl ?_
  refine L rfl rfl (PStep.move rfl (Lk.t rfl)) ?_
  refine L rfl rfl (PStep.move rfl (Lk.t rfl)) ?_
  obtain ⟨x1, hx1, hm⟩ := bnd_some hm
  refine L rfl rfl (PStep.call ((s_slices_IndexFunc_Selected_Selected a0 a1 x1 hx1)) Tryz.call78 rfl (LkAll.cons (Lk.t rfl) (LkAll.cons (Lk.t rfl) LkAll.nil))) ?_
  refine L rfl rfl (PStep.geq rfl (Lk.t rfl) Lk.c) ?_
  refine L rfl rfl (PStep.assign rfl (Lk.t rfl)) ?_
  refine TrL.nil ?_
  refine TrE.seq ?_
  refine TrC.ret (?_)
  cases hm
  exact TrE.retOK (RetOK.eq (show _ = _ from rfl) (RetOK.tmp rfl (Lk.t (t := 4) rfl) (List.nil_sublist _)))
def m_slices_Clone_Set_Span (a0 : (List Span)) : Option ((List Span)) := chk (a0.length ≤ 4294967296) <| some a0
theorem s_slices_Clone_Set_Span (a0 : (List Span)) (r : (List Span)) (hm : m_slices_Clone_Set_Span a0 = some r) : FnRow Tryz.prog 137 [pSl a0] (fun o => pOwn o r) (fun o => hOwn 118 o r) := by
  unfold m_slices_Clone_Set_Span at hm
  obtain ⟨hk, hm⟩ := chk_some hm
  cases hm
  refine SpecX.mk Tryz.func137 rfl rfl fun B => ?_
  refine TrC.seq ?_
  refine TrC.region rfl ?_
  refine L rfl rfl (PStep.assign rfl Lk.c) ?_
  refine TrL.nil ?_
  refine TrE.seq ?_
  refine TrC.seq ?_
  refine TrC.seq ?_
  refine TrC.region rfl ?_
  refine L rfl rfl (PStep.move rfl (Lk.t rfl)) ?_
  refine L rfl rfl (PStep.eqNil Tryz.underlying105 rfl (Lk.t rfl)) ?_
  refine TrL.nil ?_
  refine TrE.seq ?_
  refine TrC.condN (Lk.t rfl) (fun hc => ?_) ?_
  · refine TrC.seq ?_
    refine TrC.region rfl ?_
    refine L rfl rfl (PStep.assign rfl Lk.c) ?_
    refine TrL.nil ?_
    refine TrE.seq ?_
    refine TrC.ret (TrE.thenR <| ?_)
    refine TrE.lay (hOwn 118 .nil a0) rfl ?_
    subst hc
    exact TrE.retOKX (RetOKX.row1 0 .nil rfl (Lk.ownNil (Lk.t rfl)) rfl rfl)
  refine TrC.skip ?_
  refine TrE.seq ?_
  refine TrC.seq ?_
  refine TrC.region rfl ?_
  refine TrL.allocG (AStep.litOwn ([] : (List Span)) slT105 rfl rfl trivial rfl rfl) rfl (fun r1 => ?_)
  refine L rfl rfl (PStep.move rfl (Lk.t rfl)) ?_
  refine TrL.append 0 apT105 rfl rfl rfl (Lk.t rfl) (Lk.t rfl) rfl (by simp only [List.length_nil, Nat.zero_add]; omega) (fun r2 => ?_)
  refine L rfl rfl (PStep.assign rfl (Lk.t rfl)) ?_
  refine TrL.nil ?_
  refine TrE.seq ?_
  refine TrC.ret ?_
  exact TrE.retOKX (RetOKX.row1 0 r2 rfl (Lk.t rfl) rfl rfl)
def m_index_clone_L3 (a0 : Release) (K1 : (List Requirement) → Option (Release)) : Nat → (List Requirement) → Nat → Option (Release)
  | 0, _, _ => none
  | n + 1, l2, i1 =>
    (bif (decide ((i1 : Int) < (a0.requirements.length : Int))) then bnd (m_slices_Clone_Set_Span (((ix a0.requirements ((i1 : Int)))).set_)) fun x1 => chk (l2.length + (([(⟨((ix a0.requirements ((i1 : Int)))).path, x1⟩ : Requirement)] : (List Requirement))).length ≤ 4294967296) <| m_index_clone_L3 a0 K1 n ((l2 ++ ([(⟨((ix a0.requirements ((i1 : Int)))).path, x1⟩ : Requirement)] : (List Requirement)))) ((i1 + 1))
  else K1 l2)
def m_index_clone (a0 : Release) : Option (Release) :=
  joinM (fun (l1 : (List Requirement)) =>
    some ((⟨a0.path, a0.version, l1, a0.archive, a0.interface, a0.certificate, a0.yanked⟩ : Release))) fun K1 =>
    m_index_clone_L3 a0 K1 (a0.requirements.length + 1) (([] : (List Requirement))) 0
theorem s_index_clone (a0 : Release) (r : Release) (hm : m_index_clone a0 = some r) : Fn Tryz.prog 98 [pT (a0 : Release)] (pT (r : Release)) := by
  unfold m_index_clone at hm
  refine Spec.mk Tryz.func98 rfl rfl fun B => ?_
  refine TrC.seq ?_
  refine TrC.region rfl ?_
  refine TrL.alloc (AStep.boxK rfl rfl (Lk.t rfl)) rfl (fun b1 => ?_)
  refine TrL.alloc (AStep.alloc Tryz.zeroValue89 rfl zc89 rfl rfl) rfl (fun b2 => ?_)
  refine TrL.nil ?_
  refine TrE.seq ?_
  refine TrC.seq ?_
  refine TrC.region rfl ?_
  refine L rfl rfl (PStep.faLoc fo89_2 rfl (Lk.t rfl)) ?_
  refine L rfl rfl (PStep.ldLoc 1 Tryz.isAgg26 rfl (Lk.t rfl) rfl rfl) ?_
  refine L rfl rfl (PStep.assign rfl (Lk.t rfl)) ?_
  refine TrL.nil ?_
  refine TrE.seq ?_
  refine TrC.seq ?_
  refine TrC.region rfl ?_
  refine L rfl rfl (PStep.faLoc fo89_2 rfl (Lk.t rfl)) ?_
  refine LS rfl rfl (Step.store1 1 Tryz.sizeOf26 rfl (Lk.t rfl) (show Lk _ _ (pV (.slice none 0 0)) from Lk.c) rfl rfl rfl) ?_
  refine TrL.nil ?_
  refine TrE.seq ?_
  refine TrC.lay (hRow false 120 .nil (([] : (List Requirement)) : (List Requirement))) rfl ?_
  refine TrC.weakC 2 4 (q := pOwn .nil ([] : (List Requirement))) rfl rfl nilOwn ?_
  obtain ⟨K1, hK1, hm⟩ := joinK hm
  refine TrC.meetM (X := (List Requirement) × OS) (fun ⟨l1, o1⟩ => K1 l1 = some r) (fun ⟨l1, o1⟩ => []) [(1, _), (2, _)] (fun ⟨l1, o1⟩ => fun A => (List.set (List.set A 0 (hRow false 120 o1 (l1 : (List Requirement)))) 2 (hCells b1 89 [pS (a0.path), pI (a0.version.major), pI (a0.version.minor), pI (a0.version.patch), pOwn o1 (l1 : (List Requirement)), pS (a0.archive), pS (a0.interface), pS (a0.certificate), pB (a0.yanked)]))) (EnvSub.cons rfl (EnvSub.cons rfl EnvSub.nil)) ?_ ?_
  · refine TrC.seq ?_
    refine TrC.region rfl ?_
    refine L rfl rfl (PStep.move rfl (Lk.t rfl)) ?_
    refine L rfl rfl (PStep.len (xs := a0.requirements) (tys := #[]) Tryz.runUnderlying26 rfl (Lk.t rfl)) ?_
    refine L rfl rfl (PStep.move rfl Lk.c) ?_
    refine TrL.nil ?_
    refine TrE.seq ?_
    refine TrC.block ?_
    refine TrC.know (Lk.t (t := 9) rfl) pSl.lt fun hl1 => ?_
    refine TrC.loopM (X := Nat × (List Requirement) × Nat × OS) (fun ⟨n, l2, i1, o2⟩ => m_index_clone_L3 a0 K1 n l2 i1 = some r) (fun ⟨n, l2, i1, o2⟩ => [(11, pI ((i1 : Int)))]) [(1, _), (2, _), (9, _), (10, _)] (fun ⟨n, l2, i1, o2⟩ => fun A => (List.set (List.set A 0 (hRow false 120 o2 (l2 : (List Requirement)))) 2 (hCells b1 89 [pS (a0.path), pI (a0.version.major), pI (a0.version.minor), pI (a0.version.patch), pOwn o2 (l2 : (List Requirement)), pS (a0.archive), pS (a0.interface), pS (a0.certificate), pB (a0.yanked)]))) (fun ⟨n, l2, i1, o2⟩ => n) (((a0.requirements.length + 1 : Nat), ([] : (List Requirement)), 0, .nil)) hm ((EnvSub.cons rfl (EnvSub.cons rfl (EnvSub.cons rfl (EnvSub.cons rfl (EnvSub.cons rfl EnvSub.nil)))))) rfl ?_
    rintro ⟨n, l2, i1, o2⟩ hm
    obtain ⟨n, rfl⟩ := succ_of (f := fun n => m_index_clone_L3 a0 K1 n l2 i1) rfl hm
    change m_index_clone_L3 a0 K1 (n + 1) l2 i1 = some r at hm
    rw [m_index_clone_L3] at hm
    refine TrC.seq ?_
    refine TrC.region rfl ?_
    refine L rfl rfl (PStep.lss rfl (Lk.t rfl) (Lk.t rfl)) ?_
    refine TrL.nil ?_
    refine TrE.seq ?_
    refine TrC.seq ?_
    refine TrC.condB (Lk.t rfl) (fun hc1 => ?_) (fun hc1 => ?_)
    · have hm := cond_t hm hc1
      have hs1 := hc1
      try simp only [decide_eq_true_eq, decide_eq_false_iff_not, Bool.and_eq_true, Bool.or_eq_true, Bool.not_eq_true', Bool.not_eq_false', Bool.and_eq_false_iff, Bool.or_eq_false_iff] at hs1
      refine TrC.skip ?_
      refine TrE.seq ?_
      refine TrC.seq ?_
      refine TrC.block ?_
      refine TrC.seq ?_
      refine TrC.region rfl ?_
      refine L rfl rfl (PStep.ixD (xs := a0.requirements) Tryz.runUnderlying26 Tryz.sizeOf120 rfl (Lk.t rfl) (Lk.t rfl) (by omega)) ?_
      refine L rfl rfl (PStep.ldRefV (α := Requirement) (v := (ix a0.requirements ((i1 : Int)))) Tryz.isAgg120 Tryz.sizeOf120 rfl (Lk.t rfl) rfl) ?_
      refine TrL.alloc (AStep.alloc Tryz.zeroValue120 rfl zc120 rfl rfl) rfl (fun b3 => ?_)
      refine LS rfl rfl (Step.storeW 0 Tryz.sizeOf120 rfl (Lk.t rfl) (Lk.t rfl) rfl rfl rfl) ?_
      refine TrL.nil ?_
      refine TrE.seq ?_
      refine TrC.seq ?_
      refine TrC.region rfl ?_
      refine L rfl rfl (PStep.faLoc fo120_1 rfl (Lk.t rfl)) ?_
      refine L rfl rfl (PStep.ldLoc 0 Tryz.isAgg105 rfl (Lk.t rfl) rfl rfl) ?_
      obtain ⟨x1, hx1, hm⟩ := bnd_some hm
      refine L rfl rfl (PStep.call (fnOfRow (s_slices_Clone_Set_Span (((ix a0.requirements ((i1 : Int)))).set_) x1 hx1)) Tryz.call137 rfl (LkAll.cons (Lk.t rfl) LkAll.nil)) ?_
      refine L rfl rfl (PStep.faLoc fo120_1 rfl (Lk.t rfl)) ?_
      refine LS rfl rfl (Step.store1 0 Tryz.sizeOf105 rfl (Lk.t rfl) (Lk.t rfl) rfl rfl rfl) ?_
      refine TrL.nil ?_
      refine TrE.seq ?_
      refine TrC.region rfl ?_
      refine L rfl rfl (PStep.faLoc fo89_2 rfl (Lk.t rfl)) ?_
      refine L rfl rfl (PStep.ldLoc 3 Tryz.isAgg26 rfl (Lk.t rfl) rfl rfl) ?_
      refine L rfl rfl (PStep.ldLocV (α := Requirement) (v := (⟨((ix a0.requirements ((i1 : Int)))).path, x1⟩ : Requirement)) 0 Tryz.isAgg120 Tryz.sizeOf120 rfl (Lk.t rfl) rfl rfl) ?_
      refine L rfl rfl (PStep.litX ([(⟨((ix a0.requirements ((i1 : Int)))).path, x1⟩ : Requirement)] : (List Requirement)) slT26 rfl ⟨rfl, Lk.agg (Lk.t rfl), trivial⟩ rfl rfl) ?_
      obtain ⟨hk1, hm⟩ := chk_some hm
      refine TrL.append 1 apT26 rfl rfl rfl (Lk.t rfl) (Lk.slX (Lk.t rfl)) rfl (by have := hk1; omega) (fun r1 => ?_)
      refine L rfl rfl (PStep.faLoc fo89_2 rfl (Lk.t rfl)) ?_
      refine LS rfl rfl (Step.store1 3 Tryz.sizeOf26 rfl (Lk.t rfl) (Lk.t rfl) rfl rfl rfl) ?_
      refine TrL.nil ?_
      refine TrE.blockN ?_
      refine TrE.seq ?_
      refine TrC.region rfl ?_
      refine L rfl rfl (PStep.add64 rfl (Lk.t rfl) Lk.c (by omega)) ?_
      refine L rfl rfl (PStep.move rfl (Lk.t rfl)) ?_
      refine TrL.nil ?_
      refine TrE.dropF 1 ?_
      refine TrE.again ((n, (l2 ++ ([(⟨((ix a0.requirements ((i1 : Int)))).path, x1⟩ : Requirement)] : (List Requirement))), (i1 + 1), r1)) hm (Nat.lt_succ_self n) ((EnvSub.cons rfl (EnvSub.cons rfl (EnvSub.cons rfl (EnvSub.cons rfl (EnvSub.cons rfl EnvSub.nil)))))) rfl
    · have hm := cond_f hm hc1
      have hs1 := hc1
      try simp only [decide_eq_true_eq, decide_eq_false_iff_not, Bool.and_eq_true, Bool.or_eq_true, Bool.not_eq_true', Bool.not_eq_false', Bool.and_eq_false_iff, Bool.or_eq_false_iff] at hs1
      refine TrC.exit (TrE.thenX <| TrE.thenX <| TrE.blockHit <| ?_)
      refine TrE.meetX ((l2, o2)) hm ((EnvSub.cons rfl (EnvSub.cons rfl EnvSub.nil))) rfl
  · rintro ⟨l1, o1⟩ hm
    change K1 l1 = some r at hm
    subst hK1
    refine TrC.seq ?_
    refine TrC.region rfl ?_
    refine L rfl rfl (PStep.ldLocP 2 Tryz.isAgg89 Tryz.sizeOf89 rfl (Lk.t rfl) rfl rfl rfl) ?_
    refine LS rfl rfl (Step.storeW 1 Tryz.sizeOf89 rfl (Lk.t rfl) (Lk.t rfl) rfl rfl rfl) ?_
    refine TrL.nil ?_
    refine TrE.seq ?_
    refine TrC.ret (?_)
    refine TrE.shareC 0 1 4 rfl rfl rfl ?_
    cases hm
    exact TrE.retOK (RetOK.eq (show _ = _ from rfl) (RetOK.cell 1 Tryz.isAgg89 Tryz.sizeOf89 rfl (Lk.t rfl) rfl rfl (List.nil_sublist _)))
def m_index_Find (a0 : Index) (a1 : ByteArray) (a2 : Version) : Option (Release × Bool) :=
  bnd (m_index_newTable a0) fun x1 => bnd (m_index_clone ((((getM x1.1.releases ((⟨a1, a2⟩ : Selected))).getD zRelease)))) fun x2 => some (x2, (getM x1.1.releases ((⟨a1, a2⟩ : Selected))).isSome)
theorem s_index_Find (a0 : Index) (a1 : ByteArray) (a2 : Version) (r : Release × Bool) (hm : m_index_Find a0 a1 a2 = some r) : Fn Tryz.prog 53 [pT (a0 : Index), pS (a1), pT (a2 : Version)] (pTup [pT (r.1 : Release), pB (r.2)]) := by
  unfold m_index_Find at hm
  refine Spec.mk Tryz.func53 rfl rfl fun B => ?_
  refine TrC.seq ?_
  refine TrC.region rfl ?_
  refine TrL.alloc (AStep.boxK rfl rfl (Lk.t rfl)) rfl (fun b1 => ?_)
  refine TrL.alloc (AStep.boxK rfl rfl (Lk.t rfl)) rfl (fun b2 => ?_)
  refine TrL.alloc (AStep.alloc Tryz.zeroValue89 rfl zc89 rfl rfl) rfl (fun b3 => ?_)
  refine L rfl rfl (PStep.assign rfl Lk.c) ?_
  refine TrL.nil ?_
  refine TrE.seq ?_
  refine TrC.seq ?_
  refine TrC.region rfl ?_
  refine L rfl rfl (PStep.ldLocV (α := Index) (v := a0) 2 Tryz.isAgg25 Tryz.sizeOf25 rfl (Lk.t rfl) rfl rfl) ?_
  obtain ⟨x1, hx1, hm⟩ := bnd_some hm
  refine L rfl rfl (PStep.call ((s_index_newTable a0 x1 hx1)) Tryz.call84 rfl (LkAll.cons (Lk.t rfl) LkAll.nil)) ?_
  refine L rfl rfl (PStep.move rfl (Lk.t rfl)) ?_
  refine L rfl rfl (PStep.extract rfl (Lk.t rfl) rfl) ?_
  refine L rfl rfl (PStep.extract rfl (Lk.t rfl) rfl) ?_
  refine TrL.alloc (AStep.alloc Tryz.zeroValue141 rfl zc141 rfl rfl) rfl (fun b4 => ?_)
  refine LS rfl rfl (Step.storeW 0 Tryz.sizeOf141 rfl (Lk.t rfl) (Lk.t rfl) rfl rfl rfl) ?_
  refine L rfl rfl (PStep.assign rfl (Lk.t rfl)) ?_
  refine TrL.nil ?_
  refine TrE.seq ?_
  refine TrC.seq ?_
  refine TrC.region rfl ?_
  refine L rfl rfl (PStep.faLoc fo141_0 rfl (Lk.t rfl)) ?_
  refine L rfl rfl (PStep.ldLoc 0 Tryz.isAgg138 rfl (Lk.t rfl) rfl rfl) ?_
  refine L rfl rfl (PStep.move rfl (Lk.t rfl)) ?_
  refine L rfl rfl (PStep.ldLocV (α := Version) (v := a2) 2 Tryz.isAgg57 Tryz.sizeOf57 rfl (Lk.t rfl) rfl rfl) ?_
  refine L rfl rfl (mk59_01 rfl (Lk.t rfl) (Lk.t rfl)) ?_
  refine L rfl rfl (PStep.lookupOkS (kv := fun x : Selected => Value.agg (valsSelected x).toArray) (pv := fun v : Release => pT v) zRelease mpT138 key59 Tryz.zeroValue89 zp89 rfl (Lk.t rfl) (Lk.exact (Lk.t rfl) (cellsSelected _))) ?_
  refine L rfl rfl (PStep.move rfl (Lk.t rfl)) ?_
  refine L rfl rfl (PStep.extract rfl (Lk.t rfl) rfl) ?_
  refine L rfl rfl (PStep.extract rfl (Lk.t rfl) rfl) ?_
  refine TrL.alloc (AStep.alloc Tryz.zeroValue89 rfl zc89 rfl rfl) rfl (fun b5 => ?_)
  refine LS rfl rfl (Step.storeW 0 Tryz.sizeOf89 rfl (Lk.t rfl) (Lk.t rfl) rfl rfl rfl) ?_
  refine L rfl rfl (PStep.assign rfl (Lk.t rfl)) ?_
  refine TrL.nil ?_
  refine TrE.seq ?_
  refine TrC.seq ?_
  refine TrC.region rfl ?_
  refine L rfl rfl (PStep.ldLocV (α := Release) (v := (((getM x1.1.releases ((⟨a1, a2⟩ : Selected))).getD zRelease))) 0 Tryz.isAgg89 Tryz.sizeOf89 rfl (Lk.t rfl) rfl rfl) ?_
  obtain ⟨x2, hx2, hm⟩ := bnd_some hm
  refine L rfl rfl (PStep.call ((s_index_clone ((((getM x1.1.releases ((⟨a1, a2⟩ : Selected))).getD zRelease))) x2 hx2)) Tryz.call98 rfl (LkAll.cons (Lk.t rfl) LkAll.nil)) ?_
  refine L rfl rfl (PStep.move rfl (Lk.t rfl)) ?_
  refine LS rfl rfl (Step.storeW 2 Tryz.sizeOf89 rfl (Lk.t rfl) (Lk.t rfl) rfl rfl rfl) ?_
  refine L rfl rfl (PStep.assign rfl (Lk.t rfl)) ?_
  refine TrL.nil ?_
  refine TrE.seq ?_
  refine TrC.ret (?_)
  cases hm
  exact TrE.retOK (RetOK.eq (show _ = _ from rfl) (RetOK.cell2 2 Tryz.isAgg89 Tryz.sizeOf89 rfl (Lk.t rfl) rfl rfl (Lk.t (t := 7) rfl) (List.nil_sublist _)))
def m_slices_Clone_Requirement_Requirement (a0 : (List Requirement)) : Option ((List Requirement)) := chk (a0.length ≤ 4294967296) <| some a0
theorem s_slices_Clone_Requirement_Requirement (a0 : (List Requirement)) (r : (List Requirement)) (hm : m_slices_Clone_Requirement_Requirement a0 = some r) : FnRow Tryz.prog 76 [pSl a0] (fun o => pOwn o r) (fun o => hOwn 120 o r) := by
  unfold m_slices_Clone_Requirement_Requirement at hm
  obtain ⟨hk, hm⟩ := chk_some hm
  cases hm
  refine SpecX.mk Tryz.func76 rfl rfl fun B => ?_
  refine TrC.seq ?_
  refine TrC.region rfl ?_
  refine L rfl rfl (PStep.assign rfl Lk.c) ?_
  refine TrL.nil ?_
  refine TrE.seq ?_
  refine TrC.seq ?_
  refine TrC.seq ?_
  refine TrC.region rfl ?_
  refine L rfl rfl (PStep.move rfl (Lk.t rfl)) ?_
  refine L rfl rfl (PStep.eqNil Tryz.underlying26 rfl (Lk.t rfl)) ?_
  refine TrL.nil ?_
  refine TrE.seq ?_
  refine TrC.condN (Lk.t rfl) (fun hc => ?_) ?_
  · refine TrC.seq ?_
    refine TrC.region rfl ?_
    refine L rfl rfl (PStep.assign rfl Lk.c) ?_
    refine TrL.nil ?_
    refine TrE.seq ?_
    refine TrC.ret (TrE.thenR <| ?_)
    refine TrE.lay (hOwn 120 .nil a0) rfl ?_
    subst hc
    exact TrE.retOKX (RetOKX.row1 0 .nil rfl (Lk.ownNil (Lk.t rfl)) rfl rfl)
  refine TrC.skip ?_
  refine TrE.seq ?_
  refine TrC.seq ?_
  refine TrC.region rfl ?_
  refine TrL.allocG (AStep.litOwn ([] : (List Requirement)) slT26 rfl rfl trivial rfl rfl) rfl (fun r1 => ?_)
  refine L rfl rfl (PStep.move rfl (Lk.t rfl)) ?_
  refine TrL.append 0 apT26 rfl rfl rfl (Lk.t rfl) (Lk.t rfl) rfl (by simp only [List.length_nil, Nat.zero_add]; omega) (fun r2 => ?_)
  refine L rfl rfl (PStep.assign rfl (Lk.t rfl)) ?_
  refine TrL.nil ?_
  refine TrE.seq ?_
  refine TrC.ret ?_
  exact TrE.retOKX (RetOKX.row1 0 r2 rfl (Lk.t rfl) rfl rfl)
def m_proof_checker_decide_1 (a0 : Selected) (f0 : Requirement) : Option (Bool) :=
  some ((decide (a0.path = f0.path)))
theorem s_proof_checker_decide_1 (a0 : Selected) (f0 : Requirement) (r : Bool) (hm : m_proof_checker_decide_1 a0 f0 = some r) : Fn Tryz.prog 77 [pT (a0 : Selected), pR (f0 : Requirement)] (pB (r)) := by
  unfold m_proof_checker_decide_1 at hm
  refine Spec.mk Tryz.func77 rfl rfl fun B => ?_
  refine TrC.seq ?_
  refine TrC.region rfl ?_
  refine TrL.alloc (AStep.boxK rfl rfl (Lk.t rfl)) rfl (fun b1 => ?_)
  refine L rfl rfl (PStep.assign rfl Lk.c) ?_
  refine TrL.nil ?_
  refine TrE.seq ?_
  refine TrC.seq ?_
  refine TrC.region rfl ?_
  refine L rfl rfl (PStep.faLoc fo59_0 rfl (Lk.t rfl)) ?_
  refine L rfl rfl (PStep.ldLoc 0 Tryz.isAgg9 rfl (Lk.t rfl) rfl rfl) ?_
  refine L rfl rfl (PStep.faRef fo120_0 rfl (Lk.t rfl)) ?_
  refine L rfl rfl (PStep.ldRef Tryz.isAgg9 rfl (Lk.t rfl) rfl) ?_
  refine L rfl rfl (PStep.seql rfl (Lk.t rfl) (Lk.t rfl)) ?_
  refine L rfl rfl (PStep.assign rfl (Lk.t rfl)) ?_
  refine TrL.nil ?_
  refine TrE.seq ?_
  refine TrC.ret (?_)
  cases hm
  exact TrE.retOK (RetOK.eq (show _ = _ from rfl) (RetOK.tmp rfl (Lk.t (t := 3) rfl) (List.nil_sublist _)))
def m_proof_checker_decide_2 (a0 : Selected) (f0 : ByteArray) : Option (Bool) :=
  some ((decide (a0.path = f0)))
theorem s_proof_checker_decide_2 (a0 : Selected) (f0 : ByteArray) (r : Bool) (hm : m_proof_checker_decide_2 a0 f0 = some r) : Fn Tryz.prog 79 [pT (a0 : Selected), pRef [pS (f0)]] (pB (r)) := by
  unfold m_proof_checker_decide_2 at hm
  refine Spec.mk Tryz.func79 rfl rfl fun B => ?_
  refine TrC.seq ?_
  refine TrC.region rfl ?_
  refine TrL.alloc (AStep.boxK rfl rfl (Lk.t rfl)) rfl (fun b1 => ?_)
  refine L rfl rfl (PStep.assign rfl Lk.c) ?_
  refine TrL.nil ?_
  refine TrE.seq ?_
  refine TrC.seq ?_
  refine TrC.region rfl ?_
  refine L rfl rfl (PStep.faLoc fo59_0 rfl (Lk.t rfl)) ?_
  refine L rfl rfl (PStep.ldLoc 0 Tryz.isAgg9 rfl (Lk.t rfl) rfl rfl) ?_
  refine L rfl rfl (PStep.ldRef Tryz.isAgg9 rfl (Lk.t rfl) rfl) ?_
  refine L rfl rfl (PStep.seql rfl (Lk.t rfl) (Lk.t rfl)) ?_
  refine L rfl rfl (PStep.assign rfl (Lk.t rfl)) ?_
  refine TrL.nil ?_
  refine TrE.seq ?_
  refine TrC.ret (?_)
  cases hm
  exact TrE.retOK (RetOK.eq (show _ = _ from rfl) (RetOK.tmp rfl (Lk.t (t := 3) rfl) (List.nil_sublist _)))
def m_proof_Decisions_1 (a0 : (List Selected)) (a1 : (List Requirement)) (a2 : Release) (f0 : (List ByteArray)) : Option ((List ByteArray)) :=
  chk (f0.length + (([a2.path] : (List ByteArray))).length ≤ 4294967296) <| some ((f0 ++ ([a2.path] : (List ByteArray))))
theorem s_proof_Decisions_1 (a0 : (List Selected)) (a1 : (List Requirement)) (a2 : Release) (f0 : (List ByteArray)) (bbf0 : Nat) (oof0_0 : OS) (r : (List ByteArray)) (hm : m_proof_Decisions_1 a0 a1 a2 f0 = some r) : SpecX (X := OS) Tryz.prog 43 [pSl (a0 : (List Selected)), pSl (a1 : (List Requirement)), pT (a2 : Release), pPtr bbf0 0] [hCells bbf0 42 [pOwn oof0_0 (f0 : (List ByteArray))], hRow false 9 oof0_0 (f0 : (List ByteArray))] (fun z => pTup []) (fun z => [hCells bbf0 42 [pOwn z (r : (List ByteArray))], hRow false 9 z (r : (List ByteArray))]) := by
  unfold m_proof_Decisions_1 at hm
  refine SpecX.mk Tryz.func43 rfl rfl fun B => ?_
  refine TrC.seq ?_
  refine TrC.region rfl ?_
  refine TrL.alloc (AStep.boxK rfl rfl (Lk.t rfl)) rfl (fun b1 => ?_)
  refine TrL.nil ?_
  refine TrE.seq ?_
  refine TrC.region rfl ?_
  refine L rfl rfl (PStep.ldLoc 1 Tryz.isAgg42 rfl (Lk.t rfl) rfl rfl) ?_
  refine L rfl rfl (PStep.faLoc fo89_0 rfl (Lk.t rfl)) ?_
  refine L rfl rfl (PStep.ldLoc 0 Tryz.isAgg9 rfl (Lk.t rfl) rfl rfl) ?_
  refine L rfl rfl (PStep.litX ([a2.path] : (List ByteArray)) slT42 rfl ⟨rfl, Lk.eS (Lk.t rfl), trivial⟩ rfl rfl) ?_
  obtain ⟨hk1, hm⟩ := chk_some hm
  refine TrL.append 2 apT42 rfl rfl rfl (Lk.t rfl) (Lk.slX (Lk.t rfl)) rfl (by have := hk1; omega) (fun r1 => ?_)
  refine LS rfl rfl (Step.store1 1 Tryz.sizeOf42 rfl (Lk.t rfl) (Lk.t rfl) rfl rfl rfl) ?_
  refine TrL.nil ?_
  cases hm
  exact TrE.endOKX (RetOKX.of r1 (RetOK.eq (show _ = _ from rfl) (RetOK.zero rfl (List.Sublist.cons _ (List.Sublist.cons_cons _ (List.Sublist.cons_cons _ (List.nil_sublist _)))))))
def m_proof_checker_decide_proof_Decisions_1_L9 (l2 : (List Requirement)) (l1 : (List Selected)) (K1 : ByteArray → Bool → Option (Bool × (List ByteArray))) : Nat → ByteArray → Bool → Nat → Option (Bool × (List ByteArray))
  | 0, _, _, _ => none
  | n + 1, c2, v2, i1 =>
    (bif (decide ((i1 : Int) < (l2.length : Int))) then bnd (m_slices_ContainsFunc_Selected_Selected l1 ((fun z0 => m_proof_checker_decide_1 z0 (((ix l2 ((i1 : Int)))))))) fun x5 => (bif ((!x5) && ((!v2) || (strLt ((((ix l2 ((i1 : Int))))).path) c2))) then m_proof_checker_decide_proof_Decisions_1_L9 l2 l1 K1 n ((((ix l2 ((i1 : Int))))).path) true ((i1 + 1))
  else m_proof_checker_decide_proof_Decisions_1_L9 l2 l1 K1 n c2 v2 ((i1 + 1)))
  else K1 c2 v2)
def m_proof_checker_decide_proof_Decisions_1_L7 (a1 : (List Selected)) (a0 : Checker) : Nat → (List Selected) → (List Requirement) → (List ByteArray) → Option (Bool × (List ByteArray))
  | 0, _, _, _ => none
  | n + 1, l1, l2, l3 =>
    joinM (fun (c1 : ByteArray) (v1 : Bool) =>
    (bif (!v1) then some (true, l3)
  else bnd (m_slices_IndexFunc_Selected_Selected a1 ((fun z0 => m_proof_checker_decide_2 z0 c1))) fun x2 => (bif (decide (x2 < (0 : Int))) then some (false, l3)
  else chk (0 ≤ x2 ∧ x2 < (a1.length : Int)) <| chk (0 ≤ x2 ∧ x2 < (a1.length : Int)) <| bnd (m_index_Find a0.index_ (((ix a1 x2)).path) (((ix a1 x2)).version)) fun x3 => (bif (!x3.2) then some (false, l3)
  else bnd (m_proof_Decisions_1 l1 l2 x3.1 l3) fun x4 => chk (0 ≤ x2 ∧ x2 < (a1.length : Int)) <| chk (l1.length + (([(ix a1 x2)] : (List Selected))).length ≤ 4294967296) <| chk (l2.length + x3.1.requirements.length ≤ 4294967296) <| m_proof_checker_decide_proof_Decisions_1_L7 a1 a0 n ((l1 ++ ([(ix a1 x2)] : (List Selected)))) ((l2 ++ x3.1.requirements)) x4)))) fun K1 =>
    m_proof_checker_decide_proof_Decisions_1_L9 l2 l1 K1 (l2.length + 1) ((⟨#[]⟩ : ByteArray)) false 0
def m_proof_checker_decide_proof_Decisions_1 (a0 : Checker) (a1 : (List Selected)) (c2_0 : (List ByteArray)) : Option (Bool × (List ByteArray)) :=
  bnd (m_slices_Clone_Requirement_Requirement a0.roots_) fun x1 => m_proof_checker_decide_proof_Decisions_1_L7 a1 a0 (100000) (([] : (List Selected))) x1 c2_0
theorem s_proof_checker_decide_proof_Decisions_1 (a0 : Checker) (a1 : (List Selected)) (c2_0 : (List ByteArray)) (bb2_0 : Nat) (oo2_0_0 : OS) (r : Bool × (List ByteArray)) (hm : m_proof_checker_decide_proof_Decisions_1 a0 a1 c2_0 = some r) : SpecX (X := OS) Tryz.prog 42 [pR (a0 : Checker), pSl (a1 : (List Selected)), pClo 43 [pPtr bb2_0 0]] [hCells bb2_0 42 [pOwn oo2_0_0 (c2_0 : (List ByteArray))], hRow false 9 oo2_0_0 (c2_0 : (List ByteArray))] (fun z => pB (r.1)) (fun z => [hCells bb2_0 42 [pOwn z (r.2 : (List ByteArray))], hRow false 9 z (r.2 : (List ByteArray))]) := by
  unfold m_proof_checker_decide_proof_Decisions_1 at hm
  refine SpecX.mk Tryz.func42 rfl rfl fun B => ?_
  refine TrC.seq ?_
  refine TrC.region rfl ?_
  refine L rfl rfl (PStep.assign rfl Lk.c) ?_
  refine TrL.nil ?_
  refine TrE.seq ?_
  refine TrC.seq ?_
  refine TrC.region rfl ?_
  refine L rfl rfl (PStep.move rfl (Lk.t rfl)) ?_
  refine L rfl rfl (PStep.nilRef rfl (Lk.t rfl)) ?_
  refine L rfl rfl (PStep.faRef fo83_1 rfl (Lk.t rfl)) ?_
  refine L rfl rfl (PStep.ldRef Tryz.isAgg26 rfl (Lk.t rfl) rfl) ?_
  obtain ⟨x1, hx1, hm⟩ := bnd_some hm
  refine TrL.allocG (AStep.call (s_slices_Clone_Requirement_Requirement a0.roots_ x1 hx1) Tryz.call76 rfl rfl (LkAll.cons (Lk.t rfl) LkAll.nil)) rfl (fun r1 => ?_)
  refine L rfl rfl (PStep.assign rfl (Lk.t rfl)) ?_
  refine TrL.nil ?_
  refine TrE.seq ?_
  refine TrC.seq ?_
  refine TrC.region rfl ?_
  refine L rfl rfl (PStep.assign rfl Lk.c) ?_
  refine TrL.nil ?_
  refine TrE.seq ?_
  refine TrC.block ?_
  refine TrC.lay (hRow false 59 .nil (([] : (List Selected)) : (List Selected))) rfl ?_
  refine TrC.know (Lk.t (t := 1) rfl) pSl.lt fun hl1 => ?_
  refine TrC.knowA 1 7 rfl rfl fun hl2 => ?_
  refine TrC.grow 0 rfl ?_
  refine TrC.grow 1 rfl ?_
  refine TrC.loopM (X := Nat × (List Selected) × (List Requirement) × (List ByteArray) × OS × OS × OS) (fun ⟨n, l1, l2, l3, o1, o2, o3⟩ => m_proof_checker_decide_proof_Decisions_1_L7 a1 a0 n l1 l2 l3 = some r) (fun ⟨n, l1, l2, l3, o1, o2, o3⟩ => [(7, pOwn o2 (l2 : (List Requirement))), (8, pOwn o1 (l1 : (List Selected)))]) [(0, _), (1, _), (2, _)] (fun ⟨n, l1, l2, l3, o1, o2, o3⟩ => fun A => (List.set (List.set (List.set (List.set A 0 (hRow true 59 o1 (l1 : (List Selected)))) 1 (hRow true 120 o2 (l2 : (List Requirement)))) 2 (hCells bb2_0 42 [pOwn o3 (l3 : (List ByteArray))])) 3 (hRow false 9 o3 (l3 : (List ByteArray))))) (fun ⟨n, l1, l2, l3, o1, o2, o3⟩ => n) (((100000 : Nat), ([] : (List Selected)), x1, c2_0, .nil, r1, oo2_0_0)) hm ((EnvSub.cons rfl (EnvSub.consI rfl nilOwn (EnvSub.cons rfl (EnvSub.cons rfl (EnvSub.cons rfl EnvSub.nil)))))) rfl ?_
  rintro ⟨n, l1, l2, l3, o1, o2, o3⟩ hm
  obtain ⟨n, rfl⟩ := succ_of (f := fun n => m_proof_checker_decide_proof_Decisions_1_L7 a1 a0 n l1 l2 l3) rfl hm
  change m_proof_checker_decide_proof_Decisions_1_L7 a1 a0 (n + 1) l1 l2 l3 = some r at hm
  rw [m_proof_checker_decide_proof_Decisions_1_L7] at hm
  refine TrC.block ?_
  refine TrC.seq ?_
  refine TrC.region rfl ?_
  refine TrL.alloc (AStep.alloc Tryz.zeroValue9 rfl zc9 rfl rfl) rfl (fun b1 => ?_)
  refine LS rfl rfl (Step.store1 0 Tryz.sizeOf9 rfl (Lk.t rfl) (show Lk _ _ (pS ((⟨#[]⟩ : ByteArray))) from Lk.c) rfl rfl rfl) ?_
  refine TrL.nil ?_
  refine TrE.seq ?_
  refine TrC.seq ?_
  refine TrC.region rfl ?_
  refine L rfl rfl (PStep.assign rfl Lk.c) ?_
  refine TrL.nil ?_
  refine TrE.seq ?_
  obtain ⟨K1, hK1, hm⟩ := joinK hm
  refine TrC.meetM (X := ByteArray × Bool) (fun ⟨c1, v1⟩ => K1 c1 v1 = some r) (fun ⟨c1, v1⟩ => [(10, pB (v1))]) [(0, _), (1, _), (2, _), (7, _), (8, _), (9, _)] (fun ⟨c1, v1⟩ => fun A => (List.set A 0 (hCells b1 9 [pS (c1)]))) (EnvSub.cons rfl (EnvSub.cons rfl (EnvSub.cons rfl (EnvSub.cons rfl (EnvSub.cons rfl (EnvSub.cons rfl EnvSub.nil)))))) ?_ ?_
  · refine TrC.seq ?_
    refine TrC.region rfl ?_
    refine L rfl rfl (PStep.move rfl (Lk.t rfl)) ?_
    refine L rfl rfl (PStep.lenOwn (xs := l2) Tryz.runUnderlying26 rfl (Lk.t rfl)) ?_
    refine L rfl rfl (PStep.move rfl Lk.c) ?_
    refine TrL.nil ?_
    refine TrE.seq ?_
    refine TrC.block ?_
    refine TrC.know (Lk.t (t := 1) rfl) pSl.lt fun hl3 => ?_
    refine TrC.knowA 2 7 rfl rfl fun hl4 => ?_
    refine TrC.loopM (X := Nat × ByteArray × Bool × Nat) (fun ⟨n, c2, v2, i1⟩ => m_proof_checker_decide_proof_Decisions_1_L9 l2 l1 K1 n c2 v2 i1 = some r) (fun ⟨n, c2, v2, i1⟩ => [(10, pB (v2)), (24, pI ((i1 : Int)))]) [(0, _), (1, _), (2, _), (7, _), (8, _), (9, _), (22, _), (23, _)] (fun ⟨n, c2, v2, i1⟩ => fun A => (List.set A 0 (hCells b1 9 [pS (c2)]))) (fun ⟨n, c2, v2, i1⟩ => n) (((l2.length + 1 : Nat), (⟨#[]⟩ : ByteArray), false, 0)) hm ((EnvSub.cons rfl (EnvSub.cons rfl (EnvSub.cons rfl (EnvSub.cons rfl (EnvSub.cons rfl (EnvSub.cons rfl (EnvSub.cons rfl (EnvSub.cons rfl (EnvSub.cons rfl (EnvSub.cons rfl EnvSub.nil))))))))))) rfl ?_
    rintro ⟨n, c2, v2, i1⟩ hm
    obtain ⟨n, rfl⟩ := succ_of (f := fun n => m_proof_checker_decide_proof_Decisions_1_L9 l2 l1 K1 n c2 v2 i1) rfl hm
    change m_proof_checker_decide_proof_Decisions_1_L9 l2 l1 K1 (n + 1) c2 v2 i1 = some r at hm
    rw [m_proof_checker_decide_proof_Decisions_1_L9] at hm
    refine TrC.seq ?_
    refine TrC.region rfl ?_
    refine L rfl rfl (PStep.lss rfl (Lk.t rfl) (Lk.t rfl)) ?_
    refine TrL.nil ?_
    refine TrE.seq ?_
    refine TrC.seq ?_
    refine TrC.condB (Lk.t rfl) (fun hc4 => ?_) (fun hc4 => ?_)
    · have hm := cond_t hm hc4
      have hs4 := hc4
      try simp only [decide_eq_true_eq, decide_eq_false_iff_not, Bool.and_eq_true, Bool.or_eq_true, Bool.not_eq_true', Bool.not_eq_false', Bool.and_eq_false_iff, Bool.or_eq_false_iff] at hs4
      refine TrC.skip ?_
      refine TrE.seq ?_
      refine TrC.seq ?_
      refine TrC.block ?_
      refine TrC.seq ?_
      refine TrC.region rfl ?_
      refine L rfl rfl (PStep.ixOwnI (α := Requirement) Tryz.runUnderlying26 Tryz.sizeOf120 rfl (Lk.t rfl) (Lk.t rfl) (by omega)) ?_
      refine L rfl rfl (PStep.ldOwnKI 2 Tryz.isAgg120 Tryz.sizeOf120 rfl (Lk.t rfl) rfl (by omega)) ?_
      refine TrL.alloc (AStep.alloc Tryz.zeroValue120 rfl zc120 rfl rfl) rfl (fun b2 => ?_)
      refine LS rfl rfl (Step.storeW 0 Tryz.sizeOf120 rfl (Lk.t rfl) (Lk.t rfl) rfl rfl rfl) ?_
      refine TrL.nil ?_
      refine TrE.seq ?_
      refine TrC.seq ?_
      refine TrC.share 2 8 rfl rfl ?_
      refine TrC.settleC 0 12 rfl rfl ?_
      refine TrC.region rfl ?_
      refine L rfl rfl (PStep.move rfl (Lk.t rfl)) ?_
      refine L rfl rfl (PStep.mkFun (ps := fun x : {x : Selected × Bool // (fun z0 => m_proof_checker_decide_1 z0 (((ix l2 ((i1 : Int)))))) x.1 = some x.2} => [pT (x.1.1 : Selected)]) (p := fun x => pB (x.1.2)) (fun x => s_proof_checker_decide_1 x.1.1 (((ix l2 ((i1 : Int))))) x.1.2 x.2) Tryz.call77 rfl (LkAll.cons (Lk.t rfl) LkAll.nil)) ?_
      obtain ⟨x5, hx5, hm⟩ := bnd_some hm
      refine L rfl rfl (PStep.call ((s_slices_ContainsFunc_Selected_Selected l1 ((fun z0 => m_proof_checker_decide_1 z0 (((ix l2 ((i1 : Int))))))) x5 hx5)) Tryz.call51 rfl (LkAll.cons (Lk.shSl (Lk.t rfl)) (LkAll.cons (Lk.t rfl) LkAll.nil))) ?_
      refine L rfl rfl (PStep.assign rfl (Lk.t rfl)) ?_
      refine TrL.nil ?_
      refine TrE.seq ?_
      refine TrC.seq ?_
      refine TrC.region rfl ?_
      refine L rfl rfl (PStep.move rfl (Lk.t rfl)) ?_
      refine L rfl rfl (PStep.not rfl (Lk.t rfl)) ?_
      refine L rfl rfl (PStep.move rfl (Lk.t rfl)) ?_
      refine LW rfl (WStep.guard rfl rfl rfl rfl (fun hg => PStep.move rfl (Lk.t rfl))) ?_
      refine LW rfl (WStep.guard rfl rfl rfl rfl (fun hg => PStep.not rfl (Lk.g rfl hg))) ?_
      refine LW rfl (WStep.guard rfl rfl rfl rfl (fun hg => PStep.move rfl (Lk.g rfl hg))) ?_
      refine LW rfl (WStep.guard2 rfl rfl rfl rfl (fun hg => PStep.faRef fo120_0 rfl (Lk.t rfl))) ?_
      refine LW rfl (WStep.guard2 rfl rfl rfl rfl (fun hg => PStep.ldRef Tryz.isAgg9 rfl (Lk.g rfl hg) rfl)) ?_
      refine LW rfl (WStep.guard2 rfl rfl rfl rfl (fun hg => PStep.ldLoc 1 Tryz.isAgg9 rfl (Lk.t rfl) rfl rfl)) ?_
      refine LW rfl (WStep.guard2 rfl rfl rfl rfl (fun hg => PStep.slss rfl (Lk.g rfl hg) (Lk.g rfl hg))) ?_
      refine LW rfl (WStep.guard rfl rfl rfl rfl (fun hg => PStep.pickOr rfl (Lk.g rfl hg) (fun hq => Lk.g rfl ⟨hg, hq⟩))) ?_
      refine L rfl rfl (PStep.pickAnd rfl (Lk.t rfl) (fun hq => Lk.g rfl hq)) ?_
      refine TrL.nil ?_
      refine TrE.seq ?_
      refine TrC.condB (Lk.t rfl) (fun hc5 => ?_) (fun hc5 => ?_)
      · have hm := cond_t hm hc5
        have hs5 := hc5
        try simp only [decide_eq_true_eq, decide_eq_false_iff_not, Bool.and_eq_true, Bool.or_eq_true, Bool.not_eq_true', Bool.not_eq_false', Bool.and_eq_false_iff, Bool.or_eq_false_iff] at hs5
        refine TrC.region rfl ?_
        refine L rfl rfl (PStep.faRef fo120_0 rfl (Lk.t rfl)) ?_
        refine L rfl rfl (PStep.ldRef Tryz.isAgg9 rfl (Lk.t rfl) rfl) ?_
        refine LS rfl rfl (Step.store1 1 Tryz.sizeOf9 rfl (Lk.t rfl) (Lk.t rfl) rfl rfl rfl) ?_
        refine L rfl rfl (PStep.assign rfl Lk.c) ?_
        refine TrL.nil ?_
        refine TrE.blockN ?_
        refine TrE.seq ?_
        refine TrC.region rfl ?_
        refine L rfl rfl (PStep.add64 rfl (Lk.t rfl) Lk.c (by omega)) ?_
        refine L rfl rfl (PStep.move rfl (Lk.t rfl)) ?_
        refine TrL.nil ?_
        refine TrE.dropF 1 ?_
        refine TrE.again ((n, (((ix l2 ((i1 : Int))))).path, true, (i1 + 1))) hm (Nat.lt_succ_self n) ((EnvSub.cons rfl (EnvSub.cons rfl (EnvSub.cons rfl (EnvSub.cons rfl (EnvSub.cons rfl (EnvSub.cons rfl (EnvSub.consI rfl (fun _ _ h => h.1) (EnvSub.cons rfl (EnvSub.cons rfl (EnvSub.cons rfl EnvSub.nil))))))))))) rfl
      · have hm := cond_f hm hc5
        have hs5 := hc5
        try simp only [decide_eq_true_eq, decide_eq_false_iff_not, Bool.and_eq_true, Bool.or_eq_true, Bool.not_eq_true', Bool.not_eq_false', Bool.and_eq_false_iff, Bool.or_eq_false_iff] at hs5
        refine TrC.skip ?_
        refine TrE.blockN ?_
        refine TrE.seq ?_
        refine TrC.region rfl ?_
        refine L rfl rfl (PStep.add64 rfl (Lk.t rfl) Lk.c (by omega)) ?_
        refine L rfl rfl (PStep.move rfl (Lk.t rfl)) ?_
        refine TrL.nil ?_
        refine TrE.dropF 1 ?_
        refine TrE.again ((n, c2, v2, (i1 + 1))) hm (Nat.lt_succ_self n) ((EnvSub.cons rfl (EnvSub.cons rfl (EnvSub.cons rfl (EnvSub.cons rfl (EnvSub.cons rfl (EnvSub.cons rfl (EnvSub.consI rfl (fun _ _ h => h.1) (EnvSub.cons rfl (EnvSub.cons rfl (EnvSub.cons rfl EnvSub.nil))))))))))) rfl
    · have hm := cond_f hm hc4
      have hs4 := hc4
      try simp only [decide_eq_true_eq, decide_eq_false_iff_not, Bool.and_eq_true, Bool.or_eq_true, Bool.not_eq_true', Bool.not_eq_false', Bool.and_eq_false_iff, Bool.or_eq_false_iff] at hs4
      refine TrC.exit (TrE.thenX <| TrE.thenX <| TrE.blockHit <| ?_)
      refine TrE.meetX ((c2, v2)) hm ((EnvSub.cons rfl (EnvSub.cons rfl (EnvSub.cons rfl (EnvSub.cons rfl (EnvSub.cons rfl (EnvSub.cons rfl (EnvSub.cons rfl EnvSub.nil)))))))) rfl
  · rintro ⟨c1, v1⟩ hm
    change K1 c1 v1 = some r at hm
    subst hK1
    refine TrC.seq ?_
    refine TrC.seq ?_
    refine TrC.region rfl ?_
    refine L rfl rfl (PStep.move rfl (Lk.t rfl)) ?_
    refine L rfl rfl (PStep.not rfl (Lk.t rfl)) ?_
    refine TrL.nil ?_
    refine TrE.seq ?_
    refine TrC.condB (Lk.t rfl) (fun hc1 => ?_) (fun hc1 => ?_)
    · have hm := cond_t hm hc1
      have hs1 := hc1
      try simp only [decide_eq_true_eq, decide_eq_false_iff_not, Bool.and_eq_true, Bool.or_eq_true, Bool.not_eq_true', Bool.not_eq_false', Bool.and_eq_false_iff, Bool.or_eq_false_iff] at hs1
      refine TrC.seq ?_
      refine TrC.region rfl ?_
      refine L rfl rfl (PStep.assign rfl Lk.c) ?_
      refine TrL.nil ?_
      refine TrE.seq ?_
      refine TrC.ret (TrE.thenR <| TrE.blockR <| TrE.thenR <| TrE.blockR <| ?_)
      cases hm
      exact TrE.retOKX (RetOKX.of o3 (RetOK.eq (show _ = _ from rfl) (RetOK.tmp rfl (Lk.t (t := 6) rfl) (List.Sublist.cons _ (List.Sublist.cons _ (List.Sublist.cons _ (List.Sublist.cons_cons _ (List.Sublist.cons_cons _ (List.nil_sublist _)))))))))
    · have hm := cond_f hm hc1
      have hs1 := hc1
      try simp only [decide_eq_true_eq, decide_eq_false_iff_not, Bool.and_eq_true, Bool.or_eq_true, Bool.not_eq_true', Bool.not_eq_false', Bool.and_eq_false_iff, Bool.or_eq_false_iff] at hs1
      refine TrC.skip ?_
      refine TrE.seq ?_
      refine TrC.seq ?_
      refine TrC.settleC 0 9 rfl rfl ?_
      refine TrC.region rfl ?_
      refine L rfl rfl (PStep.move rfl (Lk.t rfl)) ?_
      refine L rfl rfl (PStep.mkFun (ps := fun x : {x : Selected × Bool // (fun z0 => m_proof_checker_decide_2 z0 c1) x.1 = some x.2} => [pT (x.1.1 : Selected)]) (p := fun x => pB (x.1.2)) (fun x => s_proof_checker_decide_2 x.1.1 c1 x.1.2 x.2) Tryz.call79 rfl (LkAll.cons (Lk.t rfl) LkAll.nil)) ?_
      obtain ⟨x2, hx2, hm⟩ := bnd_some hm
      refine L rfl rfl (PStep.call ((s_slices_IndexFunc_Selected_Selected a1 ((fun z0 => m_proof_checker_decide_2 z0 c1)) x2 hx2)) Tryz.call78 rfl (LkAll.cons (Lk.t rfl) (LkAll.cons (Lk.t rfl) LkAll.nil))) ?_
      refine L rfl rfl (PStep.assign rfl (Lk.t rfl)) ?_
      refine TrL.nil ?_
      refine TrE.seq ?_
      refine TrC.seq ?_
      refine TrC.seq ?_
      refine TrC.region rfl ?_
      refine L rfl rfl (PStep.move rfl (Lk.t rfl)) ?_
      refine L rfl rfl (PStep.lss rfl (Lk.t rfl) Lk.c) ?_
      refine TrL.nil ?_
      refine TrE.seq ?_
      refine TrC.condB (Lk.t rfl) (fun hc2 => ?_) (fun hc2 => ?_)
      · have hm := cond_t hm hc2
        have hs2 := hc2
        try simp only [decide_eq_true_eq, decide_eq_false_iff_not, Bool.and_eq_true, Bool.or_eq_true, Bool.not_eq_true', Bool.not_eq_false', Bool.and_eq_false_iff, Bool.or_eq_false_iff] at hs2
        refine TrC.seq ?_
        refine TrC.region rfl ?_
        refine L rfl rfl (PStep.assign rfl Lk.c) ?_
        refine TrL.nil ?_
        refine TrE.seq ?_
        refine TrC.ret (TrE.thenR <| TrE.blockR <| TrE.thenR <| TrE.blockR <| ?_)
        cases hm
        exact TrE.retOKX (RetOKX.of o3 (RetOK.eq (show _ = _ from rfl) (RetOK.tmp rfl (Lk.t (t := 6) rfl) (List.Sublist.cons _ (List.Sublist.cons _ (List.Sublist.cons _ (List.Sublist.cons_cons _ (List.Sublist.cons_cons _ (List.nil_sublist _)))))))))
      · have hm := cond_f hm hc2
        have hs2 := hc2
        try simp only [decide_eq_true_eq, decide_eq_false_iff_not, Bool.and_eq_true, Bool.or_eq_true, Bool.not_eq_true', Bool.not_eq_false', Bool.and_eq_false_iff, Bool.or_eq_false_iff] at hs2
        refine TrC.skip ?_
        refine TrE.seq ?_
        refine TrC.seq ?_
        refine TrC.lin0 20 mixed rfl (by kernel_rfl) (by kernel_rfl) rfl ?_
        refine M rfl rfl (PStep.move rfl (Lk.t rfl)) ?_
        refine M rfl rfl (PStep.nilRef rfl (Lk.t rfl)) ?_
        refine M rfl rfl (PStep.faRef fo83_0 rfl (Lk.t rfl)) ?_
        refine M rfl rfl (PStep.ldRefV (α := Index) (v := a0.index_) Tryz.isAgg25 Tryz.sizeOf25 rfl (Lk.t rfl) rfl) ?_
        refine M rfl rfl (PStep.move rfl (Lk.t rfl)) ?_
        refine M rfl rfl (PStep.move rfl (Lk.t rfl)) ?_
        obtain ⟨hk1, hm⟩ := chk_some hm
        refine M rfl rfl (PStep.ixD (xs := a1) Tryz.runUnderlying37 Tryz.sizeOf59 rfl (Lk.t rfl) (Lk.t rfl) hk1) ?_
        refine M rfl rfl (PStep.faRef fo59_0 rfl (Lk.t rfl)) ?_
        refine M rfl rfl (PStep.ldRef Tryz.isAgg9 rfl (Lk.t rfl) rfl) ?_
        refine M rfl rfl (PStep.move rfl (Lk.t rfl)) ?_
        refine M rfl rfl (PStep.move rfl (Lk.t rfl)) ?_
        obtain ⟨hk2, hm⟩ := chk_some hm
        refine M rfl rfl (PStep.ixD (xs := a1) Tryz.runUnderlying37 Tryz.sizeOf59 rfl (Lk.t rfl) (Lk.t rfl) hk2) ?_
        refine M rfl rfl (PStep.faRef fo59_1 rfl (Lk.t rfl)) ?_
        refine M rfl rfl (PStep.ldRefV (α := Version) (v := ((ix a1 x2)).version) Tryz.isAgg57 Tryz.sizeOf57 rfl (Lk.t rfl) rfl) ?_
        obtain ⟨x3, hx3, hm⟩ := bnd_some hm
        refine M rfl rfl (PStep.call ((s_index_Find a0.index_ (((ix a1 x2)).path) (((ix a1 x2)).version) x3 hx3)) Tryz.call53 rfl (LkAll.cons (Lk.t rfl) (LkAll.cons (Lk.t rfl) (LkAll.cons (Lk.t rfl) LkAll.nil)))) ?_
        refine M rfl rfl (PStep.move rfl (Lk.t rfl)) ?_
        refine M rfl rfl (PStep.extract rfl (Lk.t rfl) rfl) ?_
        refine M rfl rfl (PStep.extract rfl (Lk.t rfl) rfl) ?_
        refine MA rfl (AStep.alloc Tryz.zeroValue89 rfl zc89 rfl rfl) ?_
        refine MS 18 18 18 15 (fun z => pPtr z.b 0) (fun z => hCells z.b 89 [pS (ByteArray.empty), pI (0), pI (0), pI (0), pSl (([] : (List Requirement)) : (List Requirement)), pS (ByteArray.empty), pS (ByteArray.empty), pS (ByteArray.empty), pB (false)]) (h := (fun z => hCells z.b 89 [pS (x3.1.path), pI (x3.1.version.major), pI (x3.1.version.minor), pI (x3.1.version.patch), pSl (x3.1.requirements : (List Requirement)), pS (x3.1.archive), pS (x3.1.interface), pS (x3.1.certificate), pB (x3.1.yanked)])) rfl (fun q => TStepG.ofStep rfl (fun A' => Step.storeW 0 Tryz.sizeOf89 rfl (Lk.t rfl) (Lk.t rfl) rfl rfl rfl)) ?_
        refine FlowL.nil ?_
        refine ⟨rfl, ⟨⟨by kernel_rfl, ⟨_, _, _, rfl, rfl⟩, .inl ⟨_, _, _, rfl, rfl, rfl, rfl⟩⟩, trivial⟩, fun β => ?_⟩
        refine TrL.conv (E' := (15, pPtr (β 18).b 0) :: _) rfl (A' := hCells (β 18).b 89 [pS (x3.1.path), pI (x3.1.version.major), pI (x3.1.version.minor), pI (x3.1.version.patch), pSl (x3.1.requirements : (List Requirement)), pS (x3.1.archive), pS (x3.1.interface), pS (x3.1.certificate), pB (x3.1.yanked)] :: _) rfl ?_
        refine L rfl rfl (PStep.assign rfl (Lk.t rfl)) ?_
        refine TrL.nil ?_
        refine TrE.seq ?_
        refine TrC.seq ?_
        refine TrC.seq ?_
        refine TrC.region rfl ?_
        refine L rfl rfl (PStep.move rfl (Lk.t rfl)) ?_
        refine L rfl rfl (PStep.not rfl (Lk.t rfl)) ?_
        refine TrL.nil ?_
        refine TrE.seq ?_
        refine TrC.condB (Lk.t rfl) (fun hc3 => ?_) (fun hc3 => ?_)
        · have hm := cond_t hm hc3
          have hs3 := hc3
          try simp only [decide_eq_true_eq, decide_eq_false_iff_not, Bool.and_eq_true, Bool.or_eq_true, Bool.not_eq_true', Bool.not_eq_false', Bool.and_eq_false_iff, Bool.or_eq_false_iff] at hs3
          refine TrC.seq ?_
          refine TrC.region rfl ?_
          refine L rfl rfl (PStep.assign rfl Lk.c) ?_
          refine TrL.nil ?_
          refine TrE.seq ?_
          refine TrC.ret (TrE.thenR <| TrE.blockR <| TrE.thenR <| TrE.blockR <| ?_)
          cases hm
          exact TrE.retOKX (RetOKX.of o3 (RetOK.eq (show _ = _ from rfl) (RetOK.tmp rfl (Lk.t (t := 6) rfl) (List.Sublist.cons _ (List.Sublist.cons _ (List.Sublist.cons _ (List.Sublist.cons _ (List.Sublist.cons_cons _ (List.Sublist.cons_cons _ (List.nil_sublist _))))))))))
        · have hm := cond_f hm hc3
          have hs3 := hc3
          try simp only [decide_eq_true_eq, decide_eq_false_iff_not, Bool.and_eq_true, Bool.or_eq_true, Bool.not_eq_true', Bool.not_eq_false', Bool.and_eq_false_iff, Bool.or_eq_false_iff] at hs3
          refine TrC.skip ?_
          refine TrE.seq ?_
          refine TrC.seq ?_
          refine TrC.share 2 8 rfl rfl ?_
          refine TrC.share 3 7 rfl rfl ?_
          refine TrC.region rfl ?_
          refine L rfl rfl (PStep.move rfl (Lk.t rfl)) ?_
          refine L rfl rfl (PStep.move rfl (Lk.t rfl)) ?_
          refine L rfl rfl (PStep.move rfl (Lk.t rfl)) ?_
          refine L rfl rfl (PStep.ldLocV (α := Release) (v := x3.1) 0 Tryz.isAgg89 Tryz.sizeOf89 rfl (Lk.t rfl) rfl rfl) ?_
          obtain ⟨x4, hx4, hm⟩ := bnd_some hm
          refine TrL.front 5 rfl ?_
          refine TrL.front 5 rfl ?_
          refine TrL.callFVD (ps := [pSl (l1 : (List Selected)), pSl (l2 : (List Requirement)), pT (x3.1 : Release)]) (s_proof_Decisions_1 l1 l2 x3.1 l3 bb2_0 o3 x4 hx4) Tryz.call43 rfl rfl rfl (Lk.t rfl) (LkAll.cons (Lk.shSl (Lk.t rfl)) (LkAll.cons (Lk.shSl (Lk.t rfl)) (LkAll.cons (Lk.t rfl) LkAll.nil))) rfl ?_
          intro r2
          refine TrL.conv (E' := (77, pTup []) :: _) rfl (A' := hCells bb2_0 42 [pOwn r2 (x4 : (List ByteArray))] :: hRow false 9 r2 (x4 : (List ByteArray)) :: _) rfl ?_
          refine TrL.nil ?_
          refine TrE.seq ?_
          refine TrC.seq ?_
          refine TrC.region rfl ?_
          refine L rfl rfl (PStep.move rfl (Lk.t rfl)) ?_
          refine L rfl rfl (PStep.move rfl (Lk.t rfl)) ?_
          refine L rfl rfl (PStep.move rfl (Lk.t rfl)) ?_
          obtain ⟨hk3, hm⟩ := chk_some hm
          refine L rfl rfl (PStep.ixD (xs := a1) Tryz.runUnderlying37 Tryz.sizeOf59 rfl (Lk.t rfl) (Lk.t rfl) hk3) ?_
          refine L rfl rfl (PStep.ldRefV (α := Selected) (v := (ix a1 x2)) Tryz.isAgg59 Tryz.sizeOf59 rfl (Lk.t rfl) rfl) ?_
          refine L rfl rfl (PStep.litX ([(ix a1 x2)] : (List Selected)) slT37 rfl ⟨rfl, Lk.agg (Lk.t rfl), trivial⟩ rfl rfl) ?_
          obtain ⟨hk4, hm⟩ := chk_some hm
          refine TrL.append 4 apT37 rfl rfl rfl (Lk.shOwn (Lk.t rfl)) (Lk.slX (Lk.t rfl)) rfl (by have := hk4; omega) (fun r3 => ?_)
          refine L rfl rfl (PStep.assign rfl (Lk.t rfl)) ?_
          refine TrL.nil ?_
          refine TrE.seq ?_
          refine TrC.region rfl ?_
          refine L rfl rfl (PStep.move rfl (Lk.t rfl)) ?_
          refine L rfl rfl (PStep.faLoc fo89_2 rfl (Lk.t rfl)) ?_
          refine L rfl rfl (PStep.ldLoc 2 Tryz.isAgg26 rfl (Lk.t rfl) rfl rfl) ?_
          obtain ⟨hk5, hm⟩ := chk_some hm
          refine TrL.append 5 apT26 rfl rfl rfl (Lk.shOwn (Lk.t rfl)) (Lk.t rfl) rfl (by have := hk5; omega) (fun r4 => ?_)
          refine L rfl rfl (PStep.assign rfl (Lk.t rfl)) ?_
          refine TrL.nil ?_
          refine TrE.blockN ?_
          refine TrE.takeA 0 6 rfl rfl ?_
          refine TrE.takeA 1 7 rfl rfl ?_
          refine TrE.dropF 4 ?_
          refine TrE.again ((n, (l1 ++ ([(ix a1 x2)] : (List Selected))), (l2 ++ x3.1.requirements), x4, r3, r4, r2)) hm (Nat.lt_succ_self n) ((EnvSub.cons rfl (EnvSub.cons rfl (EnvSub.cons rfl (EnvSub.cons rfl (EnvSub.cons rfl EnvSub.nil)))))) rfl
def m_proof_Decisions (a0 : Index) (a1 : (List Requirement)) (a2 : (List Selected)) : Option ((List ByteArray) × Int) :=
  bnd (m_proof_newChecker a0 a1 (([] : (List Inference)))) fun x1 => bnd (gd ((decide (x1.2 ≠ (0 : Int))) = false) (m_proof_increasing a2)) fun x2 => (bif ((decide (x1.2 ≠ (0 : Int))) || (!x2)) then some (([] : (List ByteArray)), (1 : Int))
  else chk (x1.1.isSome = true) <| bnd (m_proof_checker_decide_proof_Decisions_1 ((x1.1.getD default)) a2 (([] : (List ByteArray)))) fun x3 => (bif (!x3.1) then some (([] : (List ByteArray)), (6 : Int))
  else some (x3.2, (0 : Int))))
theorem s_proof_Decisions (a0 : Index) (a1 : (List Requirement)) (a2 : (List Selected)) (r : (List ByteArray) × Int) (hm : m_proof_Decisions a0 a1 a2 = some r) : Fn Tryz.prog 18 [pT (a0 : Index), pSl (a1 : (List Requirement)), pSl (a2 : (List Selected))] (pTup [pSl (r.1 : (List ByteArray)), pI (r.2)]) := by
  unfold m_proof_Decisions at hm
  refine Spec.mk Tryz.func18 rfl rfl fun B => ?_
  refine TrC.seq ?_
  refine TrC.region rfl ?_
  refine TrL.alloc (AStep.boxK rfl rfl (Lk.t rfl)) rfl (fun b1 => ?_)
  refine L rfl rfl (PStep.assign rfl Lk.c) ?_
  refine L rfl rfl (PStep.assign rfl Lk.c) ?_
  refine TrL.nil ?_
  refine TrE.seq ?_
  refine TrC.seq ?_
  refine TrC.region rfl ?_
  refine L rfl rfl (PStep.ldLocV (α := Index) (v := a0) 0 Tryz.isAgg25 Tryz.sizeOf25 rfl (Lk.t rfl) rfl rfl) ?_
  refine L rfl rfl (PStep.move rfl (Lk.t rfl)) ?_
  obtain ⟨x1, hx1, hm⟩ := bnd_some hm
  refine L rfl rfl (PStep.call ((s_proof_newChecker a0 a1 (([] : (List Inference))) x1 hx1)) Tryz.call36 rfl (LkAll.cons (Lk.t rfl) (LkAll.cons (Lk.t rfl) (LkAll.cons (Lk.nilSl Lk.c) LkAll.nil)))) ?_
  refine L rfl rfl (PStep.move rfl (Lk.t rfl)) ?_
  refine L rfl rfl (PStep.extract rfl (Lk.t rfl) rfl) ?_
  refine L rfl rfl (PStep.extract rfl (Lk.t rfl) rfl) ?_
  refine L rfl rfl (PStep.assign rfl (Lk.t rfl)) ?_
  refine L rfl rfl (PStep.assign rfl (Lk.t rfl)) ?_
  refine TrL.nil ?_
  refine TrE.seq ?_
  refine TrC.seq ?_
  refine TrC.seq ?_
  refine TrC.region rfl ?_
  refine L rfl rfl (PStep.move rfl (Lk.t rfl)) ?_
  refine L rfl rfl (PStep.neq rfl (Lk.t rfl) Lk.c) ?_
  refine L rfl rfl (PStep.move rfl (Lk.t rfl)) ?_
  refine LW rfl (WStep.guard rfl rfl rfl rfl (fun hg => PStep.move rfl (Lk.t rfl))) ?_
  obtain ⟨x2, hx2, hm⟩ := bnd_some hm
  refine LW rfl (WStep.guard rfl rfl rfl rfl (fun hg => PStep.call ((s_proof_increasing a2 x2 (gd_some hx2 hg))) Tryz.call41 rfl (LkAll.cons (Lk.g rfl hg) LkAll.nil))) ?_
  refine LW rfl (WStep.guard rfl rfl rfl rfl (fun hg => PStep.not rfl (Lk.g rfl hg))) ?_
  refine L rfl rfl (PStep.pickOr rfl (Lk.t rfl) (fun hq => Lk.g rfl hq)) ?_
  refine TrL.nil ?_
  refine TrE.seq ?_
  refine TrC.condB (Lk.t rfl) (fun hc1 => ?_) (fun hc1 => ?_)
  · have hm := cond_t hm hc1
    have hs1 := hc1
    try simp only [decide_eq_true_eq, decide_eq_false_iff_not, Bool.and_eq_true, Bool.or_eq_true, Bool.not_eq_true', Bool.not_eq_false', Bool.and_eq_false_iff, Bool.or_eq_false_iff] at hs1
    refine TrC.seq ?_
    refine TrC.region rfl ?_
    refine L rfl rfl (PStep.assign rfl Lk.c) ?_
    refine L rfl rfl (PStep.assign rfl Lk.c) ?_
    refine TrL.nil ?_
    refine TrE.seq ?_
    refine TrC.ret (TrE.thenR <| ?_)
    cases hm
    exact TrE.retOK (RetOK.eq (show _ = _ from rfl) (RetOK.tmp2 rfl (Lk.nilSl (α := ByteArray) (Lk.t (t := 6) rfl)) (Lk.t (t := 7) rfl) (List.nil_sublist _)))
  · have hm := cond_f hm hc1
    have hs1 := hc1
    try simp only [decide_eq_true_eq, decide_eq_false_iff_not, Bool.and_eq_true, Bool.or_eq_true, Bool.not_eq_true', Bool.not_eq_false', Bool.and_eq_false_iff, Bool.or_eq_false_iff] at hs1
    refine TrC.skip ?_
    refine TrE.seq ?_
    refine TrC.seq ?_
    refine TrC.region rfl ?_
    refine TrL.alloc (AStep.alloc Tryz.zeroValue42 rfl zn42 rfl rfl) rfl (fun b2 => ?_)
    refine TrL.nil ?_
    refine TrE.seq ?_
    refine TrC.seq ?_
    refine TrC.seq ?_
    refine TrC.region rfl ?_
    refine L rfl rfl (PStep.move rfl (Lk.t rfl)) ?_
    refine L rfl rfl (PStep.move rfl (Lk.t rfl)) ?_
    refine L rfl rfl (PStep.mkClo rfl (LkAll.cons (Lk.t rfl) LkAll.nil)) ?_
    refine TrL.lay (hRow false 9 .nil (([] : (List ByteArray)) : (List ByteArray))) rfl ?_
    refine TrL.weakC 1 0 (q := pOwn .nil ([] : (List ByteArray))) rfl rfl nilOwn ?_
    obtain ⟨hk1, hm⟩ := chk_some hm
    obtain ⟨x3, hx3, hm⟩ := bnd_some hm
    refine TrL.front 0 rfl ?_
    refine TrL.front 2 rfl ?_
    refine TrL.callFD (s_proof_checker_decide_proof_Decisions_1 ((x1.1.getD default)) a2 (([] : (List ByteArray))) b2 .nil x3 hx3) Tryz.call42 rfl rfl rfl (LkAll.cons (Lk.optRef (Lk.t rfl) hk1) (LkAll.cons (Lk.t rfl) (LkAll.cons (Lk.t rfl) LkAll.nil))) rfl ?_
    intro r1
    refine TrL.conv (E' := (27, pB (x3.1)) :: _) rfl (A' := hCells b2 42 [pOwn r1 (x3.2 : (List ByteArray))] :: hRow false 9 r1 (x3.2 : (List ByteArray)) :: _) rfl ?_
    refine L rfl rfl (PStep.not rfl (Lk.t rfl)) ?_
    refine TrL.nil ?_
    refine TrE.seq ?_
    refine TrC.condB (Lk.t rfl) (fun hc2 => ?_) (fun hc2 => ?_)
    · have hm := cond_t hm hc2
      have hs2 := hc2
      try simp only [decide_eq_true_eq, decide_eq_false_iff_not, Bool.and_eq_true, Bool.or_eq_true, Bool.not_eq_true', Bool.not_eq_false', Bool.and_eq_false_iff, Bool.or_eq_false_iff] at hs2
      refine TrC.seq ?_
      refine TrC.region rfl ?_
      refine L rfl rfl (PStep.assign rfl Lk.c) ?_
      refine L rfl rfl (PStep.assign rfl Lk.c) ?_
      refine TrL.nil ?_
      refine TrE.seq ?_
      refine TrC.ret (TrE.thenR <| ?_)
      cases hm
      exact TrE.retOK (RetOK.eq (show _ = _ from rfl) (RetOK.tmp2 rfl (Lk.nilSl (α := ByteArray) (Lk.t (t := 6) rfl)) (Lk.t (t := 7) rfl) (List.nil_sublist _)))
    · have hm := cond_f hm hc2
      have hs2 := hc2
      try simp only [decide_eq_true_eq, decide_eq_false_iff_not, Bool.and_eq_true, Bool.or_eq_true, Bool.not_eq_true', Bool.not_eq_false', Bool.and_eq_false_iff, Bool.or_eq_false_iff] at hs2
      refine TrC.skip ?_
      refine TrE.seq ?_
      refine TrC.seq ?_
      refine TrC.region rfl ?_
      refine L rfl rfl (PStep.ldLoc 0 Tryz.isAgg42 rfl (Lk.t rfl) rfl rfl) ?_
      refine L rfl rfl (PStep.assign rfl (Lk.t rfl)) ?_
      refine L rfl rfl (PStep.assign rfl Lk.c) ?_
      refine TrL.nil ?_
      refine TrE.seq ?_
      refine TrC.ret (?_)
      refine TrE.share 1 6 rfl rfl ?_
      cases hm
      exact TrE.retOK (RetOK.eq (show _ = _ from rfl) (RetOK.tmp2 rfl (Lk.shSl (Lk.t (t := 6) rfl)) (Lk.t (t := 7) rfl) (List.nil_sublist _)))
def m_slices_Equal_string_string_L2 (a0 : (List ByteArray)) (a1 : (List ByteArray)) (K1 : Unit → Option (Bool)) : Nat → Nat → Option (Bool)
  | 0, _ => none
  | n + 1, i1 =>
    (bif (decide ((i1 : Int) < (a0.length : Int))) then chk (0 ≤ (i1 : Int) ∧ (i1 : Int) < (a1.length : Int)) <| (bif (decide ((ix a0 ((i1 : Int))) ≠ (ix a1 ((i1 : Int))))) then some false
  else m_slices_Equal_string_string_L2 a0 a1 K1 n ((i1 + 1)))
  else K1 ())
def m_slices_Equal_string_string (a0 : (List ByteArray)) (a1 : (List ByteArray)) : Option (Bool) :=
  (bif (decide ((a0.length : Int) ≠ (a1.length : Int))) then some false
  else joinM (fun (_ : Unit) =>
    some true) fun K1 =>
    m_slices_Equal_string_string_L2 a0 a1 K1 (a0.length + 1) 0)
theorem s_slices_Equal_string_string (a0 : (List ByteArray)) (a1 : (List ByteArray)) (r : Bool) (hm : m_slices_Equal_string_string a0 a1 = some r) : Fn Tryz.prog 20 [pSl (a0 : (List ByteArray)), pSl (a1 : (List ByteArray))] (pB (r)) := by
  unfold m_slices_Equal_string_string at hm
  refine Spec.mk Tryz.func20 rfl rfl fun B => ?_
  refine TrC.seq ?_
  refine TrC.region rfl ?_
  refine L rfl rfl (PStep.assign rfl Lk.c) ?_
  refine TrL.nil ?_
  refine TrE.seq ?_
  refine TrC.seq ?_
  refine TrC.seq ?_
  refine TrC.region rfl ?_
  refine L rfl rfl (PStep.move rfl (Lk.t rfl)) ?_
  refine L rfl rfl (PStep.len (xs := a0) (tys := #[]) Tryz.runUnderlying42 rfl (Lk.t rfl)) ?_
  refine L rfl rfl (PStep.move rfl (Lk.t rfl)) ?_
  refine L rfl rfl (PStep.len (xs := a1) (tys := #[]) Tryz.runUnderlying42 rfl (Lk.t rfl)) ?_
  refine L rfl rfl (PStep.neq rfl (Lk.t rfl) (Lk.t rfl)) ?_
  refine TrL.nil ?_
  refine TrE.seq ?_
  refine TrC.condB (Lk.t rfl) (fun hc1 => ?_) (fun hc1 => ?_)
  · have hm := cond_t hm hc1
    have hs1 := hc1
    try simp only [decide_eq_true_eq, decide_eq_false_iff_not, Bool.and_eq_true, Bool.or_eq_true, Bool.not_eq_true', Bool.not_eq_false', Bool.and_eq_false_iff, Bool.or_eq_false_iff] at hs1
    refine TrC.seq ?_
    refine TrC.region rfl ?_
    refine L rfl rfl (PStep.assign rfl Lk.c) ?_
    refine TrL.nil ?_
    refine TrE.seq ?_
    refine TrC.ret (TrE.thenR <| ?_)
    cases hm
    exact TrE.retOK (RetOK.eq (show _ = _ from rfl) (RetOK.tmp rfl (Lk.t (t := 4) rfl) (List.nil_sublist _)))
  · have hm := cond_f hm hc1
    have hs1 := hc1
    try simp only [decide_eq_true_eq, decide_eq_false_iff_not, Bool.and_eq_true, Bool.or_eq_true, Bool.not_eq_true', Bool.not_eq_false', Bool.and_eq_false_iff, Bool.or_eq_false_iff] at hs1
    refine TrC.skip ?_
    refine TrE.seq ?_
    obtain ⟨K1, hK1, hm⟩ := joinK hm
    refine TrC.meetM (X := Unit) (fun _ => K1 () = some r) (fun _ => []) [] (fun _ => fun A => A) EnvSub.nil ?_ ?_
    · refine TrC.seq ?_
      refine TrC.region rfl ?_
      refine L rfl rfl (PStep.move rfl (Lk.t rfl)) ?_
      refine L rfl rfl (PStep.len (xs := a0) (tys := #[]) Tryz.runUnderlying42 rfl (Lk.t rfl)) ?_
      refine L rfl rfl (PStep.move rfl Lk.c) ?_
      refine TrL.nil ?_
      refine TrE.seq ?_
      refine TrC.block ?_
      refine TrC.know (Lk.t (t := 0) rfl) pSl.lt fun hl1 => ?_
      refine TrC.know (Lk.t (t := 1) rfl) pSl.lt fun hl2 => ?_
      refine TrC.loopM (X := Nat × Nat) (fun ⟨n, i1⟩ => m_slices_Equal_string_string_L2 a0 a1 K1 n i1 = some r) (fun ⟨n, i1⟩ => [(13, pI ((i1 : Int)))]) [(0, _), (1, _), (12, _)] (fun ⟨n, i1⟩ => fun A => A) (fun ⟨n, i1⟩ => n) (((a0.length + 1 : Nat), 0)) hm ((EnvSub.cons rfl (EnvSub.cons rfl (EnvSub.cons rfl (EnvSub.cons rfl EnvSub.nil))))) rfl ?_
      rintro ⟨n, i1⟩ hm
      obtain ⟨n, rfl⟩ := succ_of (f := fun n => m_slices_Equal_string_string_L2 a0 a1 K1 n i1) rfl hm
      change m_slices_Equal_string_string_L2 a0 a1 K1 (n + 1) i1 = some r at hm
      rw [m_slices_Equal_string_string_L2] at hm
      refine TrC.seq ?_
      refine TrC.region rfl ?_
      refine L rfl rfl (PStep.lss rfl (Lk.t rfl) (Lk.t rfl)) ?_
      refine TrL.nil ?_
      refine TrE.seq ?_
      refine TrC.seq ?_
      refine TrC.condB (Lk.t rfl) (fun hc2 => ?_) (fun hc2 => ?_)
      · have hm := cond_t hm hc2
        have hs2 := hc2
        try simp only [decide_eq_true_eq, decide_eq_false_iff_not, Bool.and_eq_true, Bool.or_eq_true, Bool.not_eq_true', Bool.not_eq_false', Bool.and_eq_false_iff, Bool.or_eq_false_iff] at hs2
        refine TrC.skip ?_
        refine TrE.seq ?_
        refine TrC.seq ?_
        refine TrC.block ?_
        refine TrC.seq ?_
        refine TrC.region rfl ?_
        refine L rfl rfl (PStep.move rfl (Lk.t rfl)) ?_
        refine L rfl rfl (PStep.assign rfl (Lk.t rfl)) ?_
        refine TrL.nil ?_
        refine TrE.seq ?_
        refine TrC.seq ?_
        refine TrC.flow 9 mixed rfl (by kernel_rfl) (by kernel_rfl) ?_
        refine F rfl rfl (PStep.move rfl (Lk.t rfl)) ?_
        refine F rfl rfl (PStep.move rfl (Lk.t rfl)) ?_
        refine F rfl rfl (PStep.ixD (xs := a0) Tryz.runUnderlying42 Tryz.sizeOf9 rfl (Lk.t rfl) (Lk.t rfl) (by omega)) ?_
        refine F rfl rfl (PStep.ldRef Tryz.isAgg9 rfl (Lk.t rfl) rfl) ?_
        refine F rfl rfl (PStep.move rfl (Lk.t rfl)) ?_
        refine F rfl rfl (PStep.move rfl (Lk.t rfl)) ?_
        obtain ⟨hk1, hm⟩ := chk_some hm
        refine F rfl rfl (PStep.ixD (xs := a1) Tryz.runUnderlying42 Tryz.sizeOf9 rfl (Lk.t rfl) (Lk.t rfl) hk1) ?_
        refine F rfl rfl (PStep.ldRef Tryz.isAgg9 rfl (Lk.t rfl) rfl) ?_
        refine F rfl rfl (PStep.sneq rfl (Lk.t rfl) (Lk.t rfl)) ?_
        refine FlowH.nil ?_
        refine ⟨rfl, ?_⟩
        refine AllocK.none rfl ?_
        refine TrL.nil ?_
        refine TrE.seq ?_
        refine TrC.condB (Lk.t rfl) (fun hc3 => ?_) (fun hc3 => ?_)
        · have hm := cond_t hm hc3
          have hs3 := hc3
          try simp only [decide_eq_true_eq, decide_eq_false_iff_not, Bool.and_eq_true, Bool.or_eq_true, Bool.not_eq_true', Bool.not_eq_false', Bool.and_eq_false_iff, Bool.or_eq_false_iff] at hs3
          refine TrC.seq ?_
          refine TrC.region rfl ?_
          refine L rfl rfl (PStep.assign rfl Lk.c) ?_
          refine TrL.nil ?_
          refine TrE.seq ?_
          refine TrC.ret (TrE.blockR <| TrE.thenR <| TrE.thenR <| TrE.blockR <| TrE.thenR <| ?_)
          cases hm
          exact TrE.retOK (RetOK.eq (show _ = _ from rfl) (RetOK.tmp rfl (Lk.t (t := 4) rfl) (List.nil_sublist _)))
        · have hm := cond_f hm hc3
          have hs3 := hc3
          try simp only [decide_eq_true_eq, decide_eq_false_iff_not, Bool.and_eq_true, Bool.or_eq_true, Bool.not_eq_true', Bool.not_eq_false', Bool.and_eq_false_iff, Bool.or_eq_false_iff] at hs3
          refine TrC.skip ?_
          refine TrE.blockN ?_
          refine TrE.seq ?_
          refine TrC.region rfl ?_
          refine L rfl rfl (PStep.add64 rfl (Lk.t rfl) Lk.c (by omega)) ?_
          refine L rfl rfl (PStep.move rfl (Lk.t rfl)) ?_
          refine TrL.nil ?_
          refine TrE.again ((n, (i1 + 1))) hm (Nat.lt_succ_self n) ((EnvSub.cons rfl (EnvSub.cons rfl (EnvSub.cons rfl (EnvSub.cons rfl EnvSub.nil))))) rfl
      · have hm := cond_f hm hc2
        have hs2 := hc2
        try simp only [decide_eq_true_eq, decide_eq_false_iff_not, Bool.and_eq_true, Bool.or_eq_true, Bool.not_eq_true', Bool.not_eq_false', Bool.and_eq_false_iff, Bool.or_eq_false_iff] at hs2
        refine TrC.exit (TrE.thenX <| TrE.thenX <| TrE.blockHit <| ?_)
        refine TrE.meetX (()) hm (EnvSub.nil) rfl
    · rintro _ hm
      change K1 () = some r at hm
      subst hK1
      refine TrC.seq ?_
      refine TrC.region rfl ?_
      refine L rfl rfl (PStep.assign rfl Lk.c) ?_
      refine TrL.nil ?_
      refine TrE.seq ?_
      refine TrC.ret (?_)
      cases hm
      exact TrE.retOK (RetOK.eq (show _ = _ from rfl) (RetOK.tmp rfl (Lk.t (t := 4) rfl) (List.nil_sublist _)))
def m_index_table_selected_L4 (a1 : (List Selected)) (a0 : Table) (K2 : (List Release) → Option ((List Release) × Int)) : Nat → (List Release) → Nat → Option ((List Release) × Int)
  | 0, _, _ => none
  | n + 1, l2, i1 =>
    (bif (decide ((i1 : Int) < (a1.length : Int))) then (bif (!(getM a0.releases (((ix a1 ((i1 : Int)))))).isSome) then some (([] : (List Release)), (6 : Int))
  else chk (l2.length + (([(((getM a0.releases (((ix a1 ((i1 : Int)))))).getD zRelease))] : (List Release))).length ≤ 4294967296) <| m_index_table_selected_L4 a1 a0 K2 n ((l2 ++ ([(((getM a0.releases (((ix a1 ((i1 : Int)))))).getD zRelease))] : (List Release)))) ((i1 + 1)))
  else K2 l2)
def m_index_table_selected_L5 (a1 : (List Selected)) (K1 : Unit → Option ((List Release) × Int)) : Nat → Nat → Option ((List Release) × Int)
  | 0, _ => none
  | n + 1, i2 =>
    (bif (decide ((i2 : Int) < (a1.length : Int))) then chk (-9223372036854775808 ≤ ((i2 : Int) - (1 : Int)) ∧ ((i2 : Int) - (1 : Int)) ≤ 9223372036854775807) <| chk (0 ≤ ((i2 : Int) - (1 : Int)) ∧ ((i2 : Int) - (1 : Int)) < (a1.length : Int)) <| (bif (!strLt (((ix a1 (((i2 : Int) - (1 : Int))))).path) (((ix a1 ((i2 : Int)))).path)) then some (([] : (List Release)), (1 : Int))
  else m_index_table_selected_L5 a1 K1 n ((i2 + 1)))
  else K1 ())
def m_index_table_selected (a0 : Table) (a1 : (List Selected)) : Option ((List Release) × Int) :=
  joinM (fun (_ : Unit) =>
    joinM (fun (l1 : (List Release)) =>
    some (l1, (0 : Int))) fun K2 =>
    m_index_table_selected_L4 a1 a0 K2 (a1.length + 1) (([] : (List Release))) 0) fun K1 =>
    m_index_table_selected_L5 a1 K1 (a1.length + 1) 1
theorem s_index_table_selected (a0 : Table) (a1 : (List Selected)) (r : (List Release) × Int) (hm : m_index_table_selected a0 a1 = some r) : Fn Tryz.prog 85 [pT (a0 : Table), pSl (a1 : (List Selected))] (pTup [pSl (r.1 : (List Release)), pI (r.2)]) := by
  unfold m_index_table_selected at hm
  refine Spec.mk Tryz.func85 rfl rfl fun B => ?_
  refine TrC.seq ?_
  refine TrC.region rfl ?_
  refine TrL.alloc (AStep.boxK rfl rfl (Lk.t rfl)) rfl (fun b1 => ?_)
  refine L rfl rfl (PStep.assign rfl Lk.c) ?_
  refine L rfl rfl (PStep.assign rfl Lk.c) ?_
  refine TrL.nil ?_
  refine TrE.seq ?_
  obtain ⟨K1, hK1, hm⟩ := joinK hm
  refine TrC.meetM (X := Unit) (fun _ => K1 () = some r) (fun _ => []) [(1, _), (2, _)] (fun _ => fun A => A) (EnvSub.cons rfl (EnvSub.cons rfl EnvSub.nil)) ?_ ?_
  · refine TrC.seq ?_
    refine TrC.region rfl ?_
    refine L rfl rfl (PStep.assign rfl Lk.c) ?_
    refine TrL.nil ?_
    refine TrE.seq ?_
    refine TrC.block ?_
    refine TrC.know (Lk.t (t := 1) rfl) pSl.lt fun hl2 => ?_
    refine TrC.loopM (X := Nat × Nat) (fun ⟨n, i2⟩ => m_index_table_selected_L5 a1 K1 n i2 = some r) (fun ⟨n, i2⟩ => [(6, pI ((i2 : Int)))]) [(1, _), (2, _)] (fun ⟨n, i2⟩ => fun A => A) (fun ⟨n, i2⟩ => n) (((a1.length + 1 : Nat), 1)) hm ((EnvSub.cons rfl (EnvSub.cons rfl (EnvSub.cons rfl EnvSub.nil)))) rfl ?_
    rintro ⟨n, i2⟩ hm
    obtain ⟨n, rfl⟩ := succ_of (f := fun n => m_index_table_selected_L5 a1 K1 n i2) rfl hm
    change m_index_table_selected_L5 a1 K1 (n + 1) i2 = some r at hm
    rw [m_index_table_selected_L5] at hm
    refine TrC.seq ?_
    refine TrC.seq ?_
    refine TrC.region rfl ?_
    refine L rfl rfl (PStep.move rfl (Lk.t rfl)) ?_
    refine L rfl rfl (PStep.move rfl (Lk.t rfl)) ?_
    refine L rfl rfl (PStep.len (xs := a1) (tys := #[]) Tryz.runUnderlying37 rfl (Lk.t rfl)) ?_
    refine L rfl rfl (PStep.lss rfl (Lk.t rfl) (Lk.t rfl)) ?_
    refine TrL.nil ?_
    refine TrE.seq ?_
    refine TrC.condB (Lk.t rfl) (fun hc3 => ?_) (fun hc3 => ?_)
    · have hm := cond_t hm hc3
      have hs3 := hc3
      try simp only [decide_eq_true_eq, decide_eq_false_iff_not, Bool.and_eq_true, Bool.or_eq_true, Bool.not_eq_true', Bool.not_eq_false', Bool.and_eq_false_iff, Bool.or_eq_false_iff] at hs3
      refine TrC.skip ?_
      refine TrE.seq ?_
      refine TrC.seq ?_
      refine TrC.block ?_
      refine TrC.seq ?_
      refine TrC.flow 12 mixed rfl (by kernel_rfl) (by kernel_rfl) ?_
      refine F rfl rfl (PStep.move rfl (Lk.t rfl)) ?_
      refine F rfl rfl (PStep.move rfl (Lk.t rfl)) ?_
      obtain ⟨hk2, hm⟩ := chk_some hm
      refine F rfl rfl (PStep.sub64 rfl (Lk.t rfl) Lk.c hk2) ?_
      obtain ⟨hk3, hm⟩ := chk_some hm
      refine F rfl rfl (PStep.ixD (xs := a1) Tryz.runUnderlying37 Tryz.sizeOf59 rfl (Lk.t rfl) (Lk.t rfl) hk3) ?_
      refine F rfl rfl (PStep.faRef fo59_0 rfl (Lk.t rfl)) ?_
      refine F rfl rfl (PStep.ldRef Tryz.isAgg9 rfl (Lk.t rfl) rfl) ?_
      refine F rfl rfl (PStep.move rfl (Lk.t rfl)) ?_
      refine F rfl rfl (PStep.move rfl (Lk.t rfl)) ?_
      refine F rfl rfl (PStep.ixD (xs := a1) Tryz.runUnderlying37 Tryz.sizeOf59 rfl (Lk.t rfl) (Lk.t rfl) (by omega)) ?_
      refine F rfl rfl (PStep.faRef fo59_0 rfl (Lk.t rfl)) ?_
      refine F rfl rfl (PStep.ldRef Tryz.isAgg9 rfl (Lk.t rfl) rfl) ?_
      refine F rfl rfl (PStep.sgeq rfl (Lk.t rfl) (Lk.t rfl)) ?_
      refine FlowH.nil ?_
      refine ⟨rfl, ?_⟩
      refine AllocK.none rfl ?_
      refine TrL.nil ?_
      refine TrE.seq ?_
      refine TrC.condB (Lk.t rfl) (fun hc4 => ?_) (fun hc4 => ?_)
      · have hm := cond_t hm hc4
        have hs4 := hc4
        try simp only [decide_eq_true_eq, decide_eq_false_iff_not, Bool.and_eq_true, Bool.or_eq_true, Bool.not_eq_true', Bool.not_eq_false', Bool.and_eq_false_iff, Bool.or_eq_false_iff] at hs4
        refine TrC.seq ?_
        refine TrC.region rfl ?_
        refine L rfl rfl (PStep.assign rfl Lk.c) ?_
        refine L rfl rfl (PStep.assign rfl Lk.c) ?_
        refine TrL.nil ?_
        refine TrE.seq ?_
        refine TrC.ret (TrE.blockR <| TrE.thenR <| TrE.thenR <| TrE.blockR <| TrE.thenR <| ?_)
        cases hm
        exact TrE.retOK (RetOK.eq (show _ = _ from rfl) (RetOK.tmp2 rfl (Lk.nilSl (α := Release) (Lk.t (t := 4) rfl)) (Lk.t (t := 5) rfl) (List.nil_sublist _)))
      · have hm := cond_f hm hc4
        have hs4 := hc4
        try simp only [decide_eq_true_eq, decide_eq_false_iff_not, Bool.and_eq_true, Bool.or_eq_true, Bool.not_eq_true', Bool.not_eq_false', Bool.and_eq_false_iff, Bool.or_eq_false_iff] at hs4
        refine TrC.skip ?_
        refine TrE.blockN ?_
        refine TrE.seq ?_
        refine TrC.region rfl ?_
        refine L rfl rfl (PStep.move rfl (Lk.t rfl)) ?_
        refine L rfl rfl (PStep.add64 rfl (Lk.t rfl) Lk.c (by omega)) ?_
        refine L rfl rfl (PStep.assign rfl (Lk.t rfl)) ?_
        refine TrL.nil ?_
        refine TrE.again ((n, (i2 + 1))) hm (Nat.lt_succ_self n) ((EnvSub.cons rfl (EnvSub.cons rfl (EnvSub.cons rfl EnvSub.nil)))) rfl
    · have hm := cond_f hm hc3
      have hs3 := hc3
      try simp only [decide_eq_true_eq, decide_eq_false_iff_not, Bool.and_eq_true, Bool.or_eq_true, Bool.not_eq_true', Bool.not_eq_false', Bool.and_eq_false_iff, Bool.or_eq_false_iff] at hs3
      refine TrC.exit (TrE.thenX <| TrE.thenX <| TrE.blockHit <| ?_)
      refine TrE.meetX (()) hm ((EnvSub.cons rfl (EnvSub.cons rfl EnvSub.nil))) rfl
  · rintro _ hm
    change K1 () = some r at hm
    subst hK1
    refine TrC.seq ?_
    refine TrC.region rfl ?_
    refine L rfl rfl (PStep.assign rfl Lk.c) ?_
    refine TrL.nil ?_
    refine TrE.seq ?_
    refine TrC.lay (hRow false 89 .nil (([] : (List Release)) : (List Release))) rfl ?_
    obtain ⟨K2, hK2, hm⟩ := joinK hm
    refine TrC.meetM (X := (List Release) × OS) (fun ⟨l1, o1⟩ => K2 l1 = some r) (fun ⟨l1, o1⟩ => [(7, pOwn o1 (l1 : (List Release)))]) [] (fun ⟨l1, o1⟩ => fun A => (List.set A 0 (hRow false 89 o1 (l1 : (List Release))))) EnvSub.nil ?_ ?_
    · refine TrC.seq ?_
      refine TrC.region rfl ?_
      refine L rfl rfl (PStep.move rfl (Lk.t rfl)) ?_
      refine L rfl rfl (PStep.len (xs := a1) (tys := #[]) Tryz.runUnderlying37 rfl (Lk.t rfl)) ?_
      refine L rfl rfl (PStep.move rfl Lk.c) ?_
      refine TrL.nil ?_
      refine TrE.seq ?_
      refine TrC.block ?_
      refine TrC.know (Lk.t (t := 30) rfl) pSl.lt fun hl1 => ?_
      refine TrC.loopM (X := Nat × (List Release) × Nat × OS) (fun ⟨n, l2, i1, o2⟩ => m_index_table_selected_L4 a1 a0 K2 n l2 i1 = some r) (fun ⟨n, l2, i1, o2⟩ => [(32, pI ((i1 : Int))), (7, pOwn o2 (l2 : (List Release)))]) [(2, _), (30, _), (31, _)] (fun ⟨n, l2, i1, o2⟩ => fun A => (List.set A 0 (hRow false 89 o2 (l2 : (List Release))))) (fun ⟨n, l2, i1, o2⟩ => n) (((a1.length + 1 : Nat), ([] : (List Release)), 0, .nil)) hm ((EnvSub.cons rfl (EnvSub.consI rfl nilOwn (EnvSub.cons rfl (EnvSub.cons rfl (EnvSub.cons rfl EnvSub.nil)))))) rfl ?_
      rintro ⟨n, l2, i1, o2⟩ hm
      obtain ⟨n, rfl⟩ := succ_of (f := fun n => m_index_table_selected_L4 a1 a0 K2 n l2 i1) rfl hm
      change m_index_table_selected_L4 a1 a0 K2 (n + 1) l2 i1 = some r at hm
      rw [m_index_table_selected_L4] at hm
      refine TrC.seq ?_
      refine TrC.region rfl ?_
      refine L rfl rfl (PStep.lss rfl (Lk.t rfl) (Lk.t rfl)) ?_
      refine TrL.nil ?_
      refine TrE.seq ?_
      refine TrC.seq ?_
      refine TrC.condB (Lk.t rfl) (fun hc1 => ?_) (fun hc1 => ?_)
      · have hm := cond_t hm hc1
        have hs1 := hc1
        try simp only [decide_eq_true_eq, decide_eq_false_iff_not, Bool.and_eq_true, Bool.or_eq_true, Bool.not_eq_true', Bool.not_eq_false', Bool.and_eq_false_iff, Bool.or_eq_false_iff] at hs1
        refine TrC.skip ?_
        refine TrE.seq ?_
        refine TrC.seq ?_
        refine TrC.block ?_
        refine TrC.seq ?_
        refine TrC.region rfl ?_
        refine L rfl rfl (PStep.ixD (xs := a1) Tryz.runUnderlying37 Tryz.sizeOf59 rfl (Lk.t rfl) (Lk.t rfl) (by omega)) ?_
        refine L rfl rfl (PStep.ldRefV (α := Selected) (v := (ix a1 ((i1 : Int)))) Tryz.isAgg59 Tryz.sizeOf59 rfl (Lk.t rfl) rfl) ?_
        refine TrL.alloc (AStep.alloc Tryz.zeroValue59 rfl zc59 rfl rfl) rfl (fun b2 => ?_)
        refine LS rfl rfl (Step.storeW 0 Tryz.sizeOf59 rfl (Lk.t rfl) (Lk.t rfl) rfl rfl rfl) ?_
        refine TrL.nil ?_
        refine TrE.seq ?_
        refine TrC.seq ?_
        refine TrC.region rfl ?_
        refine L rfl rfl (PStep.faLoc fo141_0 rfl (Lk.t rfl)) ?_
        refine L rfl rfl (PStep.ldLoc 2 Tryz.isAgg138 rfl (Lk.t rfl) rfl rfl) ?_
        refine L rfl rfl (PStep.ldLocV (α := Selected) (v := ((ix a1 ((i1 : Int))))) 0 Tryz.isAgg59 Tryz.sizeOf59 rfl (Lk.t rfl) rfl rfl) ?_
        refine L rfl rfl (PStep.lookupOkS (kv := fun x : Selected => Value.agg (valsSelected x).toArray) (pv := fun v : Release => pT v) zRelease mpT138 key59 Tryz.zeroValue89 zp89 rfl (Lk.t rfl) (Lk.exact (Lk.t rfl) (cellsSelected _))) ?_
        refine L rfl rfl (PStep.move rfl (Lk.t rfl)) ?_
        refine L rfl rfl (PStep.extract rfl (Lk.t rfl) rfl) ?_
        refine L rfl rfl (PStep.extract rfl (Lk.t rfl) rfl) ?_
        refine TrL.alloc (AStep.alloc Tryz.zeroValue89 rfl zc89 rfl rfl) rfl (fun b3 => ?_)
        refine LS rfl rfl (Step.storeW 0 Tryz.sizeOf89 rfl (Lk.t rfl) (Lk.t rfl) rfl rfl rfl) ?_
        refine L rfl rfl (PStep.assign rfl (Lk.t rfl)) ?_
        refine TrL.nil ?_
        refine TrE.seq ?_
        refine TrC.seq ?_
        refine TrC.seq ?_
        refine TrC.region rfl ?_
        refine L rfl rfl (PStep.move rfl (Lk.t rfl)) ?_
        refine L rfl rfl (PStep.not rfl (Lk.t rfl)) ?_
        refine TrL.nil ?_
        refine TrE.seq ?_
        refine TrC.condB (Lk.t rfl) (fun hc2 => ?_) (fun hc2 => ?_)
        · have hm := cond_t hm hc2
          have hs2 := hc2
          try simp only [decide_eq_true_eq, decide_eq_false_iff_not, Bool.and_eq_true, Bool.or_eq_true, Bool.not_eq_true', Bool.not_eq_false', Bool.and_eq_false_iff, Bool.or_eq_false_iff] at hs2
          refine TrC.seq ?_
          refine TrC.region rfl ?_
          refine L rfl rfl (PStep.assign rfl Lk.c) ?_
          refine L rfl rfl (PStep.assign rfl Lk.c) ?_
          refine TrL.nil ?_
          refine TrE.seq ?_
          refine TrC.ret (TrE.thenR <| TrE.blockR <| TrE.thenR <| TrE.thenR <| TrE.blockR <| TrE.thenR <| ?_)
          cases hm
          exact TrE.retOK (RetOK.eq (show _ = _ from rfl) (RetOK.tmp2 rfl (Lk.nilSl (α := Release) (Lk.t (t := 4) rfl)) (Lk.t (t := 5) rfl) (List.nil_sublist _)))
        · have hm := cond_f hm hc2
          have hs2 := hc2
          try simp only [decide_eq_true_eq, decide_eq_false_iff_not, Bool.and_eq_true, Bool.or_eq_true, Bool.not_eq_true', Bool.not_eq_false', Bool.and_eq_false_iff, Bool.or_eq_false_iff] at hs2
          refine TrC.skip ?_
          refine TrE.seq ?_
          refine TrC.region rfl ?_
          refine L rfl rfl (PStep.move rfl (Lk.t rfl)) ?_
          refine L rfl rfl (PStep.ldLocV (α := Release) (v := (((getM a0.releases (((ix a1 ((i1 : Int)))))).getD zRelease))) 0 Tryz.isAgg89 Tryz.sizeOf89 rfl (Lk.t rfl) rfl rfl) ?_
          refine L rfl rfl (PStep.litX ([(((getM a0.releases (((ix a1 ((i1 : Int)))))).getD zRelease))] : (List Release)) slT22 rfl ⟨rfl, Lk.agg (Lk.t rfl), trivial⟩ rfl rfl) ?_
          obtain ⟨hk1, hm⟩ := chk_some hm
          refine TrL.append 2 apT22 rfl rfl rfl (Lk.t rfl) (Lk.slX (Lk.t rfl)) rfl (by have := hk1; omega) (fun r1 => ?_)
          refine L rfl rfl (PStep.assign rfl (Lk.t rfl)) ?_
          refine TrL.nil ?_
          refine TrE.blockN ?_
          refine TrE.seq ?_
          refine TrC.region rfl ?_
          refine L rfl rfl (PStep.add64 rfl (Lk.t rfl) Lk.c (by omega)) ?_
          refine L rfl rfl (PStep.move rfl (Lk.t rfl)) ?_
          refine TrL.nil ?_
          refine TrE.dropF 2 ?_
          refine TrE.again ((n, (l2 ++ ([(((getM a0.releases (((ix a1 ((i1 : Int)))))).getD zRelease))] : (List Release))), (i1 + 1), r1)) hm (Nat.lt_succ_self n) ((EnvSub.cons rfl (EnvSub.cons rfl (EnvSub.cons rfl (EnvSub.cons rfl (EnvSub.cons rfl EnvSub.nil)))))) rfl
      · have hm := cond_f hm hc1
        have hs1 := hc1
        try simp only [decide_eq_true_eq, decide_eq_false_iff_not, Bool.and_eq_true, Bool.or_eq_true, Bool.not_eq_true', Bool.not_eq_false', Bool.and_eq_false_iff, Bool.or_eq_false_iff] at hs1
        refine TrC.exit (TrE.thenX <| TrE.thenX <| TrE.blockHit <| ?_)
        refine TrE.meetX ((l2, o2)) hm ((EnvSub.cons rfl EnvSub.nil)) rfl
    · rintro ⟨l1, o1⟩ hm
      change K2 l1 = some r at hm
      subst hK2
      refine TrC.seq ?_
      refine TrC.region rfl ?_
      refine L rfl rfl (PStep.move rfl (Lk.t rfl)) ?_
      refine L rfl rfl (PStep.assign rfl (Lk.t rfl)) ?_
      refine L rfl rfl (PStep.assign rfl Lk.c) ?_
      refine TrL.nil ?_
      refine TrE.seq ?_
      refine TrC.ret (?_)
      refine TrE.share 0 4 rfl rfl ?_
      cases hm
      exact TrE.retOK (RetOK.eq (show _ = _ from rfl) (RetOK.tmp2 rfl (Lk.shSl (Lk.t (t := 4) rfl)) (Lk.t (t := 5) rfl) (List.nil_sublist _)))
def m_index_Solves_1 (a0 : Requirement) (f0 : (List (ByteArray × Release))) : Option (Bool) :=
  bnd (gd ((!(getM f0 a0.path).isSome) = false) (m_index_place ((((getM f0 a0.path).getD zRelease))))) fun x1 => some (((!(getM f0 a0.path).isSome) || (!(has a0.set_ x1))))
theorem s_index_Solves_1 (a0 : Requirement) (f0 : (List (ByteArray × Release))) (r : Bool) (hm : m_index_Solves_1 a0 f0 = some r) : Fn Tryz.prog 86 [pT (a0 : Requirement), pRef [pMS (fun x : ByteArray => Value.string x) (fun v : Release => pT v) (f0)]] (pB (r)) := by
  unfold m_index_Solves_1 at hm
  refine Spec.mk Tryz.func86 rfl rfl fun B => ?_
  refine TrC.seq ?_
  refine TrC.region rfl ?_
  refine TrL.alloc (AStep.boxK rfl rfl (Lk.t rfl)) rfl (fun b1 => ?_)
  refine L rfl rfl (PStep.assign rfl Lk.c) ?_
  refine TrL.nil ?_
  refine TrE.seq ?_
  refine TrC.seq ?_
  refine TrC.region rfl ?_
  refine L rfl rfl (PStep.ldRef Tryz.isAgg146 rfl (Lk.t rfl) rfl) ?_
  refine L rfl rfl (PStep.faLoc fo120_0 rfl (Lk.t rfl)) ?_
  refine L rfl rfl (PStep.ldLoc 0 Tryz.isAgg9 rfl (Lk.t rfl) rfl rfl) ?_
  refine L rfl rfl (PStep.lookupOkS (kv := fun x : ByteArray => Value.string x) (pv := fun v : Release => pT v) zRelease mpT146 key9 Tryz.zeroValue89 zp89 rfl (Lk.t rfl) (Lk.t rfl)) ?_
  refine L rfl rfl (PStep.move rfl (Lk.t rfl)) ?_
  refine L rfl rfl (PStep.extract rfl (Lk.t rfl) rfl) ?_
  refine L rfl rfl (PStep.extract rfl (Lk.t rfl) rfl) ?_
  refine TrL.alloc (AStep.alloc Tryz.zeroValue89 rfl zc89 rfl rfl) rfl (fun b2 => ?_)
  refine LS rfl rfl (Step.storeW 0 Tryz.sizeOf89 rfl (Lk.t rfl) (Lk.t rfl) rfl rfl rfl) ?_
  refine L rfl rfl (PStep.assign rfl (Lk.t rfl)) ?_
  refine TrL.nil ?_
  refine TrE.seq ?_
  refine TrC.seq ?_
  refine TrC.flow 11 mixed rfl (by kernel_rfl) (by kernel_rfl) ?_
  refine F rfl rfl (PStep.move rfl (Lk.t rfl)) ?_
  refine F rfl rfl (PStep.not rfl (Lk.t rfl)) ?_
  refine F rfl rfl (PStep.move rfl (Lk.t rfl)) ?_
  refine FW rfl (WStep.guard rfl rfl rfl rfl (fun hg => PStep.faLoc fo120_1 rfl (Lk.t rfl))) ?_
  refine FW rfl (WStep.guard rfl rfl rfl rfl (fun hg => PStep.ldLoc 1 Tryz.isAgg105 rfl (Lk.g rfl hg) rfl rfl)) ?_
  refine FW rfl (WStep.guard rfl rfl rfl rfl (fun hg => PStep.ldLocV (α := Release) (v := (((getM f0 a0.path).getD zRelease))) 0 Tryz.isAgg89 Tryz.sizeOf89 rfl (Lk.t rfl) rfl rfl)) ?_
  obtain ⟨x1, hx1, hm⟩ := bnd_some hm
  refine FW rfl (WStep.guard rfl rfl rfl rfl (fun hg => PStep.call ((s_index_place ((((getM f0 a0.path).getD zRelease))) x1 (gd_some hx1 hg))) Tryz.call88 rfl (LkAll.cons (Lk.g rfl hg) LkAll.nil))) ?_
  refine FW rfl (WStep.guard rfl rfl rfl rfl (fun hg => PStep.call (s_Has a0.set_ x1 ) Tryz.call87 rfl (LkAll.cons (Lk.g rfl hg) (LkAll.cons (Lk.g rfl hg) LkAll.nil)))) ?_
  refine FW rfl (WStep.guard rfl rfl rfl rfl (fun hg => PStep.not rfl (Lk.g rfl hg))) ?_
  refine F rfl rfl (PStep.pickOr rfl (Lk.t rfl) (fun hq => Lk.g rfl hq)) ?_
  refine F rfl rfl (PStep.assign rfl (Lk.t rfl)) ?_
  refine FlowH.nil ?_
  refine ⟨rfl, ?_⟩
  refine AllocK.none rfl ?_
  refine TrL.nil ?_
  refine TrE.seq ?_
  refine TrC.ret (?_)
  cases hm
  exact TrE.retOK (RetOK.eq (show _ = _ from rfl) (RetOK.tmp rfl (Lk.t (t := 3) rfl) (List.nil_sublist _)))
def m_slices_IndexFunc_Requirement_Requirement_L2 (a0 : (List Requirement)) (a1 : Requirement → Option (Bool)) (K1 : Unit → Option (Int)) : Nat → Nat → Option (Int)
  | 0, _ => none
  | n + 1, i1 =>
    (bif (decide ((i1 : Int) < (a0.length : Int))) then bnd (a1 ((ix a0 ((i1 : Int))))) fun x1 => (bif x1 then some ((i1 : Int))
  else m_slices_IndexFunc_Requirement_Requirement_L2 a0 a1 K1 n ((i1 + 1)))
  else K1 ())
def m_slices_IndexFunc_Requirement_Requirement (a0 : (List Requirement)) (a1 : Requirement → Option (Bool)) : Option (Int) :=
  joinM (fun (_ : Unit) =>
    some ((-1 : Int))) fun K1 =>
    m_slices_IndexFunc_Requirement_Requirement_L2 a0 a1 K1 (a0.length + 1) 0
theorem s_slices_IndexFunc_Requirement_Requirement (a0 : (List Requirement)) (a1 : Requirement → Option (Bool)) (r : Int) (hm : m_slices_IndexFunc_Requirement_Requirement a0 a1 = some r) : Fn Tryz.prog 128 [pSl (a0 : (List Requirement)), pF1 Tryz.prog (a1) (fun a => pT (a : Requirement)) (fun r => pB (r))] (pI (r)) := by
  unfold m_slices_IndexFunc_Requirement_Requirement at hm
  refine Spec.mk Tryz.func128 rfl rfl fun B => ?_
  refine TrC.seq ?_
  refine TrC.region rfl ?_
  refine L rfl rfl (PStep.assign rfl Lk.c) ?_
  refine TrL.nil ?_
  refine TrE.seq ?_
  obtain ⟨K1, hK1, hm⟩ := joinK hm
  refine TrC.meetM (X := Unit) (fun _ => K1 () = some r) (fun _ => []) [] (fun _ => fun A => A) EnvSub.nil ?_ ?_
  · refine TrC.seq ?_
    refine TrC.region rfl ?_
    refine L rfl rfl (PStep.move rfl (Lk.t rfl)) ?_
    refine L rfl rfl (PStep.len (xs := a0) (tys := #[]) Tryz.runUnderlying26 rfl (Lk.t rfl)) ?_
    refine L rfl rfl (PStep.move rfl Lk.c) ?_
    refine TrL.nil ?_
    refine TrE.seq ?_
    refine TrC.block ?_
    refine TrC.know (Lk.t (t := 0) rfl) pSl.lt fun hl1 => ?_
    refine TrC.loopM (X := Nat × Nat) (fun ⟨n, i1⟩ => m_slices_IndexFunc_Requirement_Requirement_L2 a0 a1 K1 n i1 = some r) (fun ⟨n, i1⟩ => [(8, pI ((i1 : Int)))]) [(0, _), (1, _), (7, _)] (fun ⟨n, i1⟩ => fun A => A) (fun ⟨n, i1⟩ => n) (((a0.length + 1 : Nat), 0)) hm ((EnvSub.cons rfl (EnvSub.cons rfl (EnvSub.cons rfl (EnvSub.cons rfl EnvSub.nil))))) rfl ?_
    rintro ⟨n, i1⟩ hm
    obtain ⟨n, rfl⟩ := succ_of (f := fun n => m_slices_IndexFunc_Requirement_Requirement_L2 a0 a1 K1 n i1) rfl hm
    change m_slices_IndexFunc_Requirement_Requirement_L2 a0 a1 K1 (n + 1) i1 = some r at hm
    rw [m_slices_IndexFunc_Requirement_Requirement_L2] at hm
    refine TrC.seq ?_
    refine TrC.region rfl ?_
    refine L rfl rfl (PStep.lss rfl (Lk.t rfl) (Lk.t rfl)) ?_
    refine TrL.nil ?_
    refine TrE.seq ?_
    refine TrC.seq ?_
    refine TrC.condB (Lk.t rfl) (fun hc1 => ?_) (fun hc1 => ?_)
    · have hm := cond_t hm hc1
      have hs1 := hc1
      try simp only [decide_eq_true_eq, decide_eq_false_iff_not, Bool.and_eq_true, Bool.or_eq_true, Bool.not_eq_true', Bool.not_eq_false', Bool.and_eq_false_iff, Bool.or_eq_false_iff] at hs1
      refine TrC.skip ?_
      refine TrE.seq ?_
      refine TrC.seq ?_
      refine TrC.block ?_
      refine TrC.seq ?_
      refine TrC.region rfl ?_
      refine L rfl rfl (PStep.move rfl (Lk.t rfl)) ?_
      refine L rfl rfl (PStep.assign rfl (Lk.t rfl)) ?_
      refine TrL.nil ?_
      refine TrE.seq ?_
      refine TrC.seq ?_
      refine TrC.region rfl ?_
      refine L rfl rfl (PStep.move rfl (Lk.t rfl)) ?_
      refine L rfl rfl (PStep.move rfl (Lk.t rfl)) ?_
      refine L rfl rfl (PStep.move rfl (Lk.t rfl)) ?_
      refine L rfl rfl (PStep.ixD (xs := a0) Tryz.runUnderlying26 Tryz.sizeOf120 rfl (Lk.t rfl) (Lk.t rfl) (by omega)) ?_
      refine L rfl rfl (PStep.ldRefV (α := Requirement) (v := (ix a0 ((i1 : Int)))) Tryz.isAgg120 Tryz.sizeOf120 rfl (Lk.t rfl) rfl) ?_
      obtain ⟨x1, hx1, hm⟩ := bnd_some hm
      refine L rfl rfl (PStep.callV ⟨((ix a0 ((i1 : Int))), x1), hx1⟩ rfl (Lk.t rfl) (LkAll.cons (Lk.t rfl) LkAll.nil)) ?_
      refine TrL.nil ?_
      refine TrE.seq ?_
      refine TrC.condB (Lk.t rfl) (fun hc2 => ?_) (fun hc2 => ?_)
      · have hm := cond_t hm hc2
        have hs2 := hc2
        try simp only [decide_eq_true_eq, decide_eq_false_iff_not, Bool.and_eq_true, Bool.or_eq_true, Bool.not_eq_true', Bool.not_eq_false', Bool.and_eq_false_iff, Bool.or_eq_false_iff] at hs2
        refine TrC.seq ?_
        refine TrC.region rfl ?_
        refine L rfl rfl (PStep.move rfl (Lk.t rfl)) ?_
        refine L rfl rfl (PStep.assign rfl (Lk.t rfl)) ?_
        refine TrL.nil ?_
        refine TrE.seq ?_
        refine TrC.ret (TrE.blockR <| TrE.thenR <| TrE.thenR <| TrE.blockR <| TrE.thenR <| ?_)
        cases hm
        exact TrE.retOK (RetOK.eq (show _ = _ from rfl) (RetOK.tmp rfl (Lk.t (t := 4) rfl) (List.nil_sublist _)))
      · have hm := cond_f hm hc2
        have hs2 := hc2
        try simp only [decide_eq_true_eq, decide_eq_false_iff_not, Bool.and_eq_true, Bool.or_eq_true, Bool.not_eq_true', Bool.not_eq_false', Bool.and_eq_false_iff, Bool.or_eq_false_iff] at hs2
        refine TrC.skip ?_
        refine TrE.blockN ?_
        refine TrE.seq ?_
        refine TrC.region rfl ?_
        refine L rfl rfl (PStep.add64 rfl (Lk.t rfl) Lk.c (by omega)) ?_
        refine L rfl rfl (PStep.move rfl (Lk.t rfl)) ?_
        refine TrL.nil ?_
        refine TrE.again ((n, (i1 + 1))) hm (Nat.lt_succ_self n) ((EnvSub.cons rfl (EnvSub.cons rfl (EnvSub.cons rfl (EnvSub.cons rfl EnvSub.nil))))) rfl
    · have hm := cond_f hm hc1
      have hs1 := hc1
      try simp only [decide_eq_true_eq, decide_eq_false_iff_not, Bool.and_eq_true, Bool.or_eq_true, Bool.not_eq_true', Bool.not_eq_false', Bool.and_eq_false_iff, Bool.or_eq_false_iff] at hs1
      refine TrC.exit (TrE.thenX <| TrE.thenX <| TrE.blockHit <| ?_)
      refine TrE.meetX (()) hm (EnvSub.nil) rfl
  · rintro _ hm
    change K1 () = some r at hm
    subst hK1
    refine TrC.seq ?_
    refine TrC.region rfl ?_
    refine L rfl rfl (PStep.assign rfl Lk.c) ?_
    refine TrL.nil ?_
    refine TrE.seq ?_
    refine TrC.ret (?_)
    cases hm
    exact TrE.retOK (RetOK.eq (show _ = _ from rfl) (RetOK.tmp rfl (Lk.t (t := 4) rfl) (List.nil_sublist _)))
def m_slices_ContainsFunc_Requirement_Requirement (a0 : (List Requirement)) (a1 : Requirement → Option (Bool)) : Option (Bool) :=
  bnd (m_slices_IndexFunc_Requirement_Requirement a0 a1) fun x1 => some ((decide ((0 : Int) ≤ x1)))
theorem s_slices_ContainsFunc_Requirement_Requirement (a0 : (List Requirement)) (a1 : Requirement → Option (Bool)) (r : Bool) (hm : m_slices_ContainsFunc_Requirement_Requirement a0 a1 = some r) : Fn Tryz.prog 89 [pSl (a0 : (List Requirement)), pF1 Tryz.prog (a1) (fun a => pT (a : Requirement)) (fun r => pB (r))] (pB (r)) := by
  unfold m_slices_ContainsFunc_Requirement_Requirement at hm
  refine Spec.mk Tryz.func89 rfl rfl fun B => ?_
  refine TrC.seq ?_
  refine TrC.region rfl ?_
  refine L rfl rfl (PStep.assign rfl Lk.c) ?_
  refine TrL.nil ?_
  refine TrE.seq ?_
  refine TrC.seq ?_
  refine TrC.region rfl ?_
  refine L rfl rfl (PStep.move rfl (Lk.t rfl)) ?_
  refine L rfl rfl (PStep.move rfl (Lk.t rfl)) ?_
  obtain ⟨x1, hx1, hm⟩ := bnd_some hm
  refine L rfl rfl (PStep.call ((s_slices_IndexFunc_Requirement_Requirement a0 a1 x1 hx1)) Tryz.call128 rfl (LkAll.cons (Lk.t rfl) (LkAll.cons (Lk.t rfl) LkAll.nil))) ?_
  refine L rfl rfl (PStep.geq rfl (Lk.t rfl) Lk.c) ?_
  refine L rfl rfl (PStep.assign rfl (Lk.t rfl)) ?_
  refine TrL.nil ?_
  refine TrE.seq ?_
  refine TrC.ret (?_)
  cases hm
  exact TrE.retOK (RetOK.eq (show _ = _ from rfl) (RetOK.tmp rfl (Lk.t (t := 4) rfl) (List.nil_sublist _)))
def m_index_Solves_L4 (mm1 : List (ByteArray × Release)) (K3 : List (ByteArray × Bool) → Option (Int)) : Nat → List (ByteArray × Bool) → (List Requirement) → Option (Int)
  | 0, _, _ => none
  | n + 1, mm3, v1 =>
    (bif (decide ((0 : Int) < (v1.length : Int))) then chk (0 ≤ (1 : Int) ∧ (1 : Int) ≤ (v1.length : Int)) <| (bif (!((getM mm3 (((ix v1 ((0 : Int)))).path)).getD false)) then chk (((v1.drop ((1 : Int)).toNat)).length + ((((getM mm1 (((ix v1 ((0 : Int)))).path)).getD zRelease)).requirements).length ≤ 4294967296) <| m_index_Solves_L4 mm1 K3 n ((putM (((ix v1 ((0 : Int)))).path) true mm3)) (((v1.drop ((1 : Int)).toNat) ++ (((getM mm1 (((ix v1 ((0 : Int)))).path)).getD zRelease)).requirements))
  else m_index_Solves_L4 mm1 K3 n mm3 ((v1.drop ((1 : Int)).toNat)))
  else K3 mm3)
def m_index_Solves_L5 (x2 : (List Release) × Int) (mm1 : List (ByteArray × Release)) (K2 : Unit → Option (Int)) : Nat → Nat → Option (Int)
  | 0, _ => none
  | n + 1, i1 =>
    (bif (decide ((i1 : Int) < (x2.1.length : Int))) then bnd (m_slices_ContainsFunc_Requirement_Requirement (((ix x2.1 ((i1 : Int)))).requirements) ((fun z0 => m_index_Solves_1 z0 mm1))) fun x5 => (bif x5 then some ((17 : Int))
  else m_index_Solves_L5 x2 mm1 K2 n ((i1 + 1)))
  else K2 ())
def m_index_Solves_L6 (x2 : (List Release) × Int) (K1 : List (ByteArray × Release) → Option (Int)) : Nat → List (ByteArray × Release) → Nat → Option (Int)
  | 0, _, _ => none
  | n + 1, mm4, i2 =>
    (bif (decide ((i2 : Int) < (x2.1.length : Int))) then m_index_Solves_L6 x2 K1 n ((putM (((ix x2.1 ((i2 : Int)))).path) (((ix x2.1 ((i2 : Int))))) mm4)) ((i2 + 1))
  else K1 mm4)
def m_index_Solves (a0 : Index) (a1 : (List Requirement)) (a2 : (List Selected)) : Option (Int) :=
  bnd (m_index_newTable a0) fun x1 => (bif (decide (x1.2 ≠ (0 : Int))) then some ((1 : Int))
  else bnd (m_index_table_selected x1.1 a2) fun x2 => (bif (decide (x2.2 ≠ (0 : Int))) then some x2.2
  else joinM (fun (mm1 : List (ByteArray × Release)) =>
    joinM (fun (_ : Unit) =>
    bnd (m_slices_ContainsFunc_Requirement_Requirement a1 ((fun z0 => m_index_Solves_1 z0 mm1))) fun x3 => (bif x3 then some ((17 : Int))
  else bnd (m_slices_Clone_Requirement_Requirement a1) fun x4 => joinM (fun (mm2 : List (ByteArray × Bool)) =>
    (bif (decide ((mm2.length : Int) < (x2.1.length : Int))) then some ((8 : Int))
  else some ((0 : Int)))) fun K3 =>
    m_index_Solves_L4 mm1 K3 (100000) (([] : List (ByteArray × Bool))) x4)) fun K2 =>
    m_index_Solves_L5 x2 mm1 K2 (x2.1.length + 1) 0) fun K1 =>
    m_index_Solves_L6 x2 K1 (x2.1.length + 1) (([] : List (ByteArray × Release))) 0))
theorem s_index_Solves (a0 : Index) (a1 : (List Requirement)) (a2 : (List Selected)) (r : Int) (hm : m_index_Solves a0 a1 a2 = some r) : Fn Tryz.prog 45 [pT (a0 : Index), pSl (a1 : (List Requirement)), pSl (a2 : (List Selected))] (pI (r)) := by
  unfold m_index_Solves at hm
  refine Spec.mk Tryz.func45 rfl rfl fun B => ?_
  refine TrC.seq ?_
  refine TrC.region rfl ?_
  refine TrL.alloc (AStep.boxK rfl rfl (Lk.t rfl)) rfl (fun b1 => ?_)
  refine L rfl rfl (PStep.assign rfl Lk.c) ?_
  refine TrL.nil ?_
  refine TrE.seq ?_
  refine TrC.seq ?_
  refine TrC.region rfl ?_
  refine L rfl rfl (PStep.ldLocV (α := Index) (v := a0) 0 Tryz.isAgg25 Tryz.sizeOf25 rfl (Lk.t rfl) rfl rfl) ?_
  obtain ⟨x1, hx1, hm⟩ := bnd_some hm
  refine L rfl rfl (PStep.call ((s_index_newTable a0 x1 hx1)) Tryz.call84 rfl (LkAll.cons (Lk.t rfl) LkAll.nil)) ?_
  refine L rfl rfl (PStep.move rfl (Lk.t rfl)) ?_
  refine L rfl rfl (PStep.extract rfl (Lk.t rfl) rfl) ?_
  refine L rfl rfl (PStep.extract rfl (Lk.t rfl) rfl) ?_
  refine TrL.alloc (AStep.alloc Tryz.zeroValue141 rfl zc141 rfl rfl) rfl (fun b2 => ?_)
  refine LS rfl rfl (Step.storeW 0 Tryz.sizeOf141 rfl (Lk.t rfl) (Lk.t rfl) rfl rfl rfl) ?_
  refine L rfl rfl (PStep.assign rfl (Lk.t rfl)) ?_
  refine TrL.nil ?_
  refine TrE.seq ?_
  refine TrC.seq ?_
  refine TrC.seq ?_
  refine TrC.region rfl ?_
  refine L rfl rfl (PStep.move rfl (Lk.t rfl)) ?_
  refine L rfl rfl (PStep.neq rfl (Lk.t rfl) Lk.c) ?_
  refine TrL.nil ?_
  refine TrE.seq ?_
  refine TrC.condB (Lk.t rfl) (fun hc1 => ?_) (fun hc1 => ?_)
  · have hm := cond_t hm hc1
    have hs1 := hc1
    try simp only [decide_eq_true_eq, decide_eq_false_iff_not, Bool.and_eq_true, Bool.or_eq_true, Bool.not_eq_true', Bool.not_eq_false', Bool.and_eq_false_iff, Bool.or_eq_false_iff] at hs1
    refine TrC.seq ?_
    refine TrC.region rfl ?_
    refine L rfl rfl (PStep.assign rfl Lk.c) ?_
    refine TrL.nil ?_
    refine TrE.seq ?_
    refine TrC.ret (TrE.thenR <| ?_)
    cases hm
    exact TrE.retOK (RetOK.eq (show _ = _ from rfl) (RetOK.tmp rfl (Lk.t (t := 6) rfl) (List.nil_sublist _)))
  · have hm := cond_f hm hc1
    have hs1 := hc1
    try simp only [decide_eq_true_eq, decide_eq_false_iff_not, Bool.and_eq_true, Bool.or_eq_true, Bool.not_eq_true', Bool.not_eq_false', Bool.and_eq_false_iff, Bool.or_eq_false_iff] at hs1
    refine TrC.skip ?_
    refine TrE.seq ?_
    refine TrC.seq ?_
    refine TrC.region rfl ?_
    refine L rfl rfl (PStep.ldLocV (α := Table) (v := x1.1) 0 Tryz.isAgg141 Tryz.sizeOf141 rfl (Lk.t rfl) rfl rfl) ?_
    refine L rfl rfl (PStep.move rfl (Lk.t rfl)) ?_
    obtain ⟨x2, hx2, hm⟩ := bnd_some hm
    refine L rfl rfl (PStep.call ((s_index_table_selected x1.1 a2 x2 hx2)) Tryz.call85 rfl (LkAll.cons (Lk.t rfl) (LkAll.cons (Lk.t rfl) LkAll.nil))) ?_
    refine L rfl rfl (PStep.move rfl (Lk.t rfl)) ?_
    refine L rfl rfl (PStep.extract rfl (Lk.t rfl) rfl) ?_
    refine L rfl rfl (PStep.extract rfl (Lk.t rfl) rfl) ?_
    refine L rfl rfl (PStep.assign rfl (Lk.t rfl)) ?_
    refine L rfl rfl (PStep.assign rfl (Lk.t rfl)) ?_
    refine TrL.nil ?_
    refine TrE.seq ?_
    refine TrC.seq ?_
    refine TrC.seq ?_
    refine TrC.region rfl ?_
    refine L rfl rfl (PStep.move rfl (Lk.t rfl)) ?_
    refine L rfl rfl (PStep.neq rfl (Lk.t rfl) Lk.c) ?_
    refine TrL.nil ?_
    refine TrE.seq ?_
    refine TrC.condB (Lk.t rfl) (fun hc2 => ?_) (fun hc2 => ?_)
    · have hm := cond_t hm hc2
      have hs2 := hc2
      try simp only [decide_eq_true_eq, decide_eq_false_iff_not, Bool.and_eq_true, Bool.or_eq_true, Bool.not_eq_true', Bool.not_eq_false', Bool.and_eq_false_iff, Bool.or_eq_false_iff] at hs2
      refine TrC.seq ?_
      refine TrC.region rfl ?_
      refine L rfl rfl (PStep.move rfl (Lk.t rfl)) ?_
      refine L rfl rfl (PStep.assign rfl (Lk.t rfl)) ?_
      refine TrL.nil ?_
      refine TrE.seq ?_
      refine TrC.ret (TrE.thenR <| ?_)
      cases hm
      exact TrE.retOK (RetOK.eq (show _ = _ from rfl) (RetOK.tmp rfl (Lk.t (t := 6) rfl) (List.nil_sublist _)))
    · have hm := cond_f hm hc2
      have hs2 := hc2
      try simp only [decide_eq_true_eq, decide_eq_false_iff_not, Bool.and_eq_true, Bool.or_eq_true, Bool.not_eq_true', Bool.not_eq_false', Bool.and_eq_false_iff, Bool.or_eq_false_iff] at hs2
      refine TrC.skip ?_
      refine TrE.seq ?_
      refine TrC.seq ?_
      refine TrC.region rfl ?_
      refine TrL.allocG (AStep.makeMap (fun x : ByteArray => Value.string x) (fun v : Release => pT v) rfl rfl) rfl (fun r1 => ?_)
      refine TrL.alloc (AStep.alloc Tryz.zeroValue146 rfl zc146 rfl rfl) rfl (fun b3 => ?_)
      refine LS rfl rfl (Step.store1 0 Tryz.sizeOf146 rfl (Lk.t rfl) (Lk.t rfl) rfl rfl rfl) ?_
      refine TrL.nil ?_
      refine TrE.seq ?_
      obtain ⟨K1, hK1, hm⟩ := joinK hm
      refine TrC.meetM (X := (List (ByteArray × Release))) (fun mm1 => K1 mm1 = some r) (fun mm1 => []) [(1, _), (9, _), (10, _)] (fun mm1 => fun A => (List.set A 1 (hMap (fun x : ByteArray => Value.string x) (fun v : Release => pT v) r1.b mm1))) (EnvSub.cons rfl (EnvSub.cons rfl (EnvSub.cons rfl EnvSub.nil))) ?_ ?_
      · refine TrC.seq ?_
        refine TrC.region rfl ?_
        refine L rfl rfl (PStep.move rfl (Lk.t rfl)) ?_
        refine L rfl rfl (PStep.len (xs := x2.1) (tys := #[]) Tryz.runUnderlying22 rfl (Lk.t rfl)) ?_
        refine L rfl rfl (PStep.move rfl Lk.c) ?_
        refine TrL.nil ?_
        refine TrE.seq ?_
        refine TrC.block ?_
        refine TrC.know (Lk.t (t := 1) rfl) pSl.lt fun hl4 => ?_
        refine TrC.know (Lk.t (t := 9) rfl) pSl.lt fun hl5 => ?_
        refine TrC.loopM (X := Nat × (List (ByteArray × Release)) × Nat) (fun ⟨n, mm4, i2⟩ => m_index_Solves_L6 x2 K1 n mm4 i2 = some r) (fun ⟨n, mm4, i2⟩ => [(38, pI ((i2 : Int)))]) [(1, _), (9, _), (10, _), (36, _), (37, _)] (fun ⟨n, mm4, i2⟩ => fun A => (List.set A 1 (hMap (fun x : ByteArray => Value.string x) (fun v : Release => pT v) r1.b mm4))) (fun ⟨n, mm4, i2⟩ => n) (((x2.1.length + 1 : Nat), ([] : List (ByteArray × Release)), 0)) hm ((EnvSub.cons rfl (EnvSub.cons rfl (EnvSub.cons rfl (EnvSub.cons rfl (EnvSub.cons rfl (EnvSub.cons rfl EnvSub.nil))))))) rfl ?_
        rintro ⟨n, mm4, i2⟩ hm
        obtain ⟨n, rfl⟩ := succ_of (f := fun n => m_index_Solves_L6 x2 K1 n mm4 i2) rfl hm
        change m_index_Solves_L6 x2 K1 (n + 1) mm4 i2 = some r at hm
        rw [m_index_Solves_L6] at hm
        refine TrC.seq ?_
        refine TrC.region rfl ?_
        refine L rfl rfl (PStep.lss rfl (Lk.t rfl) (Lk.t rfl)) ?_
        refine TrL.nil ?_
        refine TrE.seq ?_
        refine TrC.seq ?_
        refine TrC.condB (Lk.t rfl) (fun hc9 => ?_) (fun hc9 => ?_)
        · have hm := cond_t hm hc9
          have hs9 := hc9
          try simp only [decide_eq_true_eq, decide_eq_false_iff_not, Bool.and_eq_true, Bool.or_eq_true, Bool.not_eq_true', Bool.not_eq_false', Bool.and_eq_false_iff, Bool.or_eq_false_iff] at hs9
          refine TrC.skip ?_
          refine TrE.seq ?_
          refine TrC.seq ?_
          refine TrC.block ?_
          refine TrC.seq ?_
          refine TrC.region rfl ?_
          refine L rfl rfl (PStep.ixD (xs := x2.1) Tryz.runUnderlying22 Tryz.sizeOf89 rfl (Lk.t rfl) (Lk.t rfl) (by omega)) ?_
          refine L rfl rfl (PStep.ldRefV (α := Release) (v := (ix x2.1 ((i2 : Int)))) Tryz.isAgg89 Tryz.sizeOf89 rfl (Lk.t rfl) rfl) ?_
          refine TrL.alloc (AStep.alloc Tryz.zeroValue89 rfl zc89 rfl rfl) rfl (fun b6 => ?_)
          refine LS rfl rfl (Step.storeW 0 Tryz.sizeOf89 rfl (Lk.t rfl) (Lk.t rfl) rfl rfl rfl) ?_
          refine TrL.nil ?_
          refine TrE.seq ?_
          refine TrC.region rfl ?_
          refine L rfl rfl (PStep.ldLoc 1 Tryz.isAgg146 rfl (Lk.t rfl) rfl rfl) ?_
          refine L rfl rfl (PStep.faLoc fo89_0 rfl (Lk.t rfl)) ?_
          refine L rfl rfl (PStep.ldLoc 0 Tryz.isAgg9 rfl (Lk.t rfl) rfl rfl) ?_
          refine L rfl rfl (PStep.ldLocV (α := Release) (v := ((ix x2.1 ((i2 : Int))))) 0 Tryz.isAgg89 Tryz.sizeOf89 rfl (Lk.t rfl) rfl rfl) ?_
          refine LS rfl rfl (Step.mapUpdate 2 (kv := fun x : ByteArray => Value.string x) (pv := fun v : Release => pT v) mpT146 key9 (.inl rfl) (Lk.t rfl) (Lk.t rfl) (Lk.t rfl) rfl) ?_
          refine TrL.nil ?_
          refine TrE.blockN ?_
          refine TrE.seq ?_
          refine TrC.region rfl ?_
          refine L rfl rfl (PStep.add64 rfl (Lk.t rfl) Lk.c (by omega)) ?_
          refine L rfl rfl (PStep.move rfl (Lk.t rfl)) ?_
          refine TrL.nil ?_
          refine TrE.dropF 1 ?_
          refine TrE.again ((n, (putM (((ix x2.1 ((i2 : Int)))).path) (((ix x2.1 ((i2 : Int))))) mm4), (i2 + 1))) hm (Nat.lt_succ_self n) ((EnvSub.cons rfl (EnvSub.cons rfl (EnvSub.cons rfl (EnvSub.cons rfl (EnvSub.cons rfl (EnvSub.cons rfl EnvSub.nil))))))) rfl
        · have hm := cond_f hm hc9
          have hs9 := hc9
          try simp only [decide_eq_true_eq, decide_eq_false_iff_not, Bool.and_eq_true, Bool.or_eq_true, Bool.not_eq_true', Bool.not_eq_false', Bool.and_eq_false_iff, Bool.or_eq_false_iff] at hs9
          refine TrC.exit (TrE.thenX <| TrE.thenX <| TrE.blockHit <| ?_)
          refine TrE.meetX (mm4) hm ((EnvSub.cons rfl (EnvSub.cons rfl (EnvSub.cons rfl EnvSub.nil)))) rfl
      · rintro mm1 hm
        change K1 mm1 = some r at hm
        subst hK1
        refine TrC.seq ?_
        refine TrC.settleMC 1 0 0 rfl rfl rfl ?_
        refine TrC.settleC 0 10 rfl rfl ?_
        refine TrC.region rfl ?_
        refine L rfl rfl (PStep.mkFun (ps := fun x : {x : Requirement × Bool // (fun z0 => m_index_Solves_1 z0 mm1) x.1 = some x.2} => [pT (x.1.1 : Requirement)]) (p := fun x => pB (x.1.2)) (fun x => s_index_Solves_1 x.1.1 mm1 x.1.2 x.2) Tryz.call86 rfl (LkAll.cons (Lk.t rfl) LkAll.nil)) ?_
        refine L rfl rfl (PStep.assign rfl (Lk.t rfl)) ?_
        refine TrL.nil ?_
        refine TrE.seq ?_
        obtain ⟨K2, hK2, hm⟩ := joinK hm
        refine TrC.meetM (X := Unit) (fun _ => K2 () = some r) (fun _ => []) [(1, _), (9, _), (10, _), (13, _)] (fun _ => fun A => A) (EnvSub.cons rfl (EnvSub.cons rfl (EnvSub.cons rfl (EnvSub.cons rfl EnvSub.nil)))) ?_ ?_
        · refine TrC.seq ?_
          refine TrC.region rfl ?_
          refine L rfl rfl (PStep.move rfl (Lk.t rfl)) ?_
          refine L rfl rfl (PStep.len (xs := x2.1) (tys := #[]) Tryz.runUnderlying22 rfl (Lk.t rfl)) ?_
          refine L rfl rfl (PStep.move rfl Lk.c) ?_
          refine TrL.nil ?_
          refine TrE.seq ?_
          refine TrC.block ?_
          refine TrC.know (Lk.t (t := 1) rfl) pSl.lt fun hl2 => ?_
          refine TrC.know (Lk.t (t := 9) rfl) pSl.lt fun hl3 => ?_
          refine TrC.loopM (X := Nat × Nat) (fun ⟨n, i1⟩ => m_index_Solves_L5 x2 mm1 K2 n i1 = some r) (fun ⟨n, i1⟩ => [(50, pI ((i1 : Int)))]) [(1, _), (9, _), (10, _), (13, _), (48, _), (49, _)] (fun ⟨n, i1⟩ => fun A => A) (fun ⟨n, i1⟩ => n) (((x2.1.length + 1 : Nat), 0)) hm ((EnvSub.cons rfl (EnvSub.cons rfl (EnvSub.cons rfl (EnvSub.cons rfl (EnvSub.cons rfl (EnvSub.cons rfl (EnvSub.cons rfl EnvSub.nil)))))))) rfl ?_
          rintro ⟨n, i1⟩ hm
          obtain ⟨n, rfl⟩ := succ_of (f := fun n => m_index_Solves_L5 x2 mm1 K2 n i1) rfl hm
          change m_index_Solves_L5 x2 mm1 K2 (n + 1) i1 = some r at hm
          rw [m_index_Solves_L5] at hm
          refine TrC.seq ?_
          refine TrC.region rfl ?_
          refine L rfl rfl (PStep.lss rfl (Lk.t rfl) (Lk.t rfl)) ?_
          refine TrL.nil ?_
          refine TrE.seq ?_
          refine TrC.seq ?_
          refine TrC.condB (Lk.t rfl) (fun hc7 => ?_) (fun hc7 => ?_)
          · have hm := cond_t hm hc7
            have hs7 := hc7
            try simp only [decide_eq_true_eq, decide_eq_false_iff_not, Bool.and_eq_true, Bool.or_eq_true, Bool.not_eq_true', Bool.not_eq_false', Bool.and_eq_false_iff, Bool.or_eq_false_iff] at hs7
            refine TrC.skip ?_
            refine TrE.seq ?_
            refine TrC.seq ?_
            refine TrC.block ?_
            refine TrC.seq ?_
            refine TrC.region rfl ?_
            refine L rfl rfl (PStep.ixD (xs := x2.1) Tryz.runUnderlying22 Tryz.sizeOf89 rfl (Lk.t rfl) (Lk.t rfl) (by omega)) ?_
            refine L rfl rfl (PStep.ldRefV (α := Release) (v := (ix x2.1 ((i1 : Int)))) Tryz.isAgg89 Tryz.sizeOf89 rfl (Lk.t rfl) rfl) ?_
            refine TrL.alloc (AStep.alloc Tryz.zeroValue89 rfl zc89 rfl rfl) rfl (fun b5 => ?_)
            refine LS rfl rfl (Step.storeW 0 Tryz.sizeOf89 rfl (Lk.t rfl) (Lk.t rfl) rfl rfl rfl) ?_
            refine TrL.nil ?_
            refine TrE.seq ?_
            refine TrC.seq ?_
            refine TrC.region rfl ?_
            refine L rfl rfl (PStep.faLoc fo89_2 rfl (Lk.t rfl)) ?_
            refine L rfl rfl (PStep.ldLoc 0 Tryz.isAgg26 rfl (Lk.t rfl) rfl rfl) ?_
            refine L rfl rfl (PStep.move rfl (Lk.t rfl)) ?_
            obtain ⟨x5, hx5, hm⟩ := bnd_some hm
            refine L rfl rfl (PStep.call ((s_slices_ContainsFunc_Requirement_Requirement (((ix x2.1 ((i1 : Int)))).requirements) ((fun z0 => m_index_Solves_1 z0 mm1)) x5 hx5)) Tryz.call89 rfl (LkAll.cons (Lk.t rfl) (LkAll.cons (Lk.t rfl) LkAll.nil))) ?_
            refine TrL.nil ?_
            refine TrE.seq ?_
            refine TrC.condB (Lk.t rfl) (fun hc8 => ?_) (fun hc8 => ?_)
            · have hm := cond_t hm hc8
              have hs8 := hc8
              try simp only [decide_eq_true_eq, decide_eq_false_iff_not, Bool.and_eq_true, Bool.or_eq_true, Bool.not_eq_true', Bool.not_eq_false', Bool.and_eq_false_iff, Bool.or_eq_false_iff] at hs8
              refine TrC.seq ?_
              refine TrC.region rfl ?_
              refine L rfl rfl (PStep.assign rfl Lk.c) ?_
              refine TrL.nil ?_
              refine TrE.seq ?_
              refine TrC.ret (TrE.blockR <| TrE.thenR <| TrE.thenR <| TrE.blockR <| TrE.thenR <| ?_)
              cases hm
              exact TrE.retOK (RetOK.eq (show _ = _ from rfl) (RetOK.tmp rfl (Lk.t (t := 6) rfl) (List.nil_sublist _)))
            · have hm := cond_f hm hc8
              have hs8 := hc8
              try simp only [decide_eq_true_eq, decide_eq_false_iff_not, Bool.and_eq_true, Bool.or_eq_true, Bool.not_eq_true', Bool.not_eq_false', Bool.and_eq_false_iff, Bool.or_eq_false_iff] at hs8
              refine TrC.skip ?_
              refine TrE.blockN ?_
              refine TrE.seq ?_
              refine TrC.region rfl ?_
              refine L rfl rfl (PStep.add64 rfl (Lk.t rfl) Lk.c (by omega)) ?_
              refine L rfl rfl (PStep.move rfl (Lk.t rfl)) ?_
              refine TrL.nil ?_
              refine TrE.dropF 1 ?_
              refine TrE.again ((n, (i1 + 1))) hm (Nat.lt_succ_self n) ((EnvSub.cons rfl (EnvSub.cons rfl (EnvSub.cons rfl (EnvSub.cons rfl (EnvSub.cons rfl (EnvSub.cons rfl (EnvSub.cons rfl EnvSub.nil)))))))) rfl
          · have hm := cond_f hm hc7
            have hs7 := hc7
            try simp only [decide_eq_true_eq, decide_eq_false_iff_not, Bool.and_eq_true, Bool.or_eq_true, Bool.not_eq_true', Bool.not_eq_false', Bool.and_eq_false_iff, Bool.or_eq_false_iff] at hs7
            refine TrC.exit (TrE.thenX <| TrE.thenX <| TrE.blockHit <| ?_)
            refine TrE.meetX (()) hm ((EnvSub.cons rfl (EnvSub.cons rfl (EnvSub.cons rfl (EnvSub.cons rfl EnvSub.nil))))) rfl
        · rintro _ hm
          change K2 () = some r at hm
          subst hK2
          refine TrC.seq ?_
          refine TrC.seq ?_
          refine TrC.region rfl ?_
          refine L rfl rfl (PStep.move rfl (Lk.t rfl)) ?_
          refine L rfl rfl (PStep.move rfl (Lk.t rfl)) ?_
          obtain ⟨x3, hx3, hm⟩ := bnd_some hm
          refine L rfl rfl (PStep.call ((s_slices_ContainsFunc_Requirement_Requirement a1 ((fun z0 => m_index_Solves_1 z0 mm1)) x3 hx3)) Tryz.call89 rfl (LkAll.cons (Lk.t rfl) (LkAll.cons (Lk.t rfl) LkAll.nil))) ?_
          refine TrL.nil ?_
          refine TrE.seq ?_
          refine TrC.condB (Lk.t rfl) (fun hc3 => ?_) (fun hc3 => ?_)
          · have hm := cond_t hm hc3
            have hs3 := hc3
            try simp only [decide_eq_true_eq, decide_eq_false_iff_not, Bool.and_eq_true, Bool.or_eq_true, Bool.not_eq_true', Bool.not_eq_false', Bool.and_eq_false_iff, Bool.or_eq_false_iff] at hs3
            refine TrC.seq ?_
            refine TrC.region rfl ?_
            refine L rfl rfl (PStep.assign rfl Lk.c) ?_
            refine TrL.nil ?_
            refine TrE.seq ?_
            refine TrC.ret (TrE.thenR <| ?_)
            cases hm
            exact TrE.retOK (RetOK.eq (show _ = _ from rfl) (RetOK.tmp rfl (Lk.t (t := 6) rfl) (List.nil_sublist _)))
          · have hm := cond_f hm hc3
            have hs3 := hc3
            try simp only [decide_eq_true_eq, decide_eq_false_iff_not, Bool.and_eq_true, Bool.or_eq_true, Bool.not_eq_true', Bool.not_eq_false', Bool.and_eq_false_iff, Bool.or_eq_false_iff] at hs3
            refine TrC.skip ?_
            refine TrE.seq ?_
            refine TrC.seq ?_
            refine TrC.region rfl ?_
            refine TrL.allocG (AStep.makeMap (fun x : ByteArray => Value.string x) (fun v : Bool => pB v) rfl rfl) rfl (fun r2 => ?_)
            refine L rfl rfl (PStep.assign rfl (Lk.t rfl)) ?_
            refine TrL.nil ?_
            refine TrE.seq ?_
            refine TrC.seq ?_
            refine TrC.region rfl ?_
            refine L rfl rfl (PStep.move rfl (Lk.t rfl)) ?_
            obtain ⟨x4, hx4, hm⟩ := bnd_some hm
            refine TrL.allocG (AStep.call (s_slices_Clone_Requirement_Requirement a1 x4 hx4) Tryz.call76 rfl rfl (LkAll.cons (Lk.t rfl) LkAll.nil)) rfl (fun r3 => ?_)
            refine L rfl rfl (PStep.assign rfl (Lk.t rfl)) ?_
            refine TrL.nil ?_
            refine TrE.seq ?_
            obtain ⟨K3, hK3, hm⟩ := joinK hm
            refine TrC.meetM (X := (List (ByteArray × Bool)) × OS × (List Requirement)) (fun ⟨mm2, o1, zq1⟩ => K3 mm2 = some r) (fun ⟨mm2, o1, zq1⟩ => []) [(9, _), (16, _)] (fun ⟨mm2, o1, zq1⟩ => fun A => (List.set (List.set A 0 (hRow true 120 o1 (zq1 : (List Requirement)))) 1 (hMap (fun x : ByteArray => Value.string x) (fun v : Bool => pB v) r2.b mm2))) (EnvSub.cons rfl (EnvSub.cons rfl EnvSub.nil)) ?_ ?_
            · refine TrC.block ?_
              refine TrC.share 0 17 rfl rfl ?_
              refine TrC.know (Lk.t (t := 9) rfl) pSl.lt fun hl1 => ?_
              refine TrC.loopM (X := Nat × (List (ByteArray × Bool)) × (List Requirement) × OS × (List Requirement) × Nat) (fun ⟨n, mm3, v1, o2, zq2, kq1⟩ => m_index_Solves_L4 mm1 K3 n mm3 v1 = some r) (fun ⟨n, mm3, v1, o2, zq2, kq1⟩ => [(17, pQue o2 kq1 (zq2 : (List Requirement)) (v1 : (List Requirement)))]) [(9, _), (10, _), (16, _)] (fun ⟨n, mm3, v1, o2, zq2, kq1⟩ => fun A => (List.set (List.set A 0 (hRow true 120 o2 (zq2 : (List Requirement)))) 1 (hMap (fun x : ByteArray => Value.string x) (fun v : Bool => pB v) r2.b mm3))) (fun ⟨n, mm3, v1, o2, zq2, kq1⟩ => n) (((100000 : Nat), ([] : List (ByteArray × Bool)), x4, r3, x4, 0)) hm ((EnvSub.consI rfl shQue (EnvSub.cons rfl (EnvSub.cons rfl (EnvSub.cons rfl EnvSub.nil))))) rfl ?_
              rintro ⟨n, mm3, v1, o2, zq2, kq1⟩ hm
              obtain ⟨n, rfl⟩ := succ_of (f := fun n => m_index_Solves_L4 mm1 K3 n mm3 v1) rfl hm
              change m_index_Solves_L4 mm1 K3 (n + 1) mm3 v1 = some r at hm
              rw [m_index_Solves_L4] at hm
              refine TrC.seq ?_
              refine TrC.seq ?_
              refine TrC.region rfl ?_
              refine L rfl rfl (PStep.move rfl (Lk.t rfl)) ?_
              refine L rfl rfl (PStep.len (xs := v1) (tys := #[]) Tryz.runUnderlying26 rfl (Lk.queSl (Lk.t rfl))) ?_
              refine L rfl rfl (PStep.gtr rfl (Lk.t rfl) Lk.c) ?_
              refine TrL.nil ?_
              refine TrE.seq ?_
              refine TrC.condB (Lk.t rfl) (fun hc5 => ?_) (fun hc5 => ?_)
              · have hm := cond_t hm hc5
                have hs5 := hc5
                try simp only [decide_eq_true_eq, decide_eq_false_iff_not, Bool.and_eq_true, Bool.or_eq_true, Bool.not_eq_true', Bool.not_eq_false', Bool.and_eq_false_iff, Bool.or_eq_false_iff] at hs5
                refine TrC.skip ?_
                refine TrE.seq ?_
                refine TrC.block ?_
                refine TrC.seq ?_
                refine TrC.region rfl ?_
                refine L rfl rfl (PStep.move rfl (Lk.t rfl)) ?_
                refine L rfl rfl (PStep.ixD (xs := v1) Tryz.runUnderlying26 Tryz.sizeOf120 rfl (Lk.queSl (Lk.t rfl)) Lk.c (by omega)) ?_
                refine L rfl rfl (PStep.ldRefV (α := Requirement) (v := (ix v1 ((0 : Int)))) Tryz.isAgg120 Tryz.sizeOf120 rfl (Lk.t rfl) rfl) ?_
                refine TrL.alloc (AStep.alloc Tryz.zeroValue120 rfl zc120 rfl rfl) rfl (fun b4 => ?_)
                refine LS rfl rfl (Step.storeW 0 Tryz.sizeOf120 rfl (Lk.t rfl) (Lk.t rfl) rfl rfl rfl) ?_
                refine TrL.nil ?_
                refine TrE.seq ?_
                refine TrC.seq ?_
                refine TrC.region rfl ?_
                refine L rfl rfl (PStep.move rfl (Lk.t rfl)) ?_
                obtain ⟨hk1, hm⟩ := chk_some hm
                refine L rfl rfl (PStep.slQue ((1 : Int)).toNat Tryz.runUnderlying26 Tryz.sizeOf120 rfl (Lk.t rfl) (Lk.toNat Lk.c hk1.1) (by have := hk1; omega)) ?_
                refine L rfl rfl (PStep.assign rfl (Lk.t rfl)) ?_
                refine TrL.nil ?_
                refine TrE.seq ?_
                refine TrC.seq ?_
                refine TrC.region rfl ?_
                refine L rfl rfl (PStep.move rfl (Lk.t rfl)) ?_
                refine L rfl rfl (PStep.faLoc fo120_0 rfl (Lk.t rfl)) ?_
                refine L rfl rfl (PStep.ldLoc 0 Tryz.isAgg9 rfl (Lk.t rfl) rfl rfl) ?_
                refine L rfl rfl (PStep.lookup 2 (kv := fun x : ByteArray => Value.string x) (pv := fun v : Bool => pB v) false mpT151 key9 Tryz.zeroValue4 (fun _ => rfl) rfl (Lk.t rfl) (Lk.t rfl) rfl) ?_
                refine L rfl rfl (PStep.not rfl (Lk.t rfl)) ?_
                refine TrL.nil ?_
                refine TrE.seq ?_
                refine TrC.condB (Lk.t rfl) (fun hc6 => ?_) (fun hc6 => ?_)
                · have hm := cond_t hm hc6
                  have hs6 := hc6
                  try simp only [decide_eq_true_eq, decide_eq_false_iff_not, Bool.and_eq_true, Bool.or_eq_true, Bool.not_eq_true', Bool.not_eq_false', Bool.and_eq_false_iff, Bool.or_eq_false_iff] at hs6
                  refine TrC.seq ?_
                  refine TrC.region rfl ?_
                  refine L rfl rfl (PStep.move rfl (Lk.t rfl)) ?_
                  refine L rfl rfl (PStep.faLoc fo120_0 rfl (Lk.t rfl)) ?_
                  refine L rfl rfl (PStep.ldLoc 0 Tryz.isAgg9 rfl (Lk.t rfl) rfl rfl) ?_
                  refine LS rfl rfl (Step.mapUpdate 2 (kv := fun x : ByteArray => Value.string x) (pv := fun v : Bool => pB v) mpT151 key9 (.inl rfl) (Lk.t rfl) (Lk.t rfl) Lk.c rfl) ?_
                  refine TrL.nil ?_
                  refine TrE.seq ?_
                  refine TrC.region rfl ?_
                  refine L rfl rfl (PStep.move rfl (Lk.t rfl)) ?_
                  refine L rfl rfl (PStep.ldRef Tryz.isAgg146 rfl (Lk.t rfl) rfl) ?_
                  refine L rfl rfl (PStep.faLoc fo120_0 rfl (Lk.t rfl)) ?_
                  refine L rfl rfl (PStep.ldLoc 0 Tryz.isAgg9 rfl (Lk.t rfl) rfl rfl) ?_
                  refine L rfl rfl (PStep.lookupS (kv := fun x : ByteArray => Value.string x) (pv := fun v : Release => pT v) zRelease mpT146 key9 Tryz.zeroValue89 zp89 rfl (Lk.t rfl) (Lk.t rfl)) ?_
                  refine L rfl rfl (PStep.field1 Tryz.runUnderlying89 rfl Tryz.isAgg26 rfl (Lk.t rfl) rfl) ?_
                  obtain ⟨hk2, hm⟩ := chk_some hm
                  refine TrL.appendQ 1 apT26 rfl rfl rfl (Lk.t rfl) (Lk.t rfl) rfl (by have := hk2; omega) (fun r4 kq2 zq3 => ?_)
                  refine L rfl rfl (PStep.assign rfl (Lk.t rfl)) ?_
                  refine TrL.nil ?_
                  refine TrE.blockN ?_
                  refine TrE.dropF 1 ?_
                  refine TrE.again ((n, (putM (((ix v1 ((0 : Int)))).path) true mm3), ((v1.drop ((1 : Int)).toNat) ++ (((getM mm1 (((ix v1 ((0 : Int)))).path)).getD zRelease)).requirements), r4, zq3, kq2)) hm (Nat.lt_succ_self n) ((EnvSub.cons rfl (EnvSub.cons rfl (EnvSub.cons rfl (EnvSub.cons rfl EnvSub.nil))))) rfl
                · have hm := cond_f hm hc6
                  have hs6 := hc6
                  try simp only [decide_eq_true_eq, decide_eq_false_iff_not, Bool.and_eq_true, Bool.or_eq_true, Bool.not_eq_true', Bool.not_eq_false', Bool.and_eq_false_iff, Bool.or_eq_false_iff] at hs6
                  refine TrC.skip ?_
                  refine TrE.blockN ?_
                  refine TrE.dropF 1 ?_
                  refine TrE.again ((n, mm3, (v1.drop ((1 : Int)).toNat), o2, zq2, (kq1 + ((1 : Int)).toNat))) hm (Nat.lt_succ_self n) ((EnvSub.cons rfl (EnvSub.cons rfl (EnvSub.cons rfl (EnvSub.cons rfl EnvSub.nil))))) rfl
              · have hm := cond_f hm hc5
                have hs5 := hc5
                try simp only [decide_eq_true_eq, decide_eq_false_iff_not, Bool.and_eq_true, Bool.or_eq_true, Bool.not_eq_true', Bool.not_eq_false', Bool.and_eq_false_iff, Bool.or_eq_false_iff] at hs5
                refine TrC.exit (TrE.thenX <| TrE.thenX <| TrE.blockHit <| ?_)
                refine TrE.meetX ((mm3, o2, zq2)) hm ((EnvSub.cons rfl (EnvSub.cons rfl EnvSub.nil))) rfl
            · rintro ⟨mm2, o1, zq1⟩ hm
              change K3 mm2 = some r at hm
              subst hK3
              refine TrC.seq ?_
              refine TrC.seq ?_
              refine TrC.region rfl ?_
              refine L rfl rfl (PStep.move rfl (Lk.t rfl)) ?_
              refine L rfl rfl (PStep.lenMap 1 mpT151 rfl (Lk.t rfl) rfl) ?_
              refine L rfl rfl (PStep.move rfl (Lk.t rfl)) ?_
              refine L rfl rfl (PStep.len (xs := x2.1) (tys := #[]) Tryz.runUnderlying22 rfl (Lk.t rfl)) ?_
              refine L rfl rfl (PStep.lss rfl (Lk.t rfl) (Lk.t rfl)) ?_
              refine TrL.nil ?_
              refine TrE.seq ?_
              refine TrC.condB (Lk.t rfl) (fun hc4 => ?_) (fun hc4 => ?_)
              · have hm := cond_t hm hc4
                have hs4 := hc4
                try simp only [decide_eq_true_eq, decide_eq_false_iff_not, Bool.and_eq_true, Bool.or_eq_true, Bool.not_eq_true', Bool.not_eq_false', Bool.and_eq_false_iff, Bool.or_eq_false_iff] at hs4
                refine TrC.seq ?_
                refine TrC.region rfl ?_
                refine L rfl rfl (PStep.assign rfl Lk.c) ?_
                refine TrL.nil ?_
                refine TrE.seq ?_
                refine TrC.ret (TrE.thenR <| ?_)
                cases hm
                exact TrE.retOK (RetOK.eq (show _ = _ from rfl) (RetOK.tmp rfl (Lk.t (t := 6) rfl) (List.nil_sublist _)))
              · have hm := cond_f hm hc4
                have hs4 := hc4
                try simp only [decide_eq_true_eq, decide_eq_false_iff_not, Bool.and_eq_true, Bool.or_eq_true, Bool.not_eq_true', Bool.not_eq_false', Bool.and_eq_false_iff, Bool.or_eq_false_iff] at hs4
                refine TrC.skip ?_
                refine TrE.seq ?_
                refine TrC.seq ?_
                refine TrC.region rfl ?_
                refine L rfl rfl (PStep.assign rfl Lk.c) ?_
                refine TrL.nil ?_
                refine TrE.seq ?_
                refine TrC.ret (?_)
                cases hm
                exact TrE.retOK (RetOK.eq (show _ = _ from rfl) (RetOK.tmp rfl (Lk.t (t := 6) rfl) (List.nil_sublist _)))
def m_slices_Clone_Selected_Selected (a0 : (List Selected)) : Option ((List Selected)) := chk (a0.length ≤ 4294967296) <| some a0
theorem s_slices_Clone_Selected_Selected (a0 : (List Selected)) (r : (List Selected)) (hm : m_slices_Clone_Selected_Selected a0 = some r) : FnRow Tryz.prog 32 [pSl a0] (fun o => pOwn o r) (fun o => hOwn 59 o r) := by
  unfold m_slices_Clone_Selected_Selected at hm
  obtain ⟨hk, hm⟩ := chk_some hm
  cases hm
  refine SpecX.mk Tryz.func32 rfl rfl fun B => ?_
  refine TrC.seq ?_
  refine TrC.region rfl ?_
  refine L rfl rfl (PStep.assign rfl Lk.c) ?_
  refine TrL.nil ?_
  refine TrE.seq ?_
  refine TrC.seq ?_
  refine TrC.seq ?_
  refine TrC.region rfl ?_
  refine L rfl rfl (PStep.move rfl (Lk.t rfl)) ?_
  refine L rfl rfl (PStep.eqNil Tryz.underlying37 rfl (Lk.t rfl)) ?_
  refine TrL.nil ?_
  refine TrE.seq ?_
  refine TrC.condN (Lk.t rfl) (fun hc => ?_) ?_
  · refine TrC.seq ?_
    refine TrC.region rfl ?_
    refine L rfl rfl (PStep.assign rfl Lk.c) ?_
    refine TrL.nil ?_
    refine TrE.seq ?_
    refine TrC.ret (TrE.thenR <| ?_)
    refine TrE.lay (hOwn 59 .nil a0) rfl ?_
    subst hc
    exact TrE.retOKX (RetOKX.row1 0 .nil rfl (Lk.ownNil (Lk.t rfl)) rfl rfl)
  refine TrC.skip ?_
  refine TrE.seq ?_
  refine TrC.seq ?_
  refine TrC.region rfl ?_
  refine TrL.allocG (AStep.litOwn ([] : (List Selected)) slT37 rfl rfl trivial rfl rfl) rfl (fun r1 => ?_)
  refine L rfl rfl (PStep.move rfl (Lk.t rfl)) ?_
  refine TrL.append 0 apT37 rfl rfl rfl (Lk.t rfl) (Lk.t rfl) rfl (by simp only [List.length_nil, Nat.zero_add]; omega) (fun r2 => ?_)
  refine L rfl rfl (PStep.assign rfl (Lk.t rfl)) ?_
  refine TrL.nil ?_
  refine TrE.seq ?_
  refine TrC.ret ?_
  exact TrE.retOKX (RetOKX.row1 0 r2 rfl (Lk.t rfl) rfl rfl)
def m_proof_checker_skipped_1 (a0 : Requirement) (f0 : Release) (f1 : Int) : Option (Bool) :=
  some (((decide (a0.path = f0.path)) && (!(has a0.set_ f1))))
theorem s_proof_checker_skipped_1 (a0 : Requirement) (f0 : Release) (f1 : Int) (r : Bool) (hm : m_proof_checker_skipped_1 a0 f0 f1 = some r) : Fn Tryz.prog 90 [pT (a0 : Requirement), pR (f0 : Release), pRef [pI (f1)]] (pB (r)) := by
  unfold m_proof_checker_skipped_1 at hm
  refine Spec.mk Tryz.func90 rfl rfl fun B => ?_
  refine TrC.seq ?_
  refine TrC.region rfl ?_
  refine TrL.alloc (AStep.boxK rfl rfl (Lk.t rfl)) rfl (fun b1 => ?_)
  refine L rfl rfl (PStep.assign rfl Lk.c) ?_
  refine TrL.nil ?_
  refine TrE.seq ?_
  refine TrC.seq ?_
  refine TrC.region rfl ?_
  refine L rfl rfl (PStep.faLoc fo120_0 rfl (Lk.t rfl)) ?_
  refine L rfl rfl (PStep.ldLoc 0 Tryz.isAgg9 rfl (Lk.t rfl) rfl rfl) ?_
  refine L rfl rfl (PStep.faRef fo89_0 rfl (Lk.t rfl)) ?_
  refine L rfl rfl (PStep.ldRef Tryz.isAgg9 rfl (Lk.t rfl) rfl) ?_
  refine L rfl rfl (PStep.seql rfl (Lk.t rfl) (Lk.t rfl)) ?_
  refine L rfl rfl (PStep.move rfl (Lk.t rfl)) ?_
  refine LW rfl (WStep.guard rfl rfl rfl rfl (fun hg => PStep.faLoc fo120_1 rfl (Lk.t rfl))) ?_
  refine LW rfl (WStep.guard rfl rfl rfl rfl (fun hg => PStep.ldLoc 0 Tryz.isAgg105 rfl (Lk.g rfl hg) rfl rfl)) ?_
  refine LW rfl (WStep.guard rfl rfl rfl rfl (fun hg => PStep.ldRef Tryz.isAgg3 rfl (Lk.t rfl) rfl)) ?_
  refine LW rfl (WStep.guard rfl rfl rfl rfl (fun hg => PStep.call (s_Has a0.set_ f1 ) Tryz.call87 rfl (LkAll.cons (Lk.g rfl hg) (LkAll.cons (Lk.g rfl hg) LkAll.nil)))) ?_
  refine LW rfl (WStep.guard rfl rfl rfl rfl (fun hg => PStep.not rfl (Lk.g rfl hg))) ?_
  refine L rfl rfl (PStep.pickAnd rfl (Lk.t rfl) (fun hq => Lk.g rfl hq)) ?_
  refine L rfl rfl (PStep.assign rfl (Lk.t rfl)) ?_
  refine TrL.nil ?_
  refine TrE.seq ?_
  refine TrC.ret (?_)
  cases hm
  exact TrE.retOK (RetOK.eq (show _ = _ from rfl) (RetOK.tmp rfl (Lk.t (t := 4) rfl) (List.nil_sublist _)))
def m_term_Holds_1 (a0 : Selected) (f0 : Term) : Option (Bool) :=
  some ((decide (a0.path = f0.path)))
theorem s_term_Holds_1 (a0 : Selected) (f0 : Term) (r : Bool) (hm : m_term_Holds_1 a0 f0 = some r) : Fn Tryz.prog 99 [pT (a0 : Selected), pR (f0 : Term)] (pB (r)) := by
  unfold m_term_Holds_1 at hm
  refine Spec.mk Tryz.func99 rfl rfl fun B => ?_
  refine TrC.seq ?_
  refine TrC.region rfl ?_
  refine TrL.alloc (AStep.boxK rfl rfl (Lk.t rfl)) rfl (fun b1 => ?_)
  refine L rfl rfl (PStep.assign rfl Lk.c) ?_
  refine TrL.nil ?_
  refine TrE.seq ?_
  refine TrC.seq ?_
  refine TrC.region rfl ?_
  refine L rfl rfl (PStep.faLoc fo59_0 rfl (Lk.t rfl)) ?_
  refine L rfl rfl (PStep.ldLoc 0 Tryz.isAgg9 rfl (Lk.t rfl) rfl rfl) ?_
  refine L rfl rfl (PStep.faRef fo107_0 rfl (Lk.t rfl)) ?_
  refine L rfl rfl (PStep.ldRef Tryz.isAgg9 rfl (Lk.t rfl) rfl) ?_
  refine L rfl rfl (PStep.seql rfl (Lk.t rfl) (Lk.t rfl)) ?_
  refine L rfl rfl (PStep.assign rfl (Lk.t rfl)) ?_
  refine TrL.nil ?_
  refine TrE.seq ?_
  refine TrC.ret (?_)
  cases hm
  exact TrE.retOK (RetOK.eq (show _ = _ from rfl) (RetOK.tmp rfl (Lk.t (t := 3) rfl) (List.nil_sublist _)))
def m_term_Holds (a0 : Term) (a1 : (List Selected)) : Option (Bool) :=
  bnd (m_slices_IndexFunc_Selected_Selected a1 ((fun z0 => m_term_Holds_1 z0 a0))) fun x1 => (bif (decide (x1 < (0 : Int))) then some a0.absent
  else chk (0 ≤ x1 ∧ x1 < (a1.length : Int)) <| some (((decide ((placeOf (((ix a1 x1)).version)).2 = (0 : Int))) && (has a0.set_ ((placeOf (((ix a1 x1)).version)).1)))))
theorem s_term_Holds (a0 : Term) (a1 : (List Selected)) (r : Bool) (hm : m_term_Holds a0 a1 = some r) : Fn Tryz.prog 55 [pT (a0 : Term), pSl (a1 : (List Selected))] (pB (r)) := by
  unfold m_term_Holds at hm
  refine Spec.mk Tryz.func55 rfl rfl fun B => ?_
  refine TrC.seq ?_
  refine TrC.region rfl ?_
  refine TrL.alloc (AStep.boxK rfl rfl (Lk.t rfl)) rfl (fun b1 => ?_)
  refine L rfl rfl (PStep.assign rfl Lk.c) ?_
  refine TrL.nil ?_
  refine TrE.seq ?_
  refine TrC.seq ?_
  refine TrC.settleC 0 2 rfl rfl ?_
  refine TrC.region rfl ?_
  refine L rfl rfl (PStep.move rfl (Lk.t rfl)) ?_
  refine L rfl rfl (PStep.mkFun (ps := fun x : {x : Selected × Bool // (fun z0 => m_term_Holds_1 z0 a0) x.1 = some x.2} => [pT (x.1.1 : Selected)]) (p := fun x => pB (x.1.2)) (fun x => s_term_Holds_1 x.1.1 a0 x.1.2 x.2) Tryz.call99 rfl (LkAll.cons (Lk.t rfl) LkAll.nil)) ?_
  obtain ⟨x1, hx1, hm⟩ := bnd_some hm
  refine L rfl rfl (PStep.call ((s_slices_IndexFunc_Selected_Selected a1 ((fun z0 => m_term_Holds_1 z0 a0)) x1 hx1)) Tryz.call78 rfl (LkAll.cons (Lk.t rfl) (LkAll.cons (Lk.t rfl) LkAll.nil))) ?_
  refine L rfl rfl (PStep.assign rfl (Lk.t rfl)) ?_
  refine TrL.nil ?_
  refine TrE.seq ?_
  refine TrC.seq ?_
  refine TrC.seq ?_
  refine TrC.region rfl ?_
  refine L rfl rfl (PStep.move rfl (Lk.t rfl)) ?_
  refine L rfl rfl (PStep.lss rfl (Lk.t rfl) Lk.c) ?_
  refine TrL.nil ?_
  refine TrE.seq ?_
  refine TrC.condB (Lk.t rfl) (fun hc1 => ?_) (fun hc1 => ?_)
  · have hm := cond_t hm hc1
    have hs1 := hc1
    try simp only [decide_eq_true_eq, decide_eq_false_iff_not, Bool.and_eq_true, Bool.or_eq_true, Bool.not_eq_true', Bool.not_eq_false', Bool.and_eq_false_iff, Bool.or_eq_false_iff] at hs1
    refine TrC.seq ?_
    refine TrC.region rfl ?_
    refine L rfl rfl (PStep.faRef fo107_1 rfl (Lk.t rfl)) ?_
    refine L rfl rfl (PStep.ldRef Tryz.isAgg4 rfl (Lk.t rfl) rfl) ?_
    refine L rfl rfl (PStep.assign rfl (Lk.t rfl)) ?_
    refine TrL.nil ?_
    refine TrE.seq ?_
    refine TrC.ret (TrE.thenR <| ?_)
    cases hm
    exact TrE.retOK (RetOK.eq (show _ = _ from rfl) (RetOK.tmp rfl (Lk.t (t := 4) rfl) (List.nil_sublist _)))
  · have hm := cond_f hm hc1
    have hs1 := hc1
    try simp only [decide_eq_true_eq, decide_eq_false_iff_not, Bool.and_eq_true, Bool.or_eq_true, Bool.not_eq_true', Bool.not_eq_false', Bool.and_eq_false_iff, Bool.or_eq_false_iff] at hs1
    refine TrC.skip ?_
    refine TrE.seq ?_
    refine TrC.seq ?_
    refine TrC.region rfl ?_
    refine L rfl rfl (PStep.move rfl (Lk.t rfl)) ?_
    refine L rfl rfl (PStep.move rfl (Lk.t rfl)) ?_
    obtain ⟨hk1, hm⟩ := chk_some hm
    refine L rfl rfl (PStep.ixD (xs := a1) Tryz.runUnderlying37 Tryz.sizeOf59 rfl (Lk.t rfl) (Lk.t rfl) hk1) ?_
    refine L rfl rfl (PStep.faRef fo59_1 rfl (Lk.t rfl)) ?_
    refine L rfl rfl (PStep.ldRefV (α := Version) (v := ((ix a1 x1)).version) Tryz.isAgg57 Tryz.sizeOf57 rfl (Lk.t rfl) rfl) ?_
    refine L rfl rfl (PStep.call (s_Place (((ix a1 x1)).version) ) Tryz.call56 rfl (LkAll.cons (Lk.t rfl) LkAll.nil)) ?_
    refine L rfl rfl (PStep.move rfl (Lk.t rfl)) ?_
    refine L rfl rfl (PStep.extract rfl (Lk.t rfl) rfl) ?_
    refine L rfl rfl (PStep.extract rfl (Lk.t rfl) rfl) ?_
    refine L rfl rfl (PStep.assign rfl (Lk.t rfl)) ?_
    refine L rfl rfl (PStep.assign rfl (Lk.t rfl)) ?_
    refine TrL.nil ?_
    refine TrE.seq ?_
    refine TrC.seq ?_
    refine TrC.region rfl ?_
    refine L rfl rfl (PStep.move rfl (Lk.t rfl)) ?_
    refine L rfl rfl (PStep.eql rfl (Lk.t rfl) Lk.c) ?_
    refine L rfl rfl (PStep.move rfl (Lk.t rfl)) ?_
    refine LW rfl (WStep.guard rfl rfl rfl rfl (fun hg => PStep.faRef fo107_2 rfl (Lk.t rfl))) ?_
    refine LW rfl (WStep.guard rfl rfl rfl rfl (fun hg => PStep.ldRef Tryz.isAgg105 rfl (Lk.g rfl hg) rfl)) ?_
    refine LW rfl (WStep.guard rfl rfl rfl rfl (fun hg => PStep.move rfl (Lk.t rfl))) ?_
    refine LW rfl (WStep.guard rfl rfl rfl rfl (fun hg => PStep.call (s_Has a0.set_ ((placeOf (((ix a1 x1)).version)).1) ) Tryz.call87 rfl (LkAll.cons (Lk.g rfl hg) (LkAll.cons (Lk.g rfl hg) LkAll.nil)))) ?_
    refine L rfl rfl (PStep.pickAnd rfl (Lk.t rfl) (fun hq => Lk.g rfl hq)) ?_
    refine L rfl rfl (PStep.assign rfl (Lk.t rfl)) ?_
    refine TrL.nil ?_
    refine TrE.seq ?_
    refine TrC.ret (?_)
    cases hm
    exact TrE.retOK (RetOK.eq (show _ = _ from rfl) (RetOK.tmp rfl (Lk.t (t := 4) rfl) (List.nil_sublist _)))
def m_term_Violated_L2 (a0 : (List Term)) (a1 : (List Selected)) (K1 : Unit → Option (Bool)) : Nat → Nat → Option (Bool)
  | 0, _ => none
  | n + 1, i1 =>
    (bif (decide ((i1 : Int) < (a0.length : Int))) then bnd (m_term_Holds ((ix a0 ((i1 : Int)))) a1) fun x1 => (bif (!x1) then some false
  else m_term_Violated_L2 a0 a1 K1 n ((i1 + 1)))
  else K1 ())
def m_term_Violated (a0 : (List Term)) (a1 : (List Selected)) : Option (Bool) :=
  joinM (fun (_ : Unit) =>
    some true) fun K1 =>
    m_term_Violated_L2 a0 a1 K1 (a0.length + 1) 0
theorem s_term_Violated (a0 : (List Term)) (a1 : (List Selected)) (r : Bool) (hm : m_term_Violated a0 a1 = some r) : Fn Tryz.prog 26 [pSl (a0 : (List Term)), pSl (a1 : (List Selected))] (pB (r)) := by
  unfold m_term_Violated at hm
  refine Spec.mk Tryz.func26 rfl rfl fun B => ?_
  refine TrC.seq ?_
  refine TrC.region rfl ?_
  refine L rfl rfl (PStep.assign rfl Lk.c) ?_
  refine TrL.nil ?_
  refine TrE.seq ?_
  obtain ⟨K1, hK1, hm⟩ := joinK hm
  refine TrC.meetM (X := Unit) (fun _ => K1 () = some r) (fun _ => []) [] (fun _ => fun A => A) EnvSub.nil ?_ ?_
  · refine TrC.seq ?_
    refine TrC.region rfl ?_
    refine L rfl rfl (PStep.move rfl (Lk.t rfl)) ?_
    refine L rfl rfl (PStep.len (xs := a0) (tys := #[]) Tryz.runUnderlying51 rfl (Lk.t rfl)) ?_
    refine L rfl rfl (PStep.move rfl Lk.c) ?_
    refine TrL.nil ?_
    refine TrE.seq ?_
    refine TrC.block ?_
    refine TrC.know (Lk.t (t := 0) rfl) pSl.lt fun hl1 => ?_
    refine TrC.know (Lk.t (t := 1) rfl) pSl.lt fun hl2 => ?_
    refine TrC.loopM (X := Nat × Nat) (fun ⟨n, i1⟩ => m_term_Violated_L2 a0 a1 K1 n i1 = some r) (fun ⟨n, i1⟩ => [(8, pI ((i1 : Int)))]) [(0, _), (1, _), (7, _)] (fun ⟨n, i1⟩ => fun A => A) (fun ⟨n, i1⟩ => n) (((a0.length + 1 : Nat), 0)) hm ((EnvSub.cons rfl (EnvSub.cons rfl (EnvSub.cons rfl (EnvSub.cons rfl EnvSub.nil))))) rfl ?_
    rintro ⟨n, i1⟩ hm
    obtain ⟨n, rfl⟩ := succ_of (f := fun n => m_term_Violated_L2 a0 a1 K1 n i1) rfl hm
    change m_term_Violated_L2 a0 a1 K1 (n + 1) i1 = some r at hm
    rw [m_term_Violated_L2] at hm
    refine TrC.seq ?_
    refine TrC.region rfl ?_
    refine L rfl rfl (PStep.lss rfl (Lk.t rfl) (Lk.t rfl)) ?_
    refine TrL.nil ?_
    refine TrE.seq ?_
    refine TrC.seq ?_
    refine TrC.condB (Lk.t rfl) (fun hc1 => ?_) (fun hc1 => ?_)
    · have hm := cond_t hm hc1
      have hs1 := hc1
      try simp only [decide_eq_true_eq, decide_eq_false_iff_not, Bool.and_eq_true, Bool.or_eq_true, Bool.not_eq_true', Bool.not_eq_false', Bool.and_eq_false_iff, Bool.or_eq_false_iff] at hs1
      refine TrC.skip ?_
      refine TrE.seq ?_
      refine TrC.seq ?_
      refine TrC.block ?_
      refine TrC.seq ?_
      refine TrC.region rfl ?_
      refine L rfl rfl (PStep.move rfl (Lk.t rfl)) ?_
      refine L rfl rfl (PStep.assign rfl (Lk.t rfl)) ?_
      refine TrL.nil ?_
      refine TrE.seq ?_
      refine TrC.seq ?_
      refine TrC.region rfl ?_
      refine L rfl rfl (PStep.move rfl (Lk.t rfl)) ?_
      refine L rfl rfl (PStep.move rfl (Lk.t rfl)) ?_
      refine L rfl rfl (PStep.ixD (xs := a0) Tryz.runUnderlying51 Tryz.sizeOf107 rfl (Lk.t rfl) (Lk.t rfl) (by omega)) ?_
      refine L rfl rfl (PStep.ldRefV (α := Term) (v := (ix a0 ((i1 : Int)))) Tryz.isAgg107 Tryz.sizeOf107 rfl (Lk.t rfl) rfl) ?_
      refine L rfl rfl (PStep.move rfl (Lk.t rfl)) ?_
      obtain ⟨x1, hx1, hm⟩ := bnd_some hm
      refine L rfl rfl (PStep.call ((s_term_Holds ((ix a0 ((i1 : Int)))) a1 x1 hx1)) Tryz.call55 rfl (LkAll.cons (Lk.t rfl) (LkAll.cons (Lk.t rfl) LkAll.nil))) ?_
      refine L rfl rfl (PStep.not rfl (Lk.t rfl)) ?_
      refine TrL.nil ?_
      refine TrE.seq ?_
      refine TrC.condB (Lk.t rfl) (fun hc2 => ?_) (fun hc2 => ?_)
      · have hm := cond_t hm hc2
        have hs2 := hc2
        try simp only [decide_eq_true_eq, decide_eq_false_iff_not, Bool.and_eq_true, Bool.or_eq_true, Bool.not_eq_true', Bool.not_eq_false', Bool.and_eq_false_iff, Bool.or_eq_false_iff] at hs2
        refine TrC.seq ?_
        refine TrC.region rfl ?_
        refine L rfl rfl (PStep.assign rfl Lk.c) ?_
        refine TrL.nil ?_
        refine TrE.seq ?_
        refine TrC.ret (TrE.blockR <| TrE.thenR <| TrE.thenR <| TrE.blockR <| TrE.thenR <| ?_)
        cases hm
        exact TrE.retOK (RetOK.eq (show _ = _ from rfl) (RetOK.tmp rfl (Lk.t (t := 4) rfl) (List.nil_sublist _)))
      · have hm := cond_f hm hc2
        have hs2 := hc2
        try simp only [decide_eq_true_eq, decide_eq_false_iff_not, Bool.and_eq_true, Bool.or_eq_true, Bool.not_eq_true', Bool.not_eq_false', Bool.and_eq_false_iff, Bool.or_eq_false_iff] at hs2
        refine TrC.skip ?_
        refine TrE.blockN ?_
        refine TrE.seq ?_
        refine TrC.region rfl ?_
        refine L rfl rfl (PStep.add64 rfl (Lk.t rfl) Lk.c (by omega)) ?_
        refine L rfl rfl (PStep.move rfl (Lk.t rfl)) ?_
        refine TrL.nil ?_
        refine TrE.again ((n, (i1 + 1))) hm (Nat.lt_succ_self n) ((EnvSub.cons rfl (EnvSub.cons rfl (EnvSub.cons rfl (EnvSub.cons rfl EnvSub.nil))))) rfl
    · have hm := cond_f hm hc1
      have hs1 := hc1
      try simp only [decide_eq_true_eq, decide_eq_false_iff_not, Bool.and_eq_true, Bool.or_eq_true, Bool.not_eq_true', Bool.not_eq_false', Bool.and_eq_false_iff, Bool.or_eq_false_iff] at hs1
      refine TrC.exit (TrE.thenX <| TrE.thenX <| TrE.blockHit <| ?_)
      refine TrE.meetX (()) hm (EnvSub.nil) rfl
  · rintro _ hm
    change K1 () = some r at hm
    subst hK1
    refine TrC.seq ?_
    refine TrC.region rfl ?_
    refine L rfl rfl (PStep.assign rfl Lk.c) ?_
    refine TrL.nil ?_
    refine TrE.seq ?_
    refine TrC.ret (?_)
    cases hm
    exact TrE.retOK (RetOK.eq (show _ = _ from rfl) (RetOK.tmp rfl (Lk.t (t := 4) rfl) (List.nil_sublist _)))
def m_slices_ContainsFunc_Incompatibility_Term (a0 : (List Term)) (a1 : Term → Option (Bool)) : Option (Bool) :=
  bnd (m_slices_IndexFunc_Incompatibility_Term a0 a1) fun x1 => some ((decide ((0 : Int) ≤ x1)))
theorem s_slices_ContainsFunc_Incompatibility_Term (a0 : (List Term)) (a1 : Term → Option (Bool)) (r : Bool) (hm : m_slices_ContainsFunc_Incompatibility_Term a0 a1 = some r) : Fn Tryz.prog 129 [pSl (a0 : (List Term)), pF1 Tryz.prog (a1) (fun a => pT (a : Term)) (fun r => pB (r))] (pB (r)) := by
  unfold m_slices_ContainsFunc_Incompatibility_Term at hm
  refine Spec.mk Tryz.func129 rfl rfl fun B => ?_
  refine TrC.seq ?_
  refine TrC.region rfl ?_
  refine L rfl rfl (PStep.assign rfl Lk.c) ?_
  refine TrL.nil ?_
  refine TrE.seq ?_
  refine TrC.seq ?_
  refine TrC.region rfl ?_
  refine L rfl rfl (PStep.move rfl (Lk.t rfl)) ?_
  refine L rfl rfl (PStep.move rfl (Lk.t rfl)) ?_
  obtain ⟨x1, hx1, hm⟩ := bnd_some hm
  refine L rfl rfl (PStep.call ((s_slices_IndexFunc_Incompatibility_Term a0 a1 x1 hx1)) Tryz.call176 rfl (LkAll.cons (Lk.t rfl) (LkAll.cons (Lk.t rfl) LkAll.nil))) ?_
  refine L rfl rfl (PStep.geq rfl (Lk.t rfl) Lk.c) ?_
  refine L rfl rfl (PStep.assign rfl (Lk.t rfl)) ?_
  refine TrL.nil ?_
  refine TrE.seq ?_
  refine TrC.ret (?_)
  cases hm
  exact TrE.retOK (RetOK.eq (show _ = _ from rfl) (RetOK.tmp rfl (Lk.t (t := 4) rfl) (List.nil_sublist _)))
def m_term_Entailed_1_1 (a0 : Selected) (f0 : Term) : Option (Bool) :=
  some ((decide (a0.path = f0.path)))
theorem s_term_Entailed_1_1 (a0 : Selected) (f0 : Term) (r : Bool) (hm : m_term_Entailed_1_1 a0 f0 = some r) : Fn Tryz.prog 131 [pT (a0 : Selected), pR (f0 : Term)] (pB (r)) := by
  unfold m_term_Entailed_1_1 at hm
  refine Spec.mk Tryz.func131 rfl rfl fun B => ?_
  refine TrC.seq ?_
  refine TrC.region rfl ?_
  refine TrL.alloc (AStep.boxK rfl rfl (Lk.t rfl)) rfl (fun b1 => ?_)
  refine L rfl rfl (PStep.assign rfl Lk.c) ?_
  refine TrL.nil ?_
  refine TrE.seq ?_
  refine TrC.seq ?_
  refine TrC.region rfl ?_
  refine L rfl rfl (PStep.faLoc fo59_0 rfl (Lk.t rfl)) ?_
  refine L rfl rfl (PStep.ldLoc 0 Tryz.isAgg9 rfl (Lk.t rfl) rfl rfl) ?_
  refine L rfl rfl (PStep.faRef fo107_0 rfl (Lk.t rfl)) ?_
  refine L rfl rfl (PStep.ldRef Tryz.isAgg9 rfl (Lk.t rfl) rfl) ?_
  refine L rfl rfl (PStep.seql rfl (Lk.t rfl) (Lk.t rfl)) ?_
  refine L rfl rfl (PStep.assign rfl (Lk.t rfl)) ?_
  refine TrL.nil ?_
  refine TrE.seq ?_
  refine TrC.ret (?_)
  cases hm
  exact TrE.retOK (RetOK.eq (show _ = _ from rfl) (RetOK.tmp rfl (Lk.t (t := 3) rfl) (List.nil_sublist _)))
def m_term_Entailed_1 (a0 : Term) (f0 : (List Selected)) : Option (Bool) :=
  bnd (m_slices_ContainsFunc_Selected_Selected f0 ((fun z0 => m_term_Entailed_1_1 z0 a0))) fun x1 => some ((!x1))
theorem s_term_Entailed_1 (a0 : Term) (f0 : (List Selected)) (r : Bool) (hm : m_term_Entailed_1 a0 f0 = some r) : Fn Tryz.prog 130 [pT (a0 : Term), pRef [pSl (f0 : (List Selected))]] (pB (r)) := by
  unfold m_term_Entailed_1 at hm
  refine Spec.mk Tryz.func130 rfl rfl fun B => ?_
  refine TrC.seq ?_
  refine TrC.region rfl ?_
  refine TrL.alloc (AStep.boxK rfl rfl (Lk.t rfl)) rfl (fun b1 => ?_)
  refine L rfl rfl (PStep.assign rfl Lk.c) ?_
  refine TrL.nil ?_
  refine TrE.seq ?_
  refine TrC.seq ?_
  refine TrC.settleC 0 2 rfl rfl ?_
  refine TrC.region rfl ?_
  refine L rfl rfl (PStep.ldRef Tryz.isAgg37 rfl (Lk.t rfl) rfl) ?_
  refine L rfl rfl (PStep.mkFun (ps := fun x : {x : Selected × Bool // (fun z0 => m_term_Entailed_1_1 z0 a0) x.1 = some x.2} => [pT (x.1.1 : Selected)]) (p := fun x => pB (x.1.2)) (fun x => s_term_Entailed_1_1 x.1.1 a0 x.1.2 x.2) Tryz.call131 rfl (LkAll.cons (Lk.t rfl) LkAll.nil)) ?_
  obtain ⟨x1, hx1, hm⟩ := bnd_some hm
  refine L rfl rfl (PStep.call ((s_slices_ContainsFunc_Selected_Selected f0 ((fun z0 => m_term_Entailed_1_1 z0 a0)) x1 hx1)) Tryz.call51 rfl (LkAll.cons (Lk.t rfl) (LkAll.cons (Lk.t rfl) LkAll.nil))) ?_
  refine L rfl rfl (PStep.not rfl (Lk.t rfl)) ?_
  refine L rfl rfl (PStep.assign rfl (Lk.t rfl)) ?_
  refine TrL.nil ?_
  refine TrE.seq ?_
  refine TrC.ret (?_)
  cases hm
  exact TrE.retOK (RetOK.eq (show _ = _ from rfl) (RetOK.tmp rfl (Lk.t (t := 3) rfl) (List.nil_sublist _)))
def m_term_Entailed (a0 : (List Term)) (a1 : (List Selected)) : Option (Bool) :=
  bnd (m_term_Violated a0 a1) fun x1 => bnd (gd (x1 = true) (m_slices_ContainsFunc_Incompatibility_Term a0 ((fun z0 => m_term_Entailed_1 z0 a1)))) fun x2 => some ((x1 && (!x2)))
theorem s_term_Entailed (a0 : (List Term)) (a1 : (List Selected)) (r : Bool) (hm : m_term_Entailed a0 a1 = some r) : Fn Tryz.prog 91 [pSl (a0 : (List Term)), pSl (a1 : (List Selected))] (pB (r)) := by
  unfold m_term_Entailed at hm
  refine Spec.mk Tryz.func91 rfl rfl fun B => ?_
  refine TrC.seq ?_
  refine TrC.region rfl ?_
  refine TrL.alloc (AStep.box1 rfl rfl (Lk.t rfl)) rfl (fun b1 => ?_)
  refine L rfl rfl (PStep.assign rfl Lk.c) ?_
  refine TrL.nil ?_
  refine TrE.seq ?_
  refine TrC.seq ?_
  refine TrC.settleC 0 3 rfl rfl ?_
  refine TrC.region rfl ?_
  refine L rfl rfl (PStep.move rfl (Lk.t rfl)) ?_
  refine L rfl rfl (PStep.ldRef Tryz.isAgg37 rfl (Lk.t rfl) rfl) ?_
  obtain ⟨x1, hx1, hm⟩ := bnd_some hm
  refine L rfl rfl (PStep.call ((s_term_Violated a0 a1 x1 hx1)) Tryz.call26 rfl (LkAll.cons (Lk.t rfl) (LkAll.cons (Lk.t rfl) LkAll.nil))) ?_
  refine L rfl rfl (PStep.move rfl (Lk.t rfl)) ?_
  refine LW rfl (WStep.guard rfl rfl rfl rfl (fun hg => PStep.move rfl (Lk.t rfl))) ?_
  refine LW rfl (WStep.guard rfl rfl rfl rfl (fun hg => PStep.mkFun (ps := fun x : {x : Term × Bool // (fun z0 => m_term_Entailed_1 z0 a1) x.1 = some x.2} => [pT (x.1.1 : Term)]) (p := fun x => pB (x.1.2)) (fun x => s_term_Entailed_1 x.1.1 a1 x.1.2 x.2) Tryz.call130 rfl (LkAll.cons (Lk.t rfl) LkAll.nil))) ?_
  obtain ⟨x2, hx2, hm⟩ := bnd_some hm
  refine LW rfl (WStep.guard rfl rfl rfl rfl (fun hg => PStep.call ((s_slices_ContainsFunc_Incompatibility_Term a0 ((fun z0 => m_term_Entailed_1 z0 a1)) x2 (gd_some hx2 hg))) Tryz.call129 rfl (LkAll.cons (Lk.g rfl hg) (LkAll.cons (Lk.g rfl hg) LkAll.nil)))) ?_
  refine LW rfl (WStep.guard rfl rfl rfl rfl (fun hg => PStep.not rfl (Lk.g rfl hg))) ?_
  refine L rfl rfl (PStep.pickAnd rfl (Lk.t rfl) (fun hq => Lk.g rfl hq)) ?_
  refine L rfl rfl (PStep.assign rfl (Lk.t rfl)) ?_
  refine TrL.nil ?_
  refine TrE.seq ?_
  refine TrC.ret (?_)
  cases hm
  exact TrE.retOK (RetOK.eq (show _ = _ from rfl) (RetOK.tmp rfl (Lk.t (t := 4) rfl) (List.nil_sublist _)))
def m_proof_checker_skipped_L2 (a0 : Checker) (a4 : Release) (a3 : (List Requirement)) (a2 : (List Selected)) (K1 : (List Skip) → Option ((List Skip) × Bool)) : Nat → (List Skip) → Nat → Option ((List Skip) × Bool)
  | 0, _, _ => none
  | n + 1, v2, i1 =>
    (bif (decide ((i1 : Int) < (a0.index_.releases.length : Int))) then (bif (((decide (((ix a0.index_.releases ((i1 : Int)))).path ≠ a4.path)) || ((ix a0.index_.releases ((i1 : Int)))).yanked) || (decide ((placeOf a4.version).1 ≤ (placeOf ((((ix a0.index_.releases ((i1 : Int)))).version))).1))) then m_proof_checker_skipped_L2 a0 a4 a3 a2 K1 n v2 ((i1 + 1))
  else bnd (m_slices_ContainsFunc_Requirement_Requirement a3 ((fun z0 => m_proof_checker_skipped_1 z0 a4 ((placeOf ((((ix a0.index_.releases ((i1 : Int)))).version))).1)))) fun x1 => (bif x1 then m_proof_checker_skipped_L2 a0 a4 a3 a2 K1 n v2 ((i1 + 1))
  else chk (((decide ((v2.length : Int) = (0 : Int))) = false) → 0 ≤ (0 : Int) ∧ (0 : Int) < (v2.length : Int)) <| chk ((((decide ((v2.length : Int) = (0 : Int))) || (decide (((ix v2 ((0 : Int)))).path ≠ a4.path))) = false) → 0 ≤ (0 : Int) ∧ (0 : Int) < (v2.length : Int)) <| chk (((((decide ((v2.length : Int) = (0 : Int))) || (decide (((ix v2 ((0 : Int)))).path ≠ a4.path))) || (decide (((ix v2 ((0 : Int)))).place ≠ (placeOf ((((ix a0.index_.releases ((i1 : Int)))).version))).1))) = false) → 0 ≤ (0 : Int) ∧ (0 : Int) < (v2.length : Int)) <| chk ((((((decide ((v2.length : Int) = (0 : Int))) || (decide (((ix v2 ((0 : Int)))).path ≠ a4.path))) || (decide (((ix v2 ((0 : Int)))).place ≠ (placeOf ((((ix a0.index_.releases ((i1 : Int)))).version))).1))) || (decide (((ix v2 ((0 : Int)))).inference < (0 : Int)))) = false) → 0 ≤ (0 : Int) ∧ (0 : Int) < (v2.length : Int)) <| (bif (((((decide ((v2.length : Int) = (0 : Int))) || (decide (((ix v2 ((0 : Int)))).path ≠ a4.path))) || (decide (((ix v2 ((0 : Int)))).place ≠ (placeOf ((((ix a0.index_.releases ((i1 : Int)))).version))).1))) || (decide (((ix v2 ((0 : Int)))).inference < (0 : Int)))) || (decide ((a0.derived.length : Int) ≤ ((ix v2 ((0 : Int)))).inference))) then some (([] : (List Skip)), false)
  else bnd (m_slices_Clone_Selected_Selected a2) fun x2 => chk (x2.length + (([(⟨((ix a0.index_.releases ((i1 : Int)))).path, (((ix a0.index_.releases ((i1 : Int)))).version)⟩ : Selected)] : (List Selected))).length ≤ 4294967296) <| chk (0 ≤ (0 : Int) ∧ (0 : Int) < (v2.length : Int)) <| chk (0 ≤ ((ix v2 ((0 : Int)))).inference ∧ ((ix v2 ((0 : Int)))).inference < (a0.derived.length : Int)) <| bnd (m_term_Entailed ((ix a0.derived (((ix v2 ((0 : Int)))).inference))) ((x2 ++ ([(⟨((ix a0.index_.releases ((i1 : Int)))).path, (((ix a0.index_.releases ((i1 : Int)))).version)⟩ : Selected)] : (List Selected))))) fun x3 => (bif (!x3) then some (([] : (List Skip)), false)
  else chk (0 ≤ (1 : Int) ∧ (1 : Int) ≤ (v2.length : Int) ∧ (v2.length : Int) ≤ (v2.length : Int)) <| m_proof_checker_skipped_L2 a0 a4 a3 a2 K1 n (((v2.take ((v2.length : Int)).toNat).drop ((1 : Int)).toNat)) ((i1 + 1))))))
  else K1 v2)
def m_proof_checker_skipped (a0 : Checker) (a1 : (List Skip)) (a2 : (List Selected)) (a3 : (List Requirement)) (a4 : Release) : Option ((List Skip) × Bool) :=
  joinM (fun (v1 : (List Skip)) =>
    some (v1, true)) fun K1 =>
    m_proof_checker_skipped_L2 a0 a4 a3 a2 K1 (a0.index_.releases.length + 1) a1 0
theorem s_proof_checker_skipped (a0 : Checker) (a1 : (List Skip)) (a2 : (List Selected)) (a3 : (List Requirement)) (a4 : Release) (r : (List Skip) × Bool) (hm : m_proof_checker_skipped a0 a1 a2 a3 a4 = some r) : Fn Tryz.prog 47 [pR (a0 : Checker), pSl (a1 : (List Skip)), pSl (a2 : (List Selected)), pSl (a3 : (List Requirement)), pT (a4 : Release)] (pTup [pSl (r.1 : (List Skip)), pB (r.2)]) := by
  unfold m_proof_checker_skipped at hm
  refine Spec.mk Tryz.func47 rfl rfl fun B => ?_
  refine TrC.seq ?_
  refine TrC.region rfl ?_
  refine TrL.alloc (AStep.boxK rfl rfl (Lk.t rfl)) rfl (fun b1 => ?_)
  refine L rfl rfl (PStep.assign rfl Lk.c) ?_
  refine L rfl rfl (PStep.assign rfl Lk.c) ?_
  refine TrL.nil ?_
  refine TrE.seq ?_
  refine TrC.seq ?_
  refine TrC.region rfl ?_
  refine L rfl rfl (PStep.faLoc fo89_1 rfl (Lk.t rfl)) ?_
  refine L rfl rfl (PStep.ldLocV (α := Version) (v := a4.version) 0 Tryz.isAgg57 Tryz.sizeOf57 rfl (Lk.t rfl) rfl rfl) ?_
  refine L rfl rfl (PStep.call (s_Place a4.version ) Tryz.call56 rfl (LkAll.cons (Lk.t rfl) LkAll.nil)) ?_
  refine L rfl rfl (PStep.move rfl (Lk.t rfl)) ?_
  refine L rfl rfl (PStep.extract rfl (Lk.t rfl) rfl) ?_
  refine L rfl rfl (PStep.extract rfl (Lk.t rfl) rfl) ?_
  refine L rfl rfl (PStep.assign rfl (Lk.t rfl)) ?_
  refine L rfl rfl (PStep.assign rfl (Lk.t rfl)) ?_
  refine TrL.nil ?_
  refine TrE.seq ?_
  refine TrC.settleC 0 9 rfl rfl ?_
  obtain ⟨K1, hK1, hm⟩ := joinK hm
  refine TrC.meetM (X := (List Skip)) (fun v1 => K1 v1 = some r) (fun v1 => [(1, pSl (v1 : (List Skip)))]) [] (fun v1 => fun A => A) EnvSub.nil ?_ ?_
  · refine TrC.seq ?_
    refine TrC.region rfl ?_
    refine L rfl rfl (PStep.move rfl (Lk.t rfl)) ?_
    refine L rfl rfl (PStep.nilRef rfl (Lk.t rfl)) ?_
    refine L rfl rfl (PStep.faRef fo83_0 rfl (Lk.t rfl)) ?_
    refine L rfl rfl (PStep.faRef fo25_0 rfl (Lk.t rfl)) ?_
    refine L rfl rfl (PStep.ldRef Tryz.isAgg22 rfl (Lk.t rfl) rfl) ?_
    refine L rfl rfl (PStep.len (xs := a0.index_.releases) (tys := #[]) Tryz.runUnderlying22 rfl (Lk.t rfl)) ?_
    refine L rfl rfl (PStep.move rfl Lk.c) ?_
    refine TrL.nil ?_
    refine TrE.seq ?_
    refine TrC.block ?_
    refine TrC.know (Lk.t (t := 1) rfl) pSl.lt fun hl1 => ?_
    refine TrC.know (Lk.t (t := 2) rfl) pSl.lt fun hl2 => ?_
    refine TrC.know (Lk.t (t := 3) rfl) pSl.lt fun hl3 => ?_
    refine TrC.know (Lk.t (t := 29) rfl) pSl.lt fun hl4 => ?_
    refine TrC.loopM (X := Nat × (List Skip) × Nat) (fun ⟨n, v2, i1⟩ => m_proof_checker_skipped_L2 a0 a4 a3 a2 K1 n v2 i1 = some r) (fun ⟨n, v2, i1⟩ => [(1, pSl (v2 : (List Skip))), (31, pI ((i1 : Int)))]) [(0, _), (2, _), (3, _), (9, _), (12, _), (29, _), (30, _)] (fun ⟨n, v2, i1⟩ => fun A => A) (fun ⟨n, v2, i1⟩ => n) (((a0.index_.releases.length + 1 : Nat), a1, 0)) hm ((EnvSub.cons rfl (EnvSub.cons rfl (EnvSub.cons rfl (EnvSub.cons rfl (EnvSub.cons rfl (EnvSub.cons rfl (EnvSub.cons rfl (EnvSub.cons rfl (EnvSub.cons rfl EnvSub.nil)))))))))) rfl ?_
    rintro ⟨n, v2, i1⟩ hm
    obtain ⟨n, rfl⟩ := succ_of (f := fun n => m_proof_checker_skipped_L2 a0 a4 a3 a2 K1 n v2 i1) rfl hm
    change m_proof_checker_skipped_L2 a0 a4 a3 a2 K1 (n + 1) v2 i1 = some r at hm
    rw [m_proof_checker_skipped_L2] at hm
    refine TrC.seq ?_
    refine TrC.region rfl ?_
    refine L rfl rfl (PStep.lss rfl (Lk.t rfl) (Lk.t rfl)) ?_
    refine TrL.nil ?_
    refine TrE.seq ?_
    refine TrC.seq ?_
    refine TrC.condB (Lk.t rfl) (fun hc1 => ?_) (fun hc1 => ?_)
    · have hm := cond_t hm hc1
      have hs1 := hc1
      try simp only [decide_eq_true_eq, decide_eq_false_iff_not, Bool.and_eq_true, Bool.or_eq_true, Bool.not_eq_true', Bool.not_eq_false', Bool.and_eq_false_iff, Bool.or_eq_false_iff] at hs1
      refine TrC.skip ?_
      refine TrE.seq ?_
      refine TrC.seq ?_
      refine TrC.block ?_
      refine TrC.seq ?_
      refine TrC.region rfl ?_
      refine L rfl rfl (PStep.ixD (xs := a0.index_.releases) Tryz.runUnderlying22 Tryz.sizeOf89 rfl (Lk.t rfl) (Lk.t rfl) (by omega)) ?_
      refine L rfl rfl (PStep.ldRefV (α := Release) (v := (ix a0.index_.releases ((i1 : Int)))) Tryz.isAgg89 Tryz.sizeOf89 rfl (Lk.t rfl) rfl) ?_
      refine TrL.alloc (AStep.alloc Tryz.zeroValue89 rfl zc89 rfl rfl) rfl (fun b2 => ?_)
      refine LS rfl rfl (Step.storeW 0 Tryz.sizeOf89 rfl (Lk.t rfl) (Lk.t rfl) rfl rfl rfl) ?_
      refine TrL.nil ?_
      refine TrE.seq ?_
      refine TrC.seq ?_
      refine TrC.region rfl ?_
      refine L rfl rfl (PStep.faLoc fo89_1 rfl (Lk.t rfl)) ?_
      refine L rfl rfl (PStep.ldLocV (α := Version) (v := (((ix a0.index_.releases ((i1 : Int)))).version)) 0 Tryz.isAgg57 Tryz.sizeOf57 rfl (Lk.t rfl) rfl rfl) ?_
      refine L rfl rfl (PStep.call (s_Place ((((ix a0.index_.releases ((i1 : Int)))).version)) ) Tryz.call56 rfl (LkAll.cons (Lk.t rfl) LkAll.nil)) ?_
      refine L rfl rfl (PStep.move rfl (Lk.t rfl)) ?_
      refine L rfl rfl (PStep.extract rfl (Lk.t rfl) rfl) ?_
      refine L rfl rfl (PStep.extract rfl (Lk.t rfl) rfl) ?_
      refine TrL.alloc (AStep.alloc Tryz.zeroValue3 rfl zc3 rfl rfl) rfl (fun b3 => ?_)
      refine LS rfl rfl (Step.store1 0 Tryz.sizeOf3 rfl (Lk.t rfl) (Lk.t rfl) rfl rfl rfl) ?_
      refine L rfl rfl (PStep.assign rfl (Lk.t rfl)) ?_
      refine TrL.nil ?_
      refine TrE.seq ?_
      refine TrC.seq ?_
      refine TrC.seq ?_
      refine TrC.region rfl ?_
      refine L rfl rfl (PStep.faLoc fo89_0 rfl (Lk.t rfl)) ?_
      refine L rfl rfl (PStep.ldLoc 1 Tryz.isAgg9 rfl (Lk.t rfl) rfl rfl) ?_
      refine L rfl rfl (PStep.faRef fo89_0 rfl (Lk.t rfl)) ?_
      refine L rfl rfl (PStep.ldRef Tryz.isAgg9 rfl (Lk.t rfl) rfl) ?_
      refine L rfl rfl (PStep.sneq rfl (Lk.t rfl) (Lk.t rfl)) ?_
      refine L rfl rfl (PStep.move rfl (Lk.t rfl)) ?_
      refine LW rfl (WStep.guard rfl rfl rfl rfl (fun hg => PStep.faLoc fo89_6 rfl (Lk.t rfl))) ?_
      refine LW rfl (WStep.guard rfl rfl rfl rfl (fun hg => PStep.ldLoc 1 Tryz.isAgg4 rfl (Lk.g rfl hg) rfl rfl)) ?_
      refine L rfl rfl (PStep.pickOr rfl (Lk.t rfl) (fun hq => Lk.g rfl hq)) ?_
      refine L rfl rfl (PStep.move rfl (Lk.t rfl)) ?_
      refine LW rfl (WStep.guard rfl rfl rfl rfl (fun hg => PStep.ldLoc 0 Tryz.isAgg3 rfl (Lk.t rfl) rfl rfl)) ?_
      refine LW rfl (WStep.guard rfl rfl rfl rfl (fun hg => PStep.move rfl (Lk.t rfl))) ?_
      refine LW rfl (WStep.guard rfl rfl rfl rfl (fun hg => PStep.geq rfl (Lk.g rfl hg) (Lk.g rfl hg))) ?_
      refine L rfl rfl (PStep.pickOr rfl (Lk.t rfl) (fun hq => Lk.g rfl hq)) ?_
      refine TrL.nil ?_
      refine TrE.seq ?_
      refine TrC.condB (Lk.t rfl) (fun hc2 => ?_) (fun hc2 => ?_)
      · have hm := cond_t hm hc2
        have hs2 := hc2
        try simp only [decide_eq_true_eq, decide_eq_false_iff_not, Bool.and_eq_true, Bool.or_eq_true, Bool.not_eq_true', Bool.not_eq_false', Bool.and_eq_false_iff, Bool.or_eq_false_iff] at hs2
        refine TrC.exit (TrE.thenX <| TrE.blockHit <| ?_)
        refine TrE.seq ?_
        refine TrC.region rfl ?_
        refine L rfl rfl (PStep.add64 rfl (Lk.t rfl) Lk.c (by omega)) ?_
        refine L rfl rfl (PStep.move rfl (Lk.t rfl)) ?_
        refine TrL.nil ?_
        refine TrE.dropF 2 ?_
        refine TrE.again ((n, v2, (i1 + 1))) hm (Nat.lt_succ_self n) ((EnvSub.cons rfl (EnvSub.cons rfl (EnvSub.cons rfl (EnvSub.cons rfl (EnvSub.cons rfl (EnvSub.cons rfl (EnvSub.cons rfl (EnvSub.cons rfl (EnvSub.cons rfl EnvSub.nil)))))))))) rfl
      · have hm := cond_f hm hc2
        have hs2 := hc2
        try simp only [decide_eq_true_eq, decide_eq_false_iff_not, Bool.and_eq_true, Bool.or_eq_true, Bool.not_eq_true', Bool.not_eq_false', Bool.and_eq_false_iff, Bool.or_eq_false_iff] at hs2
        refine TrC.skip ?_
        refine TrE.seq ?_
        refine TrC.seq ?_
        refine TrC.seq ?_
        refine TrC.settleC 0 16 rfl rfl ?_
        refine TrC.region rfl ?_
        refine L rfl rfl (PStep.move rfl (Lk.t rfl)) ?_
        refine L rfl rfl (PStep.mkFun (ps := fun x : {x : Requirement × Bool // (fun z0 => m_proof_checker_skipped_1 z0 a4 ((placeOf ((((ix a0.index_.releases ((i1 : Int)))).version))).1)) x.1 = some x.2} => [pT (x.1.1 : Requirement)]) (p := fun x => pB (x.1.2)) (fun x => s_proof_checker_skipped_1 x.1.1 a4 ((placeOf ((((ix a0.index_.releases ((i1 : Int)))).version))).1) x.1.2 x.2) Tryz.call90 rfl (LkAll.cons (Lk.t rfl) (LkAll.cons (Lk.t rfl) LkAll.nil))) ?_
        obtain ⟨x1, hx1, hm⟩ := bnd_some hm
        refine L rfl rfl (PStep.call ((s_slices_ContainsFunc_Requirement_Requirement a3 ((fun z0 => m_proof_checker_skipped_1 z0 a4 ((placeOf ((((ix a0.index_.releases ((i1 : Int)))).version))).1))) x1 hx1)) Tryz.call89 rfl (LkAll.cons (Lk.t rfl) (LkAll.cons (Lk.t rfl) LkAll.nil))) ?_
        refine TrL.nil ?_
        refine TrE.seq ?_
        refine TrC.condB (Lk.t rfl) (fun hc3 => ?_) (fun hc3 => ?_)
        · have hm := cond_t hm hc3
          have hs3 := hc3
          try simp only [decide_eq_true_eq, decide_eq_false_iff_not, Bool.and_eq_true, Bool.or_eq_true, Bool.not_eq_true', Bool.not_eq_false', Bool.and_eq_false_iff, Bool.or_eq_false_iff] at hs3
          refine TrC.exit (TrE.thenX <| TrE.blockHit <| ?_)
          refine TrE.seq ?_
          refine TrC.region rfl ?_
          refine L rfl rfl (PStep.add64 rfl (Lk.t rfl) Lk.c (by omega)) ?_
          refine L rfl rfl (PStep.move rfl (Lk.t rfl)) ?_
          refine TrL.nil ?_
          refine TrE.dropF 2 ?_
          refine TrE.again ((n, v2, (i1 + 1))) hm (Nat.lt_succ_self n) ((EnvSub.cons rfl (EnvSub.cons rfl (EnvSub.cons rfl (EnvSub.cons rfl (EnvSub.cons rfl (EnvSub.cons rfl (EnvSub.cons rfl (EnvSub.cons rfl (EnvSub.cons rfl EnvSub.nil)))))))))) rfl
        · have hm := cond_f hm hc3
          have hs3 := hc3
          try simp only [decide_eq_true_eq, decide_eq_false_iff_not, Bool.and_eq_true, Bool.or_eq_true, Bool.not_eq_true', Bool.not_eq_false', Bool.and_eq_false_iff, Bool.or_eq_false_iff] at hs3
          refine TrC.skip ?_
          refine TrE.seq ?_
          refine TrC.seq ?_
          refine TrC.seq ?_
          refine TrC.flow 39 mixed rfl (by kernel_rfl) (by kernel_rfl) ?_
          refine F rfl rfl (PStep.move rfl (Lk.t rfl)) ?_
          refine F rfl rfl (PStep.len (xs := v2) (tys := #[]) Tryz.runUnderlying38 rfl (Lk.t rfl)) ?_
          refine F rfl rfl (PStep.eql rfl (Lk.t rfl) Lk.c) ?_
          refine F rfl rfl (PStep.move rfl (Lk.t rfl)) ?_
          refine FW rfl (WStep.guard rfl rfl rfl rfl (fun hg => PStep.move rfl (Lk.t rfl))) ?_
          obtain ⟨hk1, hm⟩ := chk_some hm
          refine FW rfl (WStep.guard rfl rfl rfl rfl (fun hg => PStep.ixD (xs := v2) Tryz.runUnderlying38 Tryz.sizeOf72 rfl (Lk.g rfl hg) Lk.c (hk1 hg))) ?_
          refine FW rfl (WStep.guard rfl rfl rfl rfl (fun hg => PStep.faRef fo72_0 rfl (Lk.g rfl hg))) ?_
          refine FW rfl (WStep.guard rfl rfl rfl rfl (fun hg => PStep.ldRef Tryz.isAgg9 rfl (Lk.g rfl hg) rfl)) ?_
          refine FW rfl (WStep.guard rfl rfl rfl rfl (fun hg => PStep.faRef fo89_0 rfl (Lk.t rfl))) ?_
          refine FW rfl (WStep.guard rfl rfl rfl rfl (fun hg => PStep.ldRef Tryz.isAgg9 rfl (Lk.g rfl hg) rfl)) ?_
          refine FW rfl (WStep.guard rfl rfl rfl rfl (fun hg => PStep.sneq rfl (Lk.g rfl hg) (Lk.g rfl hg))) ?_
          refine F rfl rfl (PStep.pickOr rfl (Lk.t rfl) (fun hq => Lk.g rfl hq)) ?_
          refine F rfl rfl (PStep.move rfl (Lk.t rfl)) ?_
          refine FW rfl (WStep.guard rfl rfl rfl rfl (fun hg => PStep.move rfl (Lk.t rfl))) ?_
          obtain ⟨hk2, hm⟩ := chk_some hm
          refine FW rfl (WStep.guard rfl rfl rfl rfl (fun hg => PStep.ixD (xs := v2) Tryz.runUnderlying38 Tryz.sizeOf72 rfl (Lk.g rfl hg) Lk.c (hk2 hg))) ?_
          refine FW rfl (WStep.guard rfl rfl rfl rfl (fun hg => PStep.faRef fo72_1 rfl (Lk.g rfl hg))) ?_
          refine FW rfl (WStep.guard rfl rfl rfl rfl (fun hg => PStep.ldRef Tryz.isAgg3 rfl (Lk.g rfl hg) rfl)) ?_
          refine FW rfl (WStep.guard rfl rfl rfl rfl (fun hg => PStep.ldRef Tryz.isAgg3 rfl (Lk.t rfl) rfl)) ?_
          refine FW rfl (WStep.guard rfl rfl rfl rfl (fun hg => PStep.neq rfl (Lk.g rfl hg) (Lk.g rfl hg))) ?_
          refine F rfl rfl (PStep.pickOr rfl (Lk.t rfl) (fun hq => Lk.g rfl hq)) ?_
          refine F rfl rfl (PStep.move rfl (Lk.t rfl)) ?_
          refine FW rfl (WStep.guard rfl rfl rfl rfl (fun hg => PStep.move rfl (Lk.t rfl))) ?_
          obtain ⟨hk3, hm⟩ := chk_some hm
          refine FW rfl (WStep.guard rfl rfl rfl rfl (fun hg => PStep.ixD (xs := v2) Tryz.runUnderlying38 Tryz.sizeOf72 rfl (Lk.g rfl hg) Lk.c (hk3 hg))) ?_
          refine FW rfl (WStep.guard rfl rfl rfl rfl (fun hg => PStep.faRef fo72_2 rfl (Lk.g rfl hg))) ?_
          refine FW rfl (WStep.guard rfl rfl rfl rfl (fun hg => PStep.ldRef Tryz.isAgg3 rfl (Lk.g rfl hg) rfl)) ?_
          refine FW rfl (WStep.guard rfl rfl rfl rfl (fun hg => PStep.lss rfl (Lk.g rfl hg) Lk.c)) ?_
          refine F rfl rfl (PStep.pickOr rfl (Lk.t rfl) (fun hq => Lk.g rfl hq)) ?_
          refine F rfl rfl (PStep.move rfl (Lk.t rfl)) ?_
          refine FW rfl (WStep.guard rfl rfl rfl rfl (fun hg => PStep.move rfl (Lk.t rfl))) ?_
          obtain ⟨hk4, hm⟩ := chk_some hm
          refine FW rfl (WStep.guard rfl rfl rfl rfl (fun hg => PStep.ixD (xs := v2) Tryz.runUnderlying38 Tryz.sizeOf72 rfl (Lk.g rfl hg) Lk.c (hk4 hg))) ?_
          refine FW rfl (WStep.guard rfl rfl rfl rfl (fun hg => PStep.faRef fo72_2 rfl (Lk.g rfl hg))) ?_
          refine FW rfl (WStep.guard rfl rfl rfl rfl (fun hg => PStep.ldRef Tryz.isAgg3 rfl (Lk.g rfl hg) rfl)) ?_
          refine FW rfl (WStep.guard rfl rfl rfl rfl (fun hg => PStep.move rfl (Lk.t rfl))) ?_
          refine FW rfl (WStep.guard rfl rfl rfl rfl (fun hg => PStep.nilRef rfl (Lk.g rfl hg))) ?_
          refine FW rfl (WStep.guard rfl rfl rfl rfl (fun hg => PStep.faRef fo83_2 rfl (Lk.g rfl hg))) ?_
          refine FW rfl (WStep.guard rfl rfl rfl rfl (fun hg => PStep.ldRef Tryz.isAgg30 rfl (Lk.g rfl hg) rfl)) ?_
          refine FW rfl (WStep.guard rfl rfl rfl rfl (fun hg => PStep.len (xs := a0.derived) (tys := #[]) Tryz.runUnderlying30 rfl (Lk.g rfl hg))) ?_
          refine FW rfl (WStep.guard rfl rfl rfl rfl (fun hg => PStep.geq rfl (Lk.g rfl hg) (Lk.g rfl hg))) ?_
          refine F rfl rfl (PStep.pickOr rfl (Lk.t rfl) (fun hq => Lk.g rfl hq)) ?_
          refine FlowH.nil ?_
          refine ⟨rfl, ?_⟩
          refine AllocK.none rfl ?_
          refine TrL.nil ?_
          refine TrE.seq ?_
          refine TrC.condB (Lk.t rfl) (fun hc4 => ?_) (fun hc4 => ?_)
          · have hm := cond_t hm hc4
            have hs4 := hc4
            try simp only [decide_eq_true_eq, decide_eq_false_iff_not, Bool.and_eq_true, Bool.or_eq_true, Bool.not_eq_true', Bool.not_eq_false', Bool.and_eq_false_iff, Bool.or_eq_false_iff] at hs4
            refine TrC.seq ?_
            refine TrC.region rfl ?_
            refine L rfl rfl (PStep.assign rfl Lk.c) ?_
            refine L rfl rfl (PStep.assign rfl Lk.c) ?_
            refine TrL.nil ?_
            refine TrE.seq ?_
            refine TrC.ret (TrE.thenR <| TrE.blockR <| TrE.thenR <| TrE.thenR <| TrE.blockR <| TrE.thenR <| ?_)
            cases hm
            exact TrE.retOK (RetOK.eq (show _ = _ from rfl) (RetOK.tmp2 rfl (Lk.nilSl (α := Skip) (Lk.t (t := 10) rfl)) (Lk.t (t := 11) rfl) (List.nil_sublist _)))
          · have hm := cond_f hm hc4
            have hs4 := hc4
            try simp only [decide_eq_true_eq, decide_eq_false_iff_not, Bool.and_eq_true, Bool.or_eq_true, Bool.not_eq_true', Bool.not_eq_false', Bool.and_eq_false_iff, Bool.or_eq_false_iff] at hs4
            refine TrC.skip ?_
            refine TrE.seq ?_
            refine TrC.seq ?_
            refine TrC.flow 8 mixed rfl (by kernel_rfl) (by kernel_rfl) ?_
            refine F rfl rfl (PStep.move rfl (Lk.t rfl)) ?_
            obtain ⟨x2, hx2, hm⟩ := bnd_some hm
            refine FR rfl (AStep.call (s_slices_Clone_Selected_Selected a2 x2 hx2) Tryz.call32 rfl rfl (LkAll.cons (Lk.t rfl) LkAll.nil)) ?_
            refine F rfl rfl (PStep.faLoc fo89_0 rfl (Lk.t rfl)) ?_
            refine F rfl rfl (PStep.ldLoc 1 Tryz.isAgg9 rfl (Lk.t rfl) rfl rfl) ?_
            refine F rfl rfl (PStep.faLoc fo89_1 rfl (Lk.t rfl)) ?_
            refine F rfl rfl (PStep.ldLocV (α := Version) (v := (((ix a0.index_.releases ((i1 : Int)))).version)) 1 Tryz.isAgg57 Tryz.sizeOf57 rfl (Lk.t rfl) rfl rfl) ?_
            refine F rfl rfl (mk59_01 rfl (Lk.t rfl) (Lk.t rfl)) ?_
            refine F rfl rfl (PStep.litX ([(⟨((ix a0.index_.releases ((i1 : Int)))).path, (((ix a0.index_.releases ((i1 : Int)))).version)⟩ : Selected)] : (List Selected)) slT37 rfl ⟨rfl, Lk.agg (Lk.t rfl), trivial⟩ rfl rfl) ?_
            refine FlowH.nil ?_
            refine ⟨rfl, ?_⟩
            refine AllocK.some rfl ?_
            intro r1
            obtain ⟨hk5, hm⟩ := chk_some hm
            refine TrL.append 0 apT37 rfl rfl rfl (Lk.t rfl) (Lk.slX (Lk.t rfl)) rfl (by have := hk5; omega) (fun r2 => ?_)
            refine L rfl rfl (PStep.assign rfl (Lk.t rfl)) ?_
            refine TrL.nil ?_
            refine TrE.seq ?_
            refine TrC.seq ?_
            refine TrC.seq ?_
            refine TrC.share 0 18 rfl rfl ?_
            refine TrC.flow 13 mixed rfl (by kernel_rfl) (by kernel_rfl) ?_
            refine F rfl rfl (PStep.move rfl (Lk.t rfl)) ?_
            refine F rfl rfl (PStep.nilRef rfl (Lk.t rfl)) ?_
            refine F rfl rfl (PStep.faRef fo83_2 rfl (Lk.t rfl)) ?_
            refine F rfl rfl (PStep.ldRef Tryz.isAgg30 rfl (Lk.t rfl) rfl) ?_
            refine F rfl rfl (PStep.move rfl (Lk.t rfl)) ?_
            obtain ⟨hk6, hm⟩ := chk_some hm
            refine F rfl rfl (PStep.ixD (xs := v2) Tryz.runUnderlying38 Tryz.sizeOf72 rfl (Lk.t rfl) Lk.c hk6) ?_
            refine F rfl rfl (PStep.faRef fo72_2 rfl (Lk.t rfl)) ?_
            refine F rfl rfl (PStep.ldRef Tryz.isAgg3 rfl (Lk.t rfl) rfl) ?_
            obtain ⟨hk7, hm⟩ := chk_some hm
            refine F rfl rfl (PStep.ixD (xs := a0.derived) Tryz.runUnderlying30 Tryz.sizeOf51 rfl (Lk.t rfl) (Lk.t rfl) hk7) ?_
            refine F rfl rfl (PStep.ldRef Tryz.isAgg51 rfl (Lk.t rfl) rfl) ?_
            refine F rfl rfl (PStep.move rfl (Lk.t rfl)) ?_
            obtain ⟨x3, hx3, hm⟩ := bnd_some hm
            refine F rfl rfl (PStep.call ((s_term_Entailed ((ix a0.derived (((ix v2 ((0 : Int)))).inference))) ((x2 ++ ([(⟨((ix a0.index_.releases ((i1 : Int)))).path, (((ix a0.index_.releases ((i1 : Int)))).version)⟩ : Selected)] : (List Selected)))) x3 hx3)) Tryz.call91 rfl (LkAll.cons (Lk.t rfl) (LkAll.cons (Lk.shSl (Lk.t rfl)) LkAll.nil))) ?_
            refine F rfl rfl (PStep.not rfl (Lk.t rfl)) ?_
            refine FlowH.nil ?_
            refine ⟨rfl, ?_⟩
            refine AllocK.none rfl ?_
            refine TrL.nil ?_
            refine TrE.seq ?_
            refine TrC.condB (Lk.t rfl) (fun hc5 => ?_) (fun hc5 => ?_)
            · have hm := cond_t hm hc5
              have hs5 := hc5
              try simp only [decide_eq_true_eq, decide_eq_false_iff_not, Bool.and_eq_true, Bool.or_eq_true, Bool.not_eq_true', Bool.not_eq_false', Bool.and_eq_false_iff, Bool.or_eq_false_iff] at hs5
              refine TrC.seq ?_
              refine TrC.region rfl ?_
              refine L rfl rfl (PStep.assign rfl Lk.c) ?_
              refine L rfl rfl (PStep.assign rfl Lk.c) ?_
              refine TrL.nil ?_
              refine TrE.seq ?_
              refine TrC.ret (TrE.thenR <| TrE.blockR <| TrE.thenR <| TrE.thenR <| TrE.blockR <| TrE.thenR <| ?_)
              cases hm
              exact TrE.retOK (RetOK.eq (show _ = _ from rfl) (RetOK.tmp2 rfl (Lk.nilSl (α := Skip) (Lk.t (t := 10) rfl)) (Lk.t (t := 11) rfl) (List.nil_sublist _)))
            · have hm := cond_f hm hc5
              have hs5 := hc5
              try simp only [decide_eq_true_eq, decide_eq_false_iff_not, Bool.and_eq_true, Bool.or_eq_true, Bool.not_eq_true', Bool.not_eq_false', Bool.and_eq_false_iff, Bool.or_eq_false_iff] at hs5
              refine TrC.skip ?_
              refine TrE.seq ?_
              refine TrC.region rfl ?_
              refine L rfl rfl (PStep.move rfl (Lk.t rfl)) ?_
              obtain ⟨hk8, hm⟩ := chk_some hm
              refine L rfl rfl (PStep.slI (xs := v2) ((1 : Int)) ((v2.length : Int)) Tryz.runUnderlying38 Tryz.sizeOf72 rfl (Lk.t rfl) ⟨_, Lk.c⟩ rfl hk8) ?_
              refine L rfl rfl (PStep.assign rfl (Lk.t rfl)) ?_
              refine TrL.nil ?_
              refine TrE.blockN ?_
              refine TrE.seq ?_
              refine TrC.region rfl ?_
              refine L rfl rfl (PStep.add64 rfl (Lk.t rfl) Lk.c (by omega)) ?_
              refine L rfl rfl (PStep.move rfl (Lk.t rfl)) ?_
              refine TrL.nil ?_
              refine TrE.dropF 3 ?_
              refine TrE.again ((n, ((v2.take ((v2.length : Int)).toNat).drop ((1 : Int)).toNat), (i1 + 1))) hm (Nat.lt_succ_self n) ((EnvSub.cons rfl (EnvSub.cons rfl (EnvSub.cons rfl (EnvSub.cons rfl (EnvSub.cons rfl (EnvSub.cons rfl (EnvSub.cons rfl (EnvSub.cons rfl (EnvSub.cons rfl EnvSub.nil)))))))))) rfl
    · have hm := cond_f hm hc1
      have hs1 := hc1
      try simp only [decide_eq_true_eq, decide_eq_false_iff_not, Bool.and_eq_true, Bool.or_eq_true, Bool.not_eq_true', Bool.not_eq_false', Bool.and_eq_false_iff, Bool.or_eq_false_iff] at hs1
      refine TrC.exit (TrE.thenX <| TrE.thenX <| TrE.blockHit <| ?_)
      refine TrE.meetX (v2) hm ((EnvSub.cons rfl EnvSub.nil)) rfl
  · rintro v1 hm
    change K1 v1 = some r at hm
    subst hK1
    refine TrC.seq ?_
    refine TrC.region rfl ?_
    refine L rfl rfl (PStep.move rfl (Lk.t rfl)) ?_
    refine L rfl rfl (PStep.assign rfl (Lk.t rfl)) ?_
    refine L rfl rfl (PStep.assign rfl Lk.c) ?_
    refine TrL.nil ?_
    refine TrE.seq ?_
    refine TrC.ret (?_)
    cases hm
    exact TrE.retOK (RetOK.eq (show _ = _ from rfl) (RetOK.tmp2 rfl (Lk.t (t := 10) rfl) (Lk.t (t := 11) rfl) (List.nil_sublist _)))
def m_proof_Check_1 (a0 : (List Selected)) (a1 : (List Requirement)) (a2 : Release) (f0 : Option Checker) (f1 : (List Skip)) (f2 : Bool) : Option ((List Skip) × Bool) :=
  chk (f0.isSome = true) <| bnd (m_proof_checker_skipped ((f0.getD default)) f1 a0 a1 a2) fun x1 => some (x1.1, ((f2 && x1.2) && (!a2.yanked)))
theorem s_proof_Check_1 (a0 : (List Selected)) (a1 : (List Requirement)) (a2 : Release) (f0 : Option Checker) (f1 : (List Skip)) (f2 : Bool) (bbf1 : Nat) (bbf2 : Nat) (r : (List Skip) × Bool) (hm : m_proof_Check_1 a0 a1 a2 f0 f1 f2 = some r) : SpecX (X := Unit) Tryz.prog 46 [pSl (a0 : (List Selected)), pSl (a1 : (List Requirement)), pT (a2 : Release), pRef [pOpt (f0)], pPtr bbf1 0, pPtr bbf2 0] [hCells bbf1 38 [pSl (f1 : (List Skip))], hCells bbf2 4 [pB (f2)]] (fun z => pTup []) (fun z => [hCells bbf1 38 [pSl (r.1 : (List Skip))], hCells bbf2 4 [pB (r.2)]]) := by
  unfold m_proof_Check_1 at hm
  refine SpecX.mk Tryz.func46 rfl rfl fun B => ?_
  refine TrC.seq ?_
  refine TrC.region rfl ?_
  refine TrL.alloc (AStep.boxK rfl rfl (Lk.t rfl)) rfl (fun b1 => ?_)
  refine TrL.nil ?_
  refine TrE.seq ?_
  refine TrC.seq ?_
  refine TrC.region rfl ?_
  refine L rfl rfl (PStep.ldRef Tryz.isAgg79 rfl (Lk.t rfl) rfl) ?_
  refine L rfl rfl (PStep.ldLoc 1 Tryz.isAgg38 rfl (Lk.t rfl) rfl rfl) ?_
  refine L rfl rfl (PStep.move rfl (Lk.t rfl)) ?_
  refine L rfl rfl (PStep.move rfl (Lk.t rfl)) ?_
  refine L rfl rfl (PStep.ldLocV (α := Release) (v := a2) 0 Tryz.isAgg89 Tryz.sizeOf89 rfl (Lk.t rfl) rfl rfl) ?_
  obtain ⟨hk1, hm⟩ := chk_some hm
  obtain ⟨x1, hx1, hm⟩ := bnd_some hm
  refine L rfl rfl (PStep.call ((s_proof_checker_skipped ((f0.getD default)) f1 a0 a1 a2 x1 hx1)) Tryz.call47 rfl (LkAll.cons (Lk.optRef (Lk.t rfl) hk1) (LkAll.cons (Lk.t rfl) (LkAll.cons (Lk.t rfl) (LkAll.cons (Lk.t rfl) (LkAll.cons (Lk.t rfl) LkAll.nil)))))) ?_
  refine L rfl rfl (PStep.move rfl (Lk.t rfl)) ?_
  refine L rfl rfl (PStep.extract rfl (Lk.t rfl) rfl) ?_
  refine L rfl rfl (PStep.extract rfl (Lk.t rfl) rfl) ?_
  refine L rfl rfl (PStep.assign rfl (Lk.t rfl)) ?_
  refine L rfl rfl (PStep.assign rfl (Lk.t rfl)) ?_
  refine TrL.nil ?_
  refine TrE.seq ?_
  refine TrC.seq ?_
  refine TrC.region rfl ?_
  refine L rfl rfl (PStep.ldLoc 2 Tryz.isAgg4 rfl (Lk.t rfl) rfl rfl) ?_
  refine L rfl rfl (PStep.move rfl (Lk.t rfl)) ?_
  refine LW rfl (WStep.guard rfl rfl rfl rfl (fun hg => PStep.move rfl (Lk.t rfl))) ?_
  refine L rfl rfl (PStep.pickAnd rfl (Lk.t rfl) (fun hq => Lk.g rfl hq)) ?_
  refine L rfl rfl (PStep.move rfl (Lk.t rfl)) ?_
  refine LW rfl (WStep.guard rfl rfl rfl rfl (fun hg => PStep.faLoc fo89_6 rfl (Lk.t rfl))) ?_
  refine LW rfl (WStep.guard rfl rfl rfl rfl (fun hg => PStep.ldLoc 0 Tryz.isAgg4 rfl (Lk.g rfl hg) rfl rfl)) ?_
  refine LW rfl (WStep.guard rfl rfl rfl rfl (fun hg => PStep.not rfl (Lk.g rfl hg))) ?_
  refine L rfl rfl (PStep.pickAnd rfl (Lk.t rfl) (fun hq => Lk.g rfl hq)) ?_
  refine LS rfl rfl (Step.store1 2 Tryz.sizeOf4 rfl (Lk.t rfl) (Lk.t rfl) rfl rfl rfl) ?_
  refine TrL.nil ?_
  refine TrE.seq ?_
  refine TrC.region rfl ?_
  refine L rfl rfl (PStep.move rfl (Lk.t rfl)) ?_
  refine LS rfl rfl (Step.store1 1 Tryz.sizeOf38 rfl (Lk.t rfl) (Lk.t rfl) rfl rfl rfl) ?_
  refine TrL.nil ?_
  cases hm
  exact TrE.endOKX (RetOKX.of (()) (RetOK.eq (show _ = _ from rfl) (RetOK.zero rfl (List.Sublist.cons _ (List.Sublist.cons_cons _ (List.Sublist.cons_cons _ (List.nil_sublist _)))))))
def m_proof_checker_decide_proof_Check_1_L9 (l2 : (List Requirement)) (l1 : (List Selected)) (K1 : ByteArray → Bool → Option (Bool × (List Skip) × Bool)) : Nat → ByteArray → Bool → Nat → Option (Bool × (List Skip) × Bool)
  | 0, _, _, _ => none
  | n + 1, c4, v2, i1 =>
    (bif (decide ((i1 : Int) < (l2.length : Int))) then bnd (m_slices_ContainsFunc_Selected_Selected l1 ((fun z0 => m_proof_checker_decide_1 z0 (((ix l2 ((i1 : Int)))))))) fun x5 => (bif ((!x5) && ((!v2) || (strLt ((((ix l2 ((i1 : Int))))).path) c4))) then m_proof_checker_decide_proof_Check_1_L9 l2 l1 K1 n ((((ix l2 ((i1 : Int))))).path) true ((i1 + 1))
  else m_proof_checker_decide_proof_Check_1_L9 l2 l1 K1 n c4 v2 ((i1 + 1)))
  else K1 c4 v2)
def m_proof_checker_decide_proof_Check_1_L7 (a1 : (List Selected)) (a0 : Checker) (c2_0 : Option Checker) : Nat → (List Selected) → (List Requirement) → (List Skip) → Bool → Option (Bool × (List Skip) × Bool)
  | 0, _, _, _, _ => none
  | n + 1, l1, l2, c1, c2 =>
    joinM (fun (c3 : ByteArray) (v1 : Bool) =>
    (bif (!v1) then some (true, c1, c2)
  else bnd (m_slices_IndexFunc_Selected_Selected a1 ((fun z0 => m_proof_checker_decide_2 z0 c3))) fun x2 => (bif (decide (x2 < (0 : Int))) then some (false, c1, c2)
  else chk (0 ≤ x2 ∧ x2 < (a1.length : Int)) <| chk (0 ≤ x2 ∧ x2 < (a1.length : Int)) <| bnd (m_index_Find a0.index_ (((ix a1 x2)).path) (((ix a1 x2)).version)) fun x3 => (bif (!x3.2) then some (false, c1, c2)
  else bnd (m_proof_Check_1 l1 l2 x3.1 c2_0 c1 c2) fun x4 => chk (0 ≤ x2 ∧ x2 < (a1.length : Int)) <| chk (l1.length + (([(ix a1 x2)] : (List Selected))).length ≤ 4294967296) <| chk (l2.length + x3.1.requirements.length ≤ 4294967296) <| m_proof_checker_decide_proof_Check_1_L7 a1 a0 c2_0 n ((l1 ++ ([(ix a1 x2)] : (List Selected)))) ((l2 ++ x3.1.requirements)) x4.1 x4.2)))) fun K1 =>
    m_proof_checker_decide_proof_Check_1_L9 l2 l1 K1 (l2.length + 1) ((⟨#[]⟩ : ByteArray)) false 0
def m_proof_checker_decide_proof_Check_1 (a0 : Checker) (a1 : (List Selected)) (c2_0 : Option Checker) (c2_1 : (List Skip)) (c2_2 : Bool) : Option (Bool × (List Skip) × Bool) :=
  bnd (m_slices_Clone_Requirement_Requirement a0.roots_) fun x1 => m_proof_checker_decide_proof_Check_1_L7 a1 a0 c2_0 (100000) (([] : (List Selected))) x1 c2_1 c2_2
theorem s_proof_checker_decide_proof_Check_1 (a0 : Checker) (a1 : (List Selected)) (c2_0 : Option Checker) (c2_1 : (List Skip)) (c2_2 : Bool) (bb2_1 : Nat) (bb2_2 : Nat) (r : Bool × (List Skip) × Bool) (hm : m_proof_checker_decide_proof_Check_1 a0 a1 c2_0 c2_1 c2_2 = some r) : SpecX (X := Unit) Tryz.prog 42 [pR (a0 : Checker), pSl (a1 : (List Selected)), pClo 46 [pRef [pOpt (c2_0)], pPtr bb2_1 0, pPtr bb2_2 0]] [hCells bb2_1 38 [pSl (c2_1 : (List Skip))], hCells bb2_2 4 [pB (c2_2)]] (fun z => pB (r.1)) (fun z => [hCells bb2_1 38 [pSl (r.2.1 : (List Skip))], hCells bb2_2 4 [pB (r.2.2)]]) := by
  unfold m_proof_checker_decide_proof_Check_1 at hm
  refine SpecX.mk Tryz.func42 rfl rfl fun B => ?_
  refine TrC.seq ?_
  refine TrC.region rfl ?_
  refine L rfl rfl (PStep.assign rfl Lk.c) ?_
  refine TrL.nil ?_
  refine TrE.seq ?_
  refine TrC.seq ?_
  refine TrC.region rfl ?_
  refine L rfl rfl (PStep.move rfl (Lk.t rfl)) ?_
  refine L rfl rfl (PStep.nilRef rfl (Lk.t rfl)) ?_
  refine L rfl rfl (PStep.faRef fo83_1 rfl (Lk.t rfl)) ?_
  refine L rfl rfl (PStep.ldRef Tryz.isAgg26 rfl (Lk.t rfl) rfl) ?_
  obtain ⟨x1, hx1, hm⟩ := bnd_some hm
  refine TrL.allocG (AStep.call (s_slices_Clone_Requirement_Requirement a0.roots_ x1 hx1) Tryz.call76 rfl rfl (LkAll.cons (Lk.t rfl) LkAll.nil)) rfl (fun r1 => ?_)
  refine L rfl rfl (PStep.assign rfl (Lk.t rfl)) ?_
  refine TrL.nil ?_
  refine TrE.seq ?_
  refine TrC.seq ?_
  refine TrC.region rfl ?_
  refine L rfl rfl (PStep.assign rfl Lk.c) ?_
  refine TrL.nil ?_
  refine TrE.seq ?_
  refine TrC.block ?_
  refine TrC.lay (hRow false 59 .nil (([] : (List Selected)) : (List Selected))) rfl ?_
  refine TrC.know (Lk.t (t := 1) rfl) pSl.lt fun hl1 => ?_
  refine TrC.knowA 1 7 rfl rfl fun hl2 => ?_
  refine TrC.grow 0 rfl ?_
  refine TrC.grow 1 rfl ?_
  refine TrC.loopM (X := Nat × (List Selected) × (List Requirement) × (List Skip) × Bool × OS × OS) (fun ⟨n, l1, l2, c1, c2, o1, o2⟩ => m_proof_checker_decide_proof_Check_1_L7 a1 a0 c2_0 n l1 l2 c1 c2 = some r) (fun ⟨n, l1, l2, c1, c2, o1, o2⟩ => [(7, pOwn o2 (l2 : (List Requirement))), (8, pOwn o1 (l1 : (List Selected)))]) [(0, _), (1, _), (2, _)] (fun ⟨n, l1, l2, c1, c2, o1, o2⟩ => fun A => (List.set (List.set (List.set (List.set A 0 (hRow true 59 o1 (l1 : (List Selected)))) 1 (hRow true 120 o2 (l2 : (List Requirement)))) 2 (hCells bb2_1 38 [pSl (c1 : (List Skip))])) 3 (hCells bb2_2 4 [pB (c2)]))) (fun ⟨n, l1, l2, c1, c2, o1, o2⟩ => n) (((100000 : Nat), ([] : (List Selected)), x1, c2_1, c2_2, .nil, r1)) hm ((EnvSub.cons rfl (EnvSub.consI rfl nilOwn (EnvSub.cons rfl (EnvSub.cons rfl (EnvSub.cons rfl EnvSub.nil)))))) rfl ?_
  rintro ⟨n, l1, l2, c1, c2, o1, o2⟩ hm
  obtain ⟨n, rfl⟩ := succ_of (f := fun n => m_proof_checker_decide_proof_Check_1_L7 a1 a0 c2_0 n l1 l2 c1 c2) rfl hm
  change m_proof_checker_decide_proof_Check_1_L7 a1 a0 c2_0 (n + 1) l1 l2 c1 c2 = some r at hm
  rw [m_proof_checker_decide_proof_Check_1_L7] at hm
  refine TrC.block ?_
  refine TrC.seq ?_
  refine TrC.region rfl ?_
  refine TrL.alloc (AStep.alloc Tryz.zeroValue9 rfl zc9 rfl rfl) rfl (fun b1 => ?_)
  refine LS rfl rfl (Step.store1 0 Tryz.sizeOf9 rfl (Lk.t rfl) (show Lk _ _ (pS ((⟨#[]⟩ : ByteArray))) from Lk.c) rfl rfl rfl) ?_
  refine TrL.nil ?_
  refine TrE.seq ?_
  refine TrC.seq ?_
  refine TrC.region rfl ?_
  refine L rfl rfl (PStep.assign rfl Lk.c) ?_
  refine TrL.nil ?_
  refine TrE.seq ?_
  obtain ⟨K1, hK1, hm⟩ := joinK hm
  refine TrC.meetM (X := ByteArray × Bool) (fun ⟨c3, v1⟩ => K1 c3 v1 = some r) (fun ⟨c3, v1⟩ => [(10, pB (v1))]) [(0, _), (1, _), (2, _), (7, _), (8, _), (9, _)] (fun ⟨c3, v1⟩ => fun A => (List.set A 0 (hCells b1 9 [pS (c3)]))) (EnvSub.cons rfl (EnvSub.cons rfl (EnvSub.cons rfl (EnvSub.cons rfl (EnvSub.cons rfl (EnvSub.cons rfl EnvSub.nil)))))) ?_ ?_
  · refine TrC.seq ?_
    refine TrC.region rfl ?_
    refine L rfl rfl (PStep.move rfl (Lk.t rfl)) ?_
    refine L rfl rfl (PStep.lenOwn (xs := l2) Tryz.runUnderlying26 rfl (Lk.t rfl)) ?_
    refine L rfl rfl (PStep.move rfl Lk.c) ?_
    refine TrL.nil ?_
    refine TrE.seq ?_
    refine TrC.block ?_
    refine TrC.know (Lk.t (t := 1) rfl) pSl.lt fun hl3 => ?_
    refine TrC.knowA 2 7 rfl rfl fun hl4 => ?_
    refine TrC.loopM (X := Nat × ByteArray × Bool × Nat) (fun ⟨n, c4, v2, i1⟩ => m_proof_checker_decide_proof_Check_1_L9 l2 l1 K1 n c4 v2 i1 = some r) (fun ⟨n, c4, v2, i1⟩ => [(10, pB (v2)), (24, pI ((i1 : Int)))]) [(0, _), (1, _), (2, _), (7, _), (8, _), (9, _), (22, _), (23, _)] (fun ⟨n, c4, v2, i1⟩ => fun A => (List.set A 0 (hCells b1 9 [pS (c4)]))) (fun ⟨n, c4, v2, i1⟩ => n) (((l2.length + 1 : Nat), (⟨#[]⟩ : ByteArray), false, 0)) hm ((EnvSub.cons rfl (EnvSub.cons rfl (EnvSub.cons rfl (EnvSub.cons rfl (EnvSub.cons rfl (EnvSub.cons rfl (EnvSub.cons rfl (EnvSub.cons rfl (EnvSub.cons rfl (EnvSub.cons rfl EnvSub.nil))))))))))) rfl ?_
    rintro ⟨n, c4, v2, i1⟩ hm
    obtain ⟨n, rfl⟩ := succ_of (f := fun n => m_proof_checker_decide_proof_Check_1_L9 l2 l1 K1 n c4 v2 i1) rfl hm
    change m_proof_checker_decide_proof_Check_1_L9 l2 l1 K1 (n + 1) c4 v2 i1 = some r at hm
    rw [m_proof_checker_decide_proof_Check_1_L9] at hm
    refine TrC.seq ?_
    refine TrC.region rfl ?_
    refine L rfl rfl (PStep.lss rfl (Lk.t rfl) (Lk.t rfl)) ?_
    refine TrL.nil ?_
    refine TrE.seq ?_
    refine TrC.seq ?_
    refine TrC.condB (Lk.t rfl) (fun hc4 => ?_) (fun hc4 => ?_)
    · have hm := cond_t hm hc4
      have hs4 := hc4
      try simp only [decide_eq_true_eq, decide_eq_false_iff_not, Bool.and_eq_true, Bool.or_eq_true, Bool.not_eq_true', Bool.not_eq_false', Bool.and_eq_false_iff, Bool.or_eq_false_iff] at hs4
      refine TrC.skip ?_
      refine TrE.seq ?_
      refine TrC.seq ?_
      refine TrC.block ?_
      refine TrC.seq ?_
      refine TrC.region rfl ?_
      refine L rfl rfl (PStep.ixOwnI (α := Requirement) Tryz.runUnderlying26 Tryz.sizeOf120 rfl (Lk.t rfl) (Lk.t rfl) (by omega)) ?_
      refine L rfl rfl (PStep.ldOwnKI 2 Tryz.isAgg120 Tryz.sizeOf120 rfl (Lk.t rfl) rfl (by omega)) ?_
      refine TrL.alloc (AStep.alloc Tryz.zeroValue120 rfl zc120 rfl rfl) rfl (fun b2 => ?_)
      refine LS rfl rfl (Step.storeW 0 Tryz.sizeOf120 rfl (Lk.t rfl) (Lk.t rfl) rfl rfl rfl) ?_
      refine TrL.nil ?_
      refine TrE.seq ?_
      refine TrC.seq ?_
      refine TrC.share 2 8 rfl rfl ?_
      refine TrC.settleC 0 12 rfl rfl ?_
      refine TrC.region rfl ?_
      refine L rfl rfl (PStep.move rfl (Lk.t rfl)) ?_
      refine L rfl rfl (PStep.mkFun (ps := fun x : {x : Selected × Bool // (fun z0 => m_proof_checker_decide_1 z0 (((ix l2 ((i1 : Int)))))) x.1 = some x.2} => [pT (x.1.1 : Selected)]) (p := fun x => pB (x.1.2)) (fun x => s_proof_checker_decide_1 x.1.1 (((ix l2 ((i1 : Int))))) x.1.2 x.2) Tryz.call77 rfl (LkAll.cons (Lk.t rfl) LkAll.nil)) ?_
      obtain ⟨x5, hx5, hm⟩ := bnd_some hm
      refine L rfl rfl (PStep.call ((s_slices_ContainsFunc_Selected_Selected l1 ((fun z0 => m_proof_checker_decide_1 z0 (((ix l2 ((i1 : Int))))))) x5 hx5)) Tryz.call51 rfl (LkAll.cons (Lk.shSl (Lk.t rfl)) (LkAll.cons (Lk.t rfl) LkAll.nil))) ?_
      refine L rfl rfl (PStep.assign rfl (Lk.t rfl)) ?_
      refine TrL.nil ?_
      refine TrE.seq ?_
      refine TrC.seq ?_
      refine TrC.region rfl ?_
      refine L rfl rfl (PStep.move rfl (Lk.t rfl)) ?_
      refine L rfl rfl (PStep.not rfl (Lk.t rfl)) ?_
      refine L rfl rfl (PStep.move rfl (Lk.t rfl)) ?_
      refine LW rfl (WStep.guard rfl rfl rfl rfl (fun hg => PStep.move rfl (Lk.t rfl))) ?_
      refine LW rfl (WStep.guard rfl rfl rfl rfl (fun hg => PStep.not rfl (Lk.g rfl hg))) ?_
      refine LW rfl (WStep.guard rfl rfl rfl rfl (fun hg => PStep.move rfl (Lk.g rfl hg))) ?_
      refine LW rfl (WStep.guard2 rfl rfl rfl rfl (fun hg => PStep.faRef fo120_0 rfl (Lk.t rfl))) ?_
      refine LW rfl (WStep.guard2 rfl rfl rfl rfl (fun hg => PStep.ldRef Tryz.isAgg9 rfl (Lk.g rfl hg) rfl)) ?_
      refine LW rfl (WStep.guard2 rfl rfl rfl rfl (fun hg => PStep.ldLoc 1 Tryz.isAgg9 rfl (Lk.t rfl) rfl rfl)) ?_
      refine LW rfl (WStep.guard2 rfl rfl rfl rfl (fun hg => PStep.slss rfl (Lk.g rfl hg) (Lk.g rfl hg))) ?_
      refine LW rfl (WStep.guard rfl rfl rfl rfl (fun hg => PStep.pickOr rfl (Lk.g rfl hg) (fun hq => Lk.g rfl ⟨hg, hq⟩))) ?_
      refine L rfl rfl (PStep.pickAnd rfl (Lk.t rfl) (fun hq => Lk.g rfl hq)) ?_
      refine TrL.nil ?_
      refine TrE.seq ?_
      refine TrC.condB (Lk.t rfl) (fun hc5 => ?_) (fun hc5 => ?_)
      · have hm := cond_t hm hc5
        have hs5 := hc5
        try simp only [decide_eq_true_eq, decide_eq_false_iff_not, Bool.and_eq_true, Bool.or_eq_true, Bool.not_eq_true', Bool.not_eq_false', Bool.and_eq_false_iff, Bool.or_eq_false_iff] at hs5
        refine TrC.region rfl ?_
        refine L rfl rfl (PStep.faRef fo120_0 rfl (Lk.t rfl)) ?_
        refine L rfl rfl (PStep.ldRef Tryz.isAgg9 rfl (Lk.t rfl) rfl) ?_
        refine LS rfl rfl (Step.store1 1 Tryz.sizeOf9 rfl (Lk.t rfl) (Lk.t rfl) rfl rfl rfl) ?_
        refine L rfl rfl (PStep.assign rfl Lk.c) ?_
        refine TrL.nil ?_
        refine TrE.blockN ?_
        refine TrE.seq ?_
        refine TrC.region rfl ?_
        refine L rfl rfl (PStep.add64 rfl (Lk.t rfl) Lk.c (by omega)) ?_
        refine L rfl rfl (PStep.move rfl (Lk.t rfl)) ?_
        refine TrL.nil ?_
        refine TrE.dropF 1 ?_
        refine TrE.again ((n, (((ix l2 ((i1 : Int))))).path, true, (i1 + 1))) hm (Nat.lt_succ_self n) ((EnvSub.cons rfl (EnvSub.cons rfl (EnvSub.cons rfl (EnvSub.cons rfl (EnvSub.cons rfl (EnvSub.cons rfl (EnvSub.consI rfl (fun _ _ h => h.1) (EnvSub.cons rfl (EnvSub.cons rfl (EnvSub.cons rfl EnvSub.nil))))))))))) rfl
      · have hm := cond_f hm hc5
        have hs5 := hc5
        try simp only [decide_eq_true_eq, decide_eq_false_iff_not, Bool.and_eq_true, Bool.or_eq_true, Bool.not_eq_true', Bool.not_eq_false', Bool.and_eq_false_iff, Bool.or_eq_false_iff] at hs5
        refine TrC.skip ?_
        refine TrE.blockN ?_
        refine TrE.seq ?_
        refine TrC.region rfl ?_
        refine L rfl rfl (PStep.add64 rfl (Lk.t rfl) Lk.c (by omega)) ?_
        refine L rfl rfl (PStep.move rfl (Lk.t rfl)) ?_
        refine TrL.nil ?_
        refine TrE.dropF 1 ?_
        refine TrE.again ((n, c4, v2, (i1 + 1))) hm (Nat.lt_succ_self n) ((EnvSub.cons rfl (EnvSub.cons rfl (EnvSub.cons rfl (EnvSub.cons rfl (EnvSub.cons rfl (EnvSub.cons rfl (EnvSub.consI rfl (fun _ _ h => h.1) (EnvSub.cons rfl (EnvSub.cons rfl (EnvSub.cons rfl EnvSub.nil))))))))))) rfl
    · have hm := cond_f hm hc4
      have hs4 := hc4
      try simp only [decide_eq_true_eq, decide_eq_false_iff_not, Bool.and_eq_true, Bool.or_eq_true, Bool.not_eq_true', Bool.not_eq_false', Bool.and_eq_false_iff, Bool.or_eq_false_iff] at hs4
      refine TrC.exit (TrE.thenX <| TrE.thenX <| TrE.blockHit <| ?_)
      refine TrE.meetX ((c4, v2)) hm ((EnvSub.cons rfl (EnvSub.cons rfl (EnvSub.cons rfl (EnvSub.cons rfl (EnvSub.cons rfl (EnvSub.cons rfl (EnvSub.cons rfl EnvSub.nil)))))))) rfl
  · rintro ⟨c3, v1⟩ hm
    change K1 c3 v1 = some r at hm
    subst hK1
    refine TrC.seq ?_
    refine TrC.seq ?_
    refine TrC.region rfl ?_
    refine L rfl rfl (PStep.move rfl (Lk.t rfl)) ?_
    refine L rfl rfl (PStep.not rfl (Lk.t rfl)) ?_
    refine TrL.nil ?_
    refine TrE.seq ?_
    refine TrC.condB (Lk.t rfl) (fun hc1 => ?_) (fun hc1 => ?_)
    · have hm := cond_t hm hc1
      have hs1 := hc1
      try simp only [decide_eq_true_eq, decide_eq_false_iff_not, Bool.and_eq_true, Bool.or_eq_true, Bool.not_eq_true', Bool.not_eq_false', Bool.and_eq_false_iff, Bool.or_eq_false_iff] at hs1
      refine TrC.seq ?_
      refine TrC.region rfl ?_
      refine L rfl rfl (PStep.assign rfl Lk.c) ?_
      refine TrL.nil ?_
      refine TrE.seq ?_
      refine TrC.ret (TrE.thenR <| TrE.blockR <| TrE.thenR <| TrE.blockR <| ?_)
      cases hm
      exact TrE.retOKX (RetOKX.of (()) (RetOK.eq (show _ = _ from rfl) (RetOK.tmp rfl (Lk.t (t := 6) rfl) (List.Sublist.cons _ (List.Sublist.cons _ (List.Sublist.cons _ (List.Sublist.cons_cons _ (List.Sublist.cons_cons _ (List.nil_sublist _)))))))))
    · have hm := cond_f hm hc1
      have hs1 := hc1
      try simp only [decide_eq_true_eq, decide_eq_false_iff_not, Bool.and_eq_true, Bool.or_eq_true, Bool.not_eq_true', Bool.not_eq_false', Bool.and_eq_false_iff, Bool.or_eq_false_iff] at hs1
      refine TrC.skip ?_
      refine TrE.seq ?_
      refine TrC.seq ?_
      refine TrC.settleC 0 9 rfl rfl ?_
      refine TrC.region rfl ?_
      refine L rfl rfl (PStep.move rfl (Lk.t rfl)) ?_
      refine L rfl rfl (PStep.mkFun (ps := fun x : {x : Selected × Bool // (fun z0 => m_proof_checker_decide_2 z0 c3) x.1 = some x.2} => [pT (x.1.1 : Selected)]) (p := fun x => pB (x.1.2)) (fun x => s_proof_checker_decide_2 x.1.1 c3 x.1.2 x.2) Tryz.call79 rfl (LkAll.cons (Lk.t rfl) LkAll.nil)) ?_
      obtain ⟨x2, hx2, hm⟩ := bnd_some hm
      refine L rfl rfl (PStep.call ((s_slices_IndexFunc_Selected_Selected a1 ((fun z0 => m_proof_checker_decide_2 z0 c3)) x2 hx2)) Tryz.call78 rfl (LkAll.cons (Lk.t rfl) (LkAll.cons (Lk.t rfl) LkAll.nil))) ?_
      refine L rfl rfl (PStep.assign rfl (Lk.t rfl)) ?_
      refine TrL.nil ?_
      refine TrE.seq ?_
      refine TrC.seq ?_
      refine TrC.seq ?_
      refine TrC.region rfl ?_
      refine L rfl rfl (PStep.move rfl (Lk.t rfl)) ?_
      refine L rfl rfl (PStep.lss rfl (Lk.t rfl) Lk.c) ?_
      refine TrL.nil ?_
      refine TrE.seq ?_
      refine TrC.condB (Lk.t rfl) (fun hc2 => ?_) (fun hc2 => ?_)
      · have hm := cond_t hm hc2
        have hs2 := hc2
        try simp only [decide_eq_true_eq, decide_eq_false_iff_not, Bool.and_eq_true, Bool.or_eq_true, Bool.not_eq_true', Bool.not_eq_false', Bool.and_eq_false_iff, Bool.or_eq_false_iff] at hs2
        refine TrC.seq ?_
        refine TrC.region rfl ?_
        refine L rfl rfl (PStep.assign rfl Lk.c) ?_
        refine TrL.nil ?_
        refine TrE.seq ?_
        refine TrC.ret (TrE.thenR <| TrE.blockR <| TrE.thenR <| TrE.blockR <| ?_)
        cases hm
        exact TrE.retOKX (RetOKX.of (()) (RetOK.eq (show _ = _ from rfl) (RetOK.tmp rfl (Lk.t (t := 6) rfl) (List.Sublist.cons _ (List.Sublist.cons _ (List.Sublist.cons _ (List.Sublist.cons_cons _ (List.Sublist.cons_cons _ (List.nil_sublist _)))))))))
      · have hm := cond_f hm hc2
        have hs2 := hc2
        try simp only [decide_eq_true_eq, decide_eq_false_iff_not, Bool.and_eq_true, Bool.or_eq_true, Bool.not_eq_true', Bool.not_eq_false', Bool.and_eq_false_iff, Bool.or_eq_false_iff] at hs2
        refine TrC.skip ?_
        refine TrE.seq ?_
        refine TrC.seq ?_
        refine TrC.lin0 20 mixed rfl (by kernel_rfl) (by kernel_rfl) rfl ?_
        refine M rfl rfl (PStep.move rfl (Lk.t rfl)) ?_
        refine M rfl rfl (PStep.nilRef rfl (Lk.t rfl)) ?_
        refine M rfl rfl (PStep.faRef fo83_0 rfl (Lk.t rfl)) ?_
        refine M rfl rfl (PStep.ldRefV (α := Index) (v := a0.index_) Tryz.isAgg25 Tryz.sizeOf25 rfl (Lk.t rfl) rfl) ?_
        refine M rfl rfl (PStep.move rfl (Lk.t rfl)) ?_
        refine M rfl rfl (PStep.move rfl (Lk.t rfl)) ?_
        obtain ⟨hk1, hm⟩ := chk_some hm
        refine M rfl rfl (PStep.ixD (xs := a1) Tryz.runUnderlying37 Tryz.sizeOf59 rfl (Lk.t rfl) (Lk.t rfl) hk1) ?_
        refine M rfl rfl (PStep.faRef fo59_0 rfl (Lk.t rfl)) ?_
        refine M rfl rfl (PStep.ldRef Tryz.isAgg9 rfl (Lk.t rfl) rfl) ?_
        refine M rfl rfl (PStep.move rfl (Lk.t rfl)) ?_
        refine M rfl rfl (PStep.move rfl (Lk.t rfl)) ?_
        obtain ⟨hk2, hm⟩ := chk_some hm
        refine M rfl rfl (PStep.ixD (xs := a1) Tryz.runUnderlying37 Tryz.sizeOf59 rfl (Lk.t rfl) (Lk.t rfl) hk2) ?_
        refine M rfl rfl (PStep.faRef fo59_1 rfl (Lk.t rfl)) ?_
        refine M rfl rfl (PStep.ldRefV (α := Version) (v := ((ix a1 x2)).version) Tryz.isAgg57 Tryz.sizeOf57 rfl (Lk.t rfl) rfl) ?_
        obtain ⟨x3, hx3, hm⟩ := bnd_some hm
        refine M rfl rfl (PStep.call ((s_index_Find a0.index_ (((ix a1 x2)).path) (((ix a1 x2)).version) x3 hx3)) Tryz.call53 rfl (LkAll.cons (Lk.t rfl) (LkAll.cons (Lk.t rfl) (LkAll.cons (Lk.t rfl) LkAll.nil)))) ?_
        refine M rfl rfl (PStep.move rfl (Lk.t rfl)) ?_
        refine M rfl rfl (PStep.extract rfl (Lk.t rfl) rfl) ?_
        refine M rfl rfl (PStep.extract rfl (Lk.t rfl) rfl) ?_
        refine MA rfl (AStep.alloc Tryz.zeroValue89 rfl zc89 rfl rfl) ?_
        refine MS 18 18 18 15 (fun z => pPtr z.b 0) (fun z => hCells z.b 89 [pS (ByteArray.empty), pI (0), pI (0), pI (0), pSl (([] : (List Requirement)) : (List Requirement)), pS (ByteArray.empty), pS (ByteArray.empty), pS (ByteArray.empty), pB (false)]) (h := (fun z => hCells z.b 89 [pS (x3.1.path), pI (x3.1.version.major), pI (x3.1.version.minor), pI (x3.1.version.patch), pSl (x3.1.requirements : (List Requirement)), pS (x3.1.archive), pS (x3.1.interface), pS (x3.1.certificate), pB (x3.1.yanked)])) rfl (fun q => TStepG.ofStep rfl (fun A' => Step.storeW 0 Tryz.sizeOf89 rfl (Lk.t rfl) (Lk.t rfl) rfl rfl rfl)) ?_
        refine FlowL.nil ?_
        refine ⟨rfl, ⟨⟨by kernel_rfl, ⟨_, _, _, rfl, rfl⟩, .inl ⟨_, _, _, rfl, rfl, rfl, rfl⟩⟩, trivial⟩, fun β => ?_⟩
        refine TrL.conv (E' := (15, pPtr (β 18).b 0) :: _) rfl (A' := hCells (β 18).b 89 [pS (x3.1.path), pI (x3.1.version.major), pI (x3.1.version.minor), pI (x3.1.version.patch), pSl (x3.1.requirements : (List Requirement)), pS (x3.1.archive), pS (x3.1.interface), pS (x3.1.certificate), pB (x3.1.yanked)] :: _) rfl ?_
        refine L rfl rfl (PStep.assign rfl (Lk.t rfl)) ?_
        refine TrL.nil ?_
        refine TrE.seq ?_
        refine TrC.seq ?_
        refine TrC.seq ?_
        refine TrC.region rfl ?_
        refine L rfl rfl (PStep.move rfl (Lk.t rfl)) ?_
        refine L rfl rfl (PStep.not rfl (Lk.t rfl)) ?_
        refine TrL.nil ?_
        refine TrE.seq ?_
        refine TrC.condB (Lk.t rfl) (fun hc3 => ?_) (fun hc3 => ?_)
        · have hm := cond_t hm hc3
          have hs3 := hc3
          try simp only [decide_eq_true_eq, decide_eq_false_iff_not, Bool.and_eq_true, Bool.or_eq_true, Bool.not_eq_true', Bool.not_eq_false', Bool.and_eq_false_iff, Bool.or_eq_false_iff] at hs3
          refine TrC.seq ?_
          refine TrC.region rfl ?_
          refine L rfl rfl (PStep.assign rfl Lk.c) ?_
          refine TrL.nil ?_
          refine TrE.seq ?_
          refine TrC.ret (TrE.thenR <| TrE.blockR <| TrE.thenR <| TrE.blockR <| ?_)
          cases hm
          exact TrE.retOKX (RetOKX.of (()) (RetOK.eq (show _ = _ from rfl) (RetOK.tmp rfl (Lk.t (t := 6) rfl) (List.Sublist.cons _ (List.Sublist.cons _ (List.Sublist.cons _ (List.Sublist.cons _ (List.Sublist.cons_cons _ (List.Sublist.cons_cons _ (List.nil_sublist _))))))))))
        · have hm := cond_f hm hc3
          have hs3 := hc3
          try simp only [decide_eq_true_eq, decide_eq_false_iff_not, Bool.and_eq_true, Bool.or_eq_true, Bool.not_eq_true', Bool.not_eq_false', Bool.and_eq_false_iff, Bool.or_eq_false_iff] at hs3
          refine TrC.skip ?_
          refine TrE.seq ?_
          refine TrC.seq ?_
          refine TrC.share 2 8 rfl rfl ?_
          refine TrC.share 3 7 rfl rfl ?_
          refine TrC.region rfl ?_
          refine L rfl rfl (PStep.move rfl (Lk.t rfl)) ?_
          refine L rfl rfl (PStep.move rfl (Lk.t rfl)) ?_
          refine L rfl rfl (PStep.move rfl (Lk.t rfl)) ?_
          refine L rfl rfl (PStep.ldLocV (α := Release) (v := x3.1) 0 Tryz.isAgg89 Tryz.sizeOf89 rfl (Lk.t rfl) rfl rfl) ?_
          obtain ⟨x4, hx4, hm⟩ := bnd_some hm
          refine TrL.front 5 rfl ?_
          refine TrL.front 5 rfl ?_
          refine TrL.callFVD (ps := [pSl (l1 : (List Selected)), pSl (l2 : (List Requirement)), pT (x3.1 : Release)]) (s_proof_Check_1 l1 l2 x3.1 c2_0 c1 c2 bb2_1 bb2_2 x4 hx4) Tryz.call46 rfl rfl rfl (Lk.t rfl) (LkAll.cons (Lk.shSl (Lk.t rfl)) (LkAll.cons (Lk.shSl (Lk.t rfl)) (LkAll.cons (Lk.t rfl) LkAll.nil))) rfl ?_
          intro _
          refine TrL.conv (E' := (77, pTup []) :: _) rfl (A' := hCells bb2_1 38 [pSl (x4.1 : (List Skip))] :: hCells bb2_2 4 [pB (x4.2)] :: _) rfl ?_
          refine TrL.nil ?_
          refine TrE.seq ?_
          refine TrC.seq ?_
          refine TrC.region rfl ?_
          refine L rfl rfl (PStep.move rfl (Lk.t rfl)) ?_
          refine L rfl rfl (PStep.move rfl (Lk.t rfl)) ?_
          refine L rfl rfl (PStep.move rfl (Lk.t rfl)) ?_
          obtain ⟨hk3, hm⟩ := chk_some hm
          refine L rfl rfl (PStep.ixD (xs := a1) Tryz.runUnderlying37 Tryz.sizeOf59 rfl (Lk.t rfl) (Lk.t rfl) hk3) ?_
          refine L rfl rfl (PStep.ldRefV (α := Selected) (v := (ix a1 x2)) Tryz.isAgg59 Tryz.sizeOf59 rfl (Lk.t rfl) rfl) ?_
          refine L rfl rfl (PStep.litX ([(ix a1 x2)] : (List Selected)) slT37 rfl ⟨rfl, Lk.agg (Lk.t rfl), trivial⟩ rfl rfl) ?_
          obtain ⟨hk4, hm⟩ := chk_some hm
          refine TrL.append 4 apT37 rfl rfl rfl (Lk.shOwn (Lk.t rfl)) (Lk.slX (Lk.t rfl)) rfl (by have := hk4; omega) (fun r2 => ?_)
          refine L rfl rfl (PStep.assign rfl (Lk.t rfl)) ?_
          refine TrL.nil ?_
          refine TrE.seq ?_
          refine TrC.region rfl ?_
          refine L rfl rfl (PStep.move rfl (Lk.t rfl)) ?_
          refine L rfl rfl (PStep.faLoc fo89_2 rfl (Lk.t rfl)) ?_
          refine L rfl rfl (PStep.ldLoc 2 Tryz.isAgg26 rfl (Lk.t rfl) rfl rfl) ?_
          obtain ⟨hk5, hm⟩ := chk_some hm
          refine TrL.append 5 apT26 rfl rfl rfl (Lk.shOwn (Lk.t rfl)) (Lk.t rfl) rfl (by have := hk5; omega) (fun r3 => ?_)
          refine L rfl rfl (PStep.assign rfl (Lk.t rfl)) ?_
          refine TrL.nil ?_
          refine TrE.blockN ?_
          refine TrE.takeA 0 6 rfl rfl ?_
          refine TrE.takeA 1 7 rfl rfl ?_
          refine TrE.dropF 4 ?_
          refine TrE.again ((n, (l1 ++ ([(ix a1 x2)] : (List Selected))), (l2 ++ x3.1.requirements), x4.1, x4.2, r2, r3)) hm (Nat.lt_succ_self n) ((EnvSub.cons rfl (EnvSub.cons rfl (EnvSub.cons rfl (EnvSub.cons rfl (EnvSub.cons rfl EnvSub.nil)))))) rfl
def m_proof_Check (a0 : Index) (a1 : (List Requirement)) (a2 : Answer) : Option (Int) :=
  bnd (m_proof_newChecker a0 a1 a2.inferences) fun x1 => (bif (decide (x1.2 ≠ (0 : Int))) then some x1.2
  else (bif (!a2.found) then chk ((((decide ((0 : Int) < (a2.selection.length : Int))) || (decide ((0 : Int) < (a2.skips.length : Int)))) = false) → x1.1.isSome = true) <| bnd (gd (((decide ((0 : Int) < (a2.selection.length : Int))) || (decide ((0 : Int) < (a2.skips.length : Int)))) = false) (m_proof_checker_refuted ((x1.1.getD default)))) fun x2 => (bif (((decide ((0 : Int) < (a2.selection.length : Int))) || (decide ((0 : Int) < (a2.skips.length : Int)))) || (!x2)) then some ((18 : Int))
  else some ((0 : Int)))
  else bnd (m_index_Solves a0 a1 a2.selection) fun x3 => (bif (decide (x3 ≠ (0 : Int))) then some ((18 : Int))
  else chk (x1.1.isSome = true) <| bnd (m_proof_checker_decide_proof_Check_1 ((x1.1.getD default)) a2.selection x1.1 a2.skips true) fun x4 => (bif ((!x4.2.2) || (decide ((0 : Int) < (x4.2.1.length : Int)))) then some ((18 : Int))
  else some ((0 : Int))))))
end Go.Mp
