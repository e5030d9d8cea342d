/- Part 5 of the proof of tampers_ok: plain theorems, kept by a program out of the prover's own texts. No conditions. -/
import Derived.Test.YtbmhkahphmgggaaGreatDoorP04
set_option linter.unusedVariables false
set_option linter.unusedSimpArgs false
set_option linter.unusedSectionVars false
set_option maxRecDepth 100000
set_option maxHeartbeats 4000000
set_option linter.unusedVariables false
set_option linter.unusedSimpArgs false
namespace Go.Mp
open Go Go.Proofs
theorem s_proof_Check (a0 : Index) (a1 : (List Requirement)) (a2 : Answer) (r : Int) (hm : m_proof_Check a0 a1 a2 = some r) : Fn Tryz.prog 21 [pT (a0 : Index), pSl (a1 : (List Requirement)), pT (a2 : Answer)] (pI (r)) := by
  unfold m_proof_Check at hm
  refine Spec.mk Tryz.func21 rfl rfl fun B => ?_
  refine TrC.seq ?_
  refine TrC.region rfl ?_
  refine TrL.alloc (AStep.boxK rfl rfl (Lk.t rfl)) rfl (fun b1 => ?_)
  refine TrL.alloc (AStep.boxK rfl rfl (Lk.t rfl)) rfl (fun b2 => ?_)
  refine L rfl rfl (PStep.assign rfl Lk.c) ?_
  refine TrL.nil ?_
  refine TrE.seq ?_
  refine TrC.seq ?_
  refine TrC.region rfl ?_
  refine L rfl rfl (PStep.ldLocV (α := Index) (v := a0) 1 Tryz.isAgg25 Tryz.sizeOf25 rfl (Lk.t rfl) rfl rfl) ?_
  refine L rfl rfl (PStep.move rfl (Lk.t rfl)) ?_
  refine L rfl rfl (PStep.faLoc fo40_2 rfl (Lk.t rfl)) ?_
  refine L rfl rfl (PStep.ldLoc 0 Tryz.isAgg27 rfl (Lk.t rfl) rfl rfl) ?_
  obtain ⟨x1, hx1, hm⟩ := bnd_some hm
  refine L rfl rfl (PStep.call ((s_proof_newChecker a0 a1 a2.inferences x1 hx1)) Tryz.call36 rfl (LkAll.cons (Lk.t rfl) (LkAll.cons (Lk.t rfl) (LkAll.cons (Lk.t rfl) LkAll.nil)))) ?_
  refine L rfl rfl (PStep.move rfl (Lk.t rfl)) ?_
  refine L rfl rfl (PStep.extract rfl (Lk.t rfl) rfl) ?_
  refine L rfl rfl (PStep.extract rfl (Lk.t rfl) rfl) ?_
  refine TrL.alloc (AStep.alloc Tryz.zeroValue79 rfl zc79 rfl rfl) rfl (fun b3 => ?_)
  refine LS rfl rfl (Step.store1 0 Tryz.sizeOf79 rfl (Lk.t rfl) (Lk.t rfl) rfl rfl rfl) ?_
  refine L rfl rfl (PStep.assign rfl (Lk.t rfl)) ?_
  refine TrL.nil ?_
  refine TrE.seq ?_
  refine TrC.seq ?_
  refine TrC.seq ?_
  refine TrC.region rfl ?_
  refine L rfl rfl (PStep.move rfl (Lk.t rfl)) ?_
  refine L rfl rfl (PStep.neq rfl (Lk.t rfl) Lk.c) ?_
  refine TrL.nil ?_
  refine TrE.seq ?_
  refine TrC.condB (Lk.t rfl) (fun hc1 => ?_) (fun hc1 => ?_)
  · have hm := cond_t hm hc1
    have hs1 := hc1
    try simp only [decide_eq_true_eq, decide_eq_false_iff_not, Bool.and_eq_true, Bool.or_eq_true, Bool.not_eq_true', Bool.not_eq_false', Bool.and_eq_false_iff, Bool.or_eq_false_iff] at hs1
    refine TrC.seq ?_
    refine TrC.region rfl ?_
    refine L rfl rfl (PStep.move rfl (Lk.t rfl)) ?_
    refine L rfl rfl (PStep.assign rfl (Lk.t rfl)) ?_
    refine TrL.nil ?_
    refine TrE.seq ?_
    refine TrC.ret (TrE.thenR <| ?_)
    cases hm
    exact TrE.retOK (RetOK.eq (show _ = _ from rfl) (RetOK.tmp rfl (Lk.t (t := 6) rfl) (List.nil_sublist _)))
  · have hm := cond_f hm hc1
    have hs1 := hc1
    try simp only [decide_eq_true_eq, decide_eq_false_iff_not, Bool.and_eq_true, Bool.or_eq_true, Bool.not_eq_true', Bool.not_eq_false', Bool.and_eq_false_iff, Bool.or_eq_false_iff] at hs1
    refine TrC.skip ?_
    refine TrE.seq ?_
    refine TrC.seq ?_
    refine TrC.seq ?_
    refine TrC.region rfl ?_
    refine L rfl rfl (PStep.faLoc fo40_0 rfl (Lk.t rfl)) ?_
    refine L rfl rfl (PStep.ldLoc 1 Tryz.isAgg4 rfl (Lk.t rfl) rfl rfl) ?_
    refine L rfl rfl (PStep.not rfl (Lk.t rfl)) ?_
    refine TrL.nil ?_
    refine TrE.seq ?_
    refine TrC.condB (Lk.t rfl) (fun hc2 => ?_) (fun hc2 => ?_)
    · have hm := cond_t hm hc2
      have hs2 := hc2
      try simp only [decide_eq_true_eq, decide_eq_false_iff_not, Bool.and_eq_true, Bool.or_eq_true, Bool.not_eq_true', Bool.not_eq_false', Bool.and_eq_false_iff, Bool.or_eq_false_iff] at hs2
      refine TrC.seq ?_
      refine TrC.seq ?_
      refine TrC.region rfl ?_
      refine L rfl rfl (PStep.faLoc fo40_1 rfl (Lk.t rfl)) ?_
      refine L rfl rfl (PStep.ldLoc 1 Tryz.isAgg37 rfl (Lk.t rfl) rfl rfl) ?_
      refine L rfl rfl (PStep.len (xs := a2.selection) (tys := #[]) Tryz.runUnderlying37 rfl (Lk.t rfl)) ?_
      refine L rfl rfl (PStep.gtr rfl (Lk.t rfl) Lk.c) ?_
      refine L rfl rfl (PStep.move rfl (Lk.t rfl)) ?_
      refine LW rfl (WStep.guard rfl rfl rfl rfl (fun hg => PStep.faLoc fo40_3 rfl (Lk.t rfl))) ?_
      refine LW rfl (WStep.guard rfl rfl rfl rfl (fun hg => PStep.ldLoc 1 Tryz.isAgg38 rfl (Lk.g rfl hg) rfl rfl)) ?_
      refine LW rfl (WStep.guard rfl rfl rfl rfl (fun hg => PStep.len (xs := a2.skips) (tys := #[]) Tryz.runUnderlying38 rfl (Lk.g rfl hg))) ?_
      refine LW rfl (WStep.guard rfl rfl rfl rfl (fun hg => PStep.gtr rfl (Lk.g rfl hg) Lk.c)) ?_
      refine L rfl rfl (PStep.pickOr rfl (Lk.t rfl) (fun hq => Lk.g rfl hq)) ?_
      refine L rfl rfl (PStep.move rfl (Lk.t rfl)) ?_
      refine LW rfl (WStep.guard rfl rfl rfl rfl (fun hg => PStep.ldLoc 0 Tryz.isAgg79 rfl (Lk.t rfl) rfl rfl)) ?_
      obtain ⟨hk1, hm⟩ := chk_some hm
      obtain ⟨x2, hx2, hm⟩ := bnd_some hm
      refine LW rfl (WStep.guard rfl rfl rfl rfl (fun hg => PStep.call ((s_proof_checker_refuted ((x1.1.getD default)) x2 (gd_some hx2 hg))) Tryz.call40 rfl (LkAll.cons (Lk.optRef (Lk.g rfl hg) (hk1 hg)) LkAll.nil))) ?_
      refine LW rfl (WStep.guard rfl rfl rfl rfl (fun hg => PStep.not rfl (Lk.g rfl hg))) ?_
      refine L rfl rfl (PStep.pickOr rfl (Lk.t rfl) (fun hq => Lk.g rfl hq)) ?_
      refine TrL.nil ?_
      refine TrE.seq ?_
      refine TrC.condB (Lk.t rfl) (fun hc3 => ?_) (fun hc3 => ?_)
      · have hm := cond_t hm hc3
        have hs3 := hc3
        try simp only [decide_eq_true_eq, decide_eq_false_iff_not, Bool.and_eq_true, Bool.or_eq_true, Bool.not_eq_true', Bool.not_eq_false', Bool.and_eq_false_iff, Bool.or_eq_false_iff] at hs3
        refine TrC.seq ?_
        refine TrC.region rfl ?_
        refine L rfl rfl (PStep.assign rfl Lk.c) ?_
        refine TrL.nil ?_
        refine TrE.seq ?_
        refine TrC.ret (TrE.thenR <| TrE.thenR <| ?_)
        cases hm
        exact TrE.retOK (RetOK.eq (show _ = _ from rfl) (RetOK.tmp rfl (Lk.t (t := 6) rfl) (List.nil_sublist _)))
      · have hm := cond_f hm hc3
        have hs3 := hc3
        try simp only [decide_eq_true_eq, decide_eq_false_iff_not, Bool.and_eq_true, Bool.or_eq_true, Bool.not_eq_true', Bool.not_eq_false', Bool.and_eq_false_iff, Bool.or_eq_false_iff] at hs3
        refine TrC.skip ?_
        refine TrE.seq ?_
        refine TrC.seq ?_
        refine TrC.region rfl ?_
        refine L rfl rfl (PStep.assign rfl Lk.c) ?_
        refine TrL.nil ?_
        refine TrE.seq ?_
        refine TrC.ret (TrE.thenR <| ?_)
        cases hm
        exact TrE.retOK (RetOK.eq (show _ = _ from rfl) (RetOK.tmp rfl (Lk.t (t := 6) rfl) (List.nil_sublist _)))
    · have hm := cond_f hm hc2
      have hs2 := hc2
      try simp only [decide_eq_true_eq, decide_eq_false_iff_not, Bool.and_eq_true, Bool.or_eq_true, Bool.not_eq_true', Bool.not_eq_false', Bool.and_eq_false_iff, Bool.or_eq_false_iff] at hs2
      refine TrC.skip ?_
      refine TrE.seq ?_
      refine TrC.seq ?_
      refine TrC.seq ?_
      refine TrC.region rfl ?_
      refine L rfl rfl (PStep.ldLocV (α := Index) (v := a0) 2 Tryz.isAgg25 Tryz.sizeOf25 rfl (Lk.t rfl) rfl rfl) ?_
      refine L rfl rfl (PStep.move rfl (Lk.t rfl)) ?_
      refine L rfl rfl (PStep.faLoc fo40_1 rfl (Lk.t rfl)) ?_
      refine L rfl rfl (PStep.ldLoc 1 Tryz.isAgg37 rfl (Lk.t rfl) rfl rfl) ?_
      obtain ⟨x3, hx3, hm⟩ := bnd_some hm
      refine L rfl rfl (PStep.call ((s_index_Solves a0 a1 a2.selection x3 hx3)) Tryz.call45 rfl (LkAll.cons (Lk.t rfl) (LkAll.cons (Lk.t rfl) (LkAll.cons (Lk.t rfl) LkAll.nil)))) ?_
      refine L rfl rfl (PStep.neq rfl (Lk.t rfl) Lk.c) ?_
      refine TrL.nil ?_
      refine TrE.seq ?_
      refine TrC.condB (Lk.t rfl) (fun hc4 => ?_) (fun hc4 => ?_)
      · have hm := cond_t hm hc4
        have hs4 := hc4
        try simp only [decide_eq_true_eq, decide_eq_false_iff_not, Bool.and_eq_true, Bool.or_eq_true, Bool.not_eq_true', Bool.not_eq_false', Bool.and_eq_false_iff, Bool.or_eq_false_iff] at hs4
        refine TrC.seq ?_
        refine TrC.region rfl ?_
        refine L rfl rfl (PStep.assign rfl Lk.c) ?_
        refine TrL.nil ?_
        refine TrE.seq ?_
        refine TrC.ret (TrE.thenR <| ?_)
        cases hm
        exact TrE.retOK (RetOK.eq (show _ = _ from rfl) (RetOK.tmp rfl (Lk.t (t := 6) rfl) (List.nil_sublist _)))
      · have hm := cond_f hm hc4
        have hs4 := hc4
        try simp only [decide_eq_true_eq, decide_eq_false_iff_not, Bool.and_eq_true, Bool.or_eq_true, Bool.not_eq_true', Bool.not_eq_false', Bool.and_eq_false_iff, Bool.or_eq_false_iff] at hs4
        refine TrC.skip ?_
        refine TrE.seq ?_
        refine TrC.seq ?_
        refine TrC.region rfl ?_
        refine TrL.alloc (AStep.alloc Tryz.zeroValue4 rfl zc4 rfl rfl) rfl (fun b4 => ?_)
        refine LS rfl rfl (Step.store1 0 Tryz.sizeOf4 rfl (Lk.t rfl) (show Lk _ _ (pB (true)) from Lk.c) rfl rfl rfl) ?_
        refine TrL.nil ?_
        refine TrE.seq ?_
        refine TrC.seq ?_
        refine TrC.region rfl ?_
        refine L rfl rfl (PStep.faLoc fo40_3 rfl (Lk.t rfl)) ?_
        refine L rfl rfl (PStep.ldLoc 2 Tryz.isAgg38 rfl (Lk.t rfl) rfl rfl) ?_
        refine TrL.alloc (AStep.alloc Tryz.zeroValue38 rfl zc38 rfl rfl) rfl (fun b5 => ?_)
        refine LS rfl rfl (Step.store1 0 Tryz.sizeOf38 rfl (Lk.t rfl) (Lk.t rfl) rfl rfl rfl) ?_
        refine TrL.nil ?_
        refine TrE.seq ?_
        refine TrC.seq ?_
        refine TrC.settleC 2 7 rfl rfl ?_
        refine TrC.region rfl ?_
        refine L rfl rfl (PStep.ldRef Tryz.isAgg79 rfl (Lk.t rfl) rfl) ?_
        refine L rfl rfl (PStep.faLoc fo40_1 rfl (Lk.t rfl)) ?_
        refine L rfl rfl (PStep.ldLoc 3 Tryz.isAgg37 rfl (Lk.t rfl) rfl rfl) ?_
        refine L rfl rfl (PStep.mkClo rfl (LkAll.cons (Lk.t rfl) (LkAll.cons (Lk.t rfl) (LkAll.cons (Lk.t rfl) LkAll.nil)))) ?_
        obtain ⟨hk2, hm⟩ := chk_some hm
        obtain ⟨x4, hx4, hm⟩ := bnd_some hm
        refine TrL.callFD (s_proof_checker_decide_proof_Check_1 ((x1.1.getD default)) a2.selection x1.1 a2.skips true b5 b4 x4 hx4) Tryz.call42 rfl rfl rfl (LkAll.cons (Lk.optRef (Lk.t rfl) hk2) (LkAll.cons (Lk.t rfl) (LkAll.cons (Lk.t rfl) LkAll.nil))) rfl ?_
        intro _
        refine TrL.conv (E' := (52, pB (x4.1)) :: _) rfl (A' := hCells b5 38 [pSl (x4.2.1 : (List Skip))] :: hCells b4 4 [pB (x4.2.2)] :: _) rfl ?_
        refine TrL.nil ?_
        refine TrE.seq ?_
        refine TrC.seq ?_
        refine TrC.seq ?_
        refine TrC.region rfl ?_
        refine L rfl rfl (PStep.ldLoc 1 Tryz.isAgg4 rfl (Lk.t rfl) rfl rfl) ?_
        refine L rfl rfl (PStep.not rfl (Lk.t rfl)) ?_
        refine L rfl rfl (PStep.move rfl (Lk.t rfl)) ?_
        refine LW rfl (WStep.guard rfl rfl rfl rfl (fun hg => PStep.ldLoc 0 Tryz.isAgg38 rfl (Lk.t rfl) rfl rfl)) ?_
        refine LW rfl (WStep.guard rfl rfl rfl rfl (fun hg => PStep.len (xs := x4.2.1) (tys := #[]) Tryz.runUnderlying38 rfl (Lk.g rfl hg))) ?_
        refine LW rfl (WStep.guard rfl rfl rfl rfl (fun hg => PStep.gtr rfl (Lk.g rfl hg) Lk.c)) ?_
        refine L rfl rfl (PStep.pickOr rfl (Lk.t rfl) (fun hq => Lk.g rfl hq)) ?_
        refine TrL.nil ?_
        refine TrE.seq ?_
        refine TrC.condB (Lk.t rfl) (fun hc5 => ?_) (fun hc5 => ?_)
        · have hm := cond_t hm hc5
          have hs5 := hc5
          try simp only [decide_eq_true_eq, decide_eq_false_iff_not, Bool.and_eq_true, Bool.or_eq_true, Bool.not_eq_true', Bool.not_eq_false', Bool.and_eq_false_iff, Bool.or_eq_false_iff] at hs5
          refine TrC.seq ?_
          refine TrC.region rfl ?_
          refine L rfl rfl (PStep.assign rfl Lk.c) ?_
          refine TrL.nil ?_
          refine TrE.seq ?_
          refine TrC.ret (TrE.thenR <| ?_)
          cases hm
          exact TrE.retOK (RetOK.eq (show _ = _ from rfl) (RetOK.tmp rfl (Lk.t (t := 6) rfl) (List.nil_sublist _)))
        · have hm := cond_f hm hc5
          have hs5 := hc5
          try simp only [decide_eq_true_eq, decide_eq_false_iff_not, Bool.and_eq_true, Bool.or_eq_true, Bool.not_eq_true', Bool.not_eq_false', Bool.and_eq_false_iff, Bool.or_eq_false_iff] at hs5
          refine TrC.skip ?_
          refine TrE.seq ?_
          refine TrC.seq ?_
          refine TrC.region rfl ?_
          refine L rfl rfl (PStep.assign rfl Lk.c) ?_
          refine TrL.nil ?_
          refine TrE.seq ?_
          refine TrC.ret (?_)
          cases hm
          exact TrE.retOK (RetOK.eq (show _ = _ from rfl) (RetOK.tmp rfl (Lk.t (t := 6) rfl) (List.nil_sublist _)))
def m_modcertlaw36_example  : Option (Index × (List Requirement) × (List Inference)) :=
  some ((((⟨([(⟨(⟨#[97, 47, 118, 49]⟩ : ByteArray), ((⟨(1 : Int), 0, 0⟩ : Version)), ([(⟨(⟨#[98, 47, 118, 49]⟩ : ByteArray), ([(⟨(2000 : Int), (1000000 : Int)⟩ : Span)] : (List Span))⟩ : Requirement)] : (List Requirement)), ByteArray.empty, ByteArray.empty, ByteArray.empty, false⟩ : Release), (⟨(⟨#[98, 47, 118, 49]⟩ : ByteArray), ((⟨(1 : Int), 0, 0⟩ : Version)), [], ByteArray.empty, ByteArray.empty, ByteArray.empty, false⟩ : Release), (⟨(⟨#[98, 47, 118, 49]⟩ : ByteArray), (⟨(1 : Int), (1 : Int), 0⟩ : Version), [], ByteArray.empty, ByteArray.empty, ByteArray.empty, false⟩ : Release)] : (List Release)), ⟨none, 0, 0⟩⟩ : Index))), ([(⟨(⟨#[97, 47, 118, 49]⟩ : ByteArray), ([(⟨(0 : Int), (1000000 : Int)⟩ : Span)] : (List Span))⟩ : Requirement)] : (List Requirement)), ([(⟨(0 : Int), ByteArray.empty, 0, 0, 0, 0⟩ : Inference), (⟨(2 : Int), (⟨#[97, 47, 118, 49]⟩ : ByteArray), 0, 0, 0, 0⟩ : Inference), (⟨(3 : Int), (⟨#[97, 47, 118, 49]⟩ : ByteArray), 0, 0, (0 : Int), (1 : Int)⟩ : Inference), (⟨(1 : Int), (⟨#[97, 47, 118, 49]⟩ : ByteArray), 0, 0, 0, 0⟩ : Inference), (⟨(2 : Int), (⟨#[98, 47, 118, 49]⟩ : ByteArray), 0, 0, 0, 0⟩ : Inference), (⟨(3 : Int), (⟨#[98, 47, 118, 49]⟩ : ByteArray), 0, 0, (3 : Int), (4 : Int)⟩ : Inference), (⟨(3 : Int), (⟨#[97, 47, 118, 49]⟩ : ByteArray), 0, 0, (2 : Int), (5 : Int)⟩ : Inference)] : (List Inference)))
theorem s_modcertlaw36_example  (r : Index × (List Requirement) × (List Inference)) (hm : m_modcertlaw36_example  = some r) : Fn Tryz.prog 33 [] (pTup [pT (r.1 : Index), pSl (r.2.1 : (List Requirement)), pSl (r.2.2 : (List Inference))]) := by
  unfold m_modcertlaw36_example at hm
  refine Spec.mk Tryz.func33 rfl rfl fun B => ?_
  refine TrC.seq ?_
  refine TrC.region rfl ?_
  refine TrL.alloc (AStep.alloc Tryz.zeroValue25 rfl zc25 rfl rfl) rfl (fun b1 => ?_)
  refine L rfl rfl (PStep.assign rfl Lk.c) ?_
  refine L rfl rfl (PStep.assign rfl Lk.c) ?_
  refine TrL.nil ?_
  refine TrE.seq ?_
  refine TrC.seq ?_
  refine TrC.region rfl ?_
  refine L rfl rfl (mk57_0 rfl Lk.c) ?_
  refine TrL.alloc (AStep.alloc Tryz.zeroValue57 rfl zc57 rfl rfl) rfl (fun b2 => ?_)
  refine LS rfl rfl (Step.storeW 0 Tryz.sizeOf57 rfl (Lk.t rfl) (Lk.t rfl) rfl rfl rfl) ?_
  refine TrL.nil ?_
  refine TrE.seq ?_
  refine TrC.seq ?_
  refine TrC.region rfl ?_
  refine L rfl rfl (mk118_01 rfl Lk.c Lk.c) ?_
  refine L rfl rfl (PStep.litX ([(⟨(2000 : Int), (1000000 : Int)⟩ : Span)] : (List Span)) slT105 rfl ⟨rfl, Lk.agg (Lk.t rfl), trivial⟩ rfl rfl) ?_
  refine L rfl rfl (mk120_01 rfl Lk.c (Lk.slX (Lk.t rfl))) ?_
  refine L rfl rfl (PStep.litX ([(⟨(⟨#[98, 47, 118, 49]⟩ : ByteArray), ([(⟨(2000 : Int), (1000000 : Int)⟩ : Span)] : (List Span))⟩ : Requirement)] : (List Requirement)) slT26 rfl ⟨rfl, Lk.agg (Lk.t rfl), trivial⟩ rfl rfl) ?_
  refine L rfl rfl (PStep.assign rfl (Lk.t rfl)) ?_
  refine TrL.nil ?_
  refine TrE.seq ?_
  refine TrC.seq ?_
  refine TrC.region rfl ?_
  refine L rfl rfl (PStep.ldLocV (α := Version) (v := ((⟨(1 : Int), 0, 0⟩ : Version))) 0 Tryz.isAgg57 Tryz.sizeOf57 rfl (Lk.t rfl) rfl rfl) ?_
  refine L rfl rfl (PStep.move rfl (Lk.t rfl)) ?_
  refine L rfl rfl (mk89_012 rfl Lk.c (Lk.t rfl) (Lk.slX (Lk.t rfl))) ?_
  refine L rfl rfl (PStep.ldLocV (α := Version) (v := ((⟨(1 : Int), 0, 0⟩ : Version))) 0 Tryz.isAgg57 Tryz.sizeOf57 rfl (Lk.t rfl) rfl rfl) ?_
  refine L rfl rfl (mk89_01 rfl Lk.c (Lk.t rfl)) ?_
  refine L rfl rfl (mk57_01 rfl Lk.c Lk.c) ?_
  refine L rfl rfl (mk89_01 rfl Lk.c (Lk.t rfl)) ?_
  refine L rfl rfl (PStep.litX ([(⟨(⟨#[97, 47, 118, 49]⟩ : ByteArray), ((⟨(1 : Int), 0, 0⟩ : Version)), ([(⟨(⟨#[98, 47, 118, 49]⟩ : ByteArray), ([(⟨(2000 : Int), (1000000 : Int)⟩ : Span)] : (List Span))⟩ : Requirement)] : (List Requirement)), ByteArray.empty, ByteArray.empty, ByteArray.empty, false⟩ : Release), (⟨(⟨#[98, 47, 118, 49]⟩ : ByteArray), ((⟨(1 : Int), 0, 0⟩ : Version)), [], ByteArray.empty, ByteArray.empty, ByteArray.empty, false⟩ : Release), (⟨(⟨#[98, 47, 118, 49]⟩ : ByteArray), (⟨(1 : Int), (1 : Int), 0⟩ : Version), [], ByteArray.empty, ByteArray.empty, ByteArray.empty, false⟩ : Release)] : (List Release)) slT22 rfl ⟨rfl, Lk.agg (Lk.t rfl), ⟨rfl, Lk.agg (Lk.t rfl), ⟨rfl, Lk.agg (Lk.t rfl), trivial⟩⟩⟩ rfl rfl) ?_
  refine L rfl rfl (mk25_0 rfl (Lk.slX (Lk.t rfl))) ?_
  refine TrL.alloc (AStep.alloc Tryz.zeroValue25 rfl zc25 rfl rfl) rfl (fun b3 => ?_)
  refine LS rfl rfl (Step.storeW 0 Tryz.sizeOf25 rfl (Lk.t rfl) (Lk.t rfl) rfl rfl rfl) ?_
  refine TrL.nil ?_
  refine TrE.seq ?_
  refine TrC.seq ?_
  refine TrC.region rfl ?_
  refine L rfl rfl (PStep.ldLocV (α := Index) (v := ((⟨([(⟨(⟨#[97, 47, 118, 49]⟩ : ByteArray), ((⟨(1 : Int), 0, 0⟩ : Version)), ([(⟨(⟨#[98, 47, 118, 49]⟩ : ByteArray), ([(⟨(2000 : Int), (1000000 : Int)⟩ : Span)] : (List Span))⟩ : Requirement)] : (List Requirement)), ByteArray.empty, ByteArray.empty, ByteArray.empty, false⟩ : Release), (⟨(⟨#[98, 47, 118, 49]⟩ : ByteArray), ((⟨(1 : Int), 0, 0⟩ : Version)), [], ByteArray.empty, ByteArray.empty, ByteArray.empty, false⟩ : Release), (⟨(⟨#[98, 47, 118, 49]⟩ : ByteArray), (⟨(1 : Int), (1 : Int), 0⟩ : Version), [], ByteArray.empty, ByteArray.empty, ByteArray.empty, false⟩ : Release)] : (List Release)), ⟨none, 0, 0⟩⟩ : Index))) 0 Tryz.isAgg25 Tryz.sizeOf25 rfl (Lk.t rfl) rfl rfl) ?_
  refine L rfl rfl (mk118_01 rfl Lk.c Lk.c) ?_
  refine L rfl rfl (PStep.litX ([(⟨(0 : Int), (1000000 : Int)⟩ : Span)] : (List Span)) slT105 rfl ⟨rfl, Lk.agg (Lk.t rfl), trivial⟩ rfl rfl) ?_
  refine L rfl rfl (mk120_01 rfl Lk.c (Lk.slX (Lk.t rfl))) ?_
  refine L rfl rfl (PStep.litX ([(⟨(⟨#[97, 47, 118, 49]⟩ : ByteArray), ([(⟨(0 : Int), (1000000 : Int)⟩ : Span)] : (List Span))⟩ : Requirement)] : (List Requirement)) slT26 rfl ⟨rfl, Lk.agg (Lk.t rfl), trivial⟩ rfl rfl) ?_
  refine L rfl rfl (mk68_0 rfl Lk.c) ?_
  refine L rfl rfl (mk68_01 rfl Lk.c Lk.c) ?_
  refine L rfl rfl (mk68_0145 rfl Lk.c Lk.c Lk.c Lk.c) ?_
  refine L rfl rfl (mk68_01 rfl Lk.c Lk.c) ?_
  refine L rfl rfl (mk68_01 rfl Lk.c Lk.c) ?_
  refine L rfl rfl (mk68_0145 rfl Lk.c Lk.c Lk.c Lk.c) ?_
  refine L rfl rfl (mk68_0145 rfl Lk.c Lk.c Lk.c Lk.c) ?_
  refine L rfl rfl (PStep.litX ([(⟨(0 : Int), ByteArray.empty, 0, 0, 0, 0⟩ : Inference), (⟨(2 : Int), (⟨#[97, 47, 118, 49]⟩ : ByteArray), 0, 0, 0, 0⟩ : Inference), (⟨(3 : Int), (⟨#[97, 47, 118, 49]⟩ : ByteArray), 0, 0, (0 : Int), (1 : Int)⟩ : Inference), (⟨(1 : Int), (⟨#[97, 47, 118, 49]⟩ : ByteArray), 0, 0, 0, 0⟩ : Inference), (⟨(2 : Int), (⟨#[98, 47, 118, 49]⟩ : ByteArray), 0, 0, 0, 0⟩ : Inference), (⟨(3 : Int), (⟨#[98, 47, 118, 49]⟩ : ByteArray), 0, 0, (3 : Int), (4 : Int)⟩ : Inference), (⟨(3 : Int), (⟨#[97, 47, 118, 49]⟩ : ByteArray), 0, 0, (2 : Int), (5 : Int)⟩ : Inference)] : (List Inference)) slT27 rfl ⟨rfl, Lk.agg (Lk.t rfl), ⟨rfl, Lk.agg (Lk.t rfl), ⟨rfl, Lk.agg (Lk.t rfl), ⟨rfl, Lk.agg (Lk.t rfl), ⟨rfl, Lk.agg (Lk.t rfl), ⟨rfl, Lk.agg (Lk.t rfl), ⟨rfl, Lk.agg (Lk.t rfl), trivial⟩⟩⟩⟩⟩⟩⟩ rfl rfl) ?_
  refine LS rfl rfl (Step.storeW 2 Tryz.sizeOf25 rfl (Lk.t rfl) (Lk.t rfl) rfl rfl rfl) ?_
  refine L rfl rfl (PStep.assign rfl (Lk.t rfl)) ?_
  refine L rfl rfl (PStep.assign rfl (Lk.t rfl)) ?_
  refine TrL.nil ?_
  refine TrE.seq ?_
  refine TrC.ret (?_)
  cases hm
  exact TrE.retOK (RetOK.eq (show _ = _ from rfl) (RetOK.cell3 2 Tryz.isAgg25 Tryz.sizeOf25 rfl (Lk.t rfl) rfl rfl (Lk.slX (Lk.t (t := 1) rfl)) (Lk.slX (Lk.t (t := 2) rfl)) (List.nil_sublist _)))
def m_modcertlaw36_awake  : Option (Bool) :=
  bnd (m_modcertlaw36_example ) fun x1 => bnd (m_proof_Derive x1.1 x1.2.1 x1.2.2) fun x2 => chk ((((decide (x2.2 ≠ (0 : Int))) || (decide ((x2.1.length : Int) ≠ (7 : Int)))) = false) → 0 ≤ (6 : Int) ∧ (6 : Int) < (x2.1.length : Int)) <| chk (((((decide (x2.2 ≠ (0 : Int))) || (decide ((x2.1.length : Int) ≠ (7 : Int)))) || (decide ((((ix x2.1 ((6 : Int)))).length : Int) ≠ (0 : Int)))) = false) → 0 ≤ (5 : Int) ∧ (5 : Int) < (x2.1.length : Int)) <| bnd (gd (((((decide (x2.2 ≠ (0 : Int))) || (decide ((x2.1.length : Int) ≠ (7 : Int)))) || (decide ((((ix x2.1 ((6 : Int)))).length : Int) ≠ (0 : Int)))) || (decide ((((ix x2.1 ((5 : Int)))).length : Int) ≠ (1 : Int)))) = false) (m_proof_Refutes x1.1 x1.2.1 x1.2.2)) fun x3 => chk (((((((decide (x2.2 ≠ (0 : Int))) || (decide ((x2.1.length : Int) ≠ (7 : Int)))) || (decide ((((ix x2.1 ((6 : Int)))).length : Int) ≠ (0 : Int)))) || (decide ((((ix x2.1 ((5 : Int)))).length : Int) ≠ (1 : Int)))) || (decide (x3 ≠ (0 : Int)))) = false) → 0 ≤ (0 : Int) ∧ (0 : Int) ≤ (6 : Int) ∧ (6 : Int) ≤ (x1.2.2.length : Int)) <| bnd (gd ((((((decide (x2.2 ≠ (0 : Int))) || (decide ((x2.1.length : Int) ≠ (7 : Int)))) || (decide ((((ix x2.1 ((6 : Int)))).length : Int) ≠ (0 : Int)))) || (decide ((((ix x2.1 ((5 : Int)))).length : Int) ≠ (1 : Int)))) || (decide (x3 ≠ (0 : Int)))) = false) (m_proof_Refutes x1.1 x1.2.1 (((x1.2.2.take ((6 : Int)).toNat).drop ((0 : Int)).toNat)))) fun x4 => (bif ((((((decide (x2.2 ≠ (0 : Int))) || (decide ((x2.1.length : Int) ≠ (7 : Int)))) || (decide ((((ix x2.1 ((6 : Int)))).length : Int) ≠ (0 : Int)))) || (decide ((((ix x2.1 ((5 : Int)))).length : Int) ≠ (1 : Int)))) || (decide (x3 ≠ (0 : Int)))) || (decide (x4 ≠ (18 : Int)))) then some false
  else bnd (m_proof_Decisions x1.1 x1.2.1 (([(⟨(⟨#[97, 47, 118, 49]⟩ : ByteArray), (⟨(1 : Int), 0, 0⟩ : Version)⟩ : Selected), (⟨(⟨#[98, 47, 118, 49]⟩ : ByteArray), (⟨(1 : Int), 0, 0⟩ : Version)⟩ : Selected)] : (List Selected)))) fun x5 => bnd (gd ((decide (x5.2 = (0 : Int))) = true) (m_slices_Equal_string_string x5.1 (([(⟨#[97, 47, 118, 49]⟩ : ByteArray), (⟨#[98, 47, 118, 49]⟩ : ByteArray)] : (List ByteArray))))) fun x6 => bnd (gd (((decide (x5.2 = (0 : Int))) && x6) = true) (m_proof_Check x1.1 x1.2.1 ((⟨false, [], x1.2.2, []⟩ : Answer)))) fun x7 => bnd (gd ((((decide (x5.2 = (0 : Int))) && x6) && (decide (x7 = (0 : Int)))) = true) (m_proof_Check x1.1 x1.2.1 ((⟨true, [], [], []⟩ : Answer)))) fun x8 => some (((((decide (x5.2 = (0 : Int))) && x6) && (decide (x7 = (0 : Int)))) && (decide (x8 = (18 : Int))))))
theorem s_modcertlaw36_awake  (r : Bool) (hm : m_modcertlaw36_awake  = some r) : Fn Tryz.prog 10 [] (pB (r)) := by
  unfold m_modcertlaw36_awake at hm
  refine Spec.mk Tryz.func10 rfl rfl fun B => ?_
  refine TrC.seq ?_
  refine TrC.region rfl ?_
  refine L rfl rfl (PStep.assign rfl Lk.c) ?_
  refine TrL.nil ?_
  refine TrE.seq ?_
  refine TrC.seq ?_
  refine TrC.region rfl ?_
  obtain ⟨x1, hx1, hm⟩ := bnd_some hm
  refine L rfl rfl (PStep.call ((s_modcertlaw36_example  x1 hx1)) Tryz.call33 rfl LkAll.nil) ?_
  refine L rfl rfl (PStep.move rfl (Lk.t rfl)) ?_
  refine L rfl rfl (PStep.extract rfl (Lk.t rfl) rfl) ?_
  refine L rfl rfl (PStep.extract rfl (Lk.t rfl) rfl) ?_
  refine L rfl rfl (PStep.extract rfl (Lk.t rfl) rfl) ?_
  refine TrL.alloc (AStep.alloc Tryz.zeroValue25 rfl zc25 rfl rfl) rfl (fun b1 => ?_)
  refine LS rfl rfl (Step.storeW 0 Tryz.sizeOf25 rfl (Lk.t rfl) (Lk.t rfl) rfl rfl rfl) ?_
  refine L rfl rfl (PStep.assign rfl (Lk.t rfl)) ?_
  refine L rfl rfl (PStep.assign rfl (Lk.t rfl)) ?_
  refine TrL.nil ?_
  refine TrE.seq ?_
  refine TrC.seq ?_
  refine TrC.region rfl ?_
  refine L rfl rfl (PStep.ldLocV (α := Index) (v := x1.1) 0 Tryz.isAgg25 Tryz.sizeOf25 rfl (Lk.t rfl) rfl rfl) ?_
  refine L rfl rfl (PStep.move rfl (Lk.t rfl)) ?_
  refine L rfl rfl (PStep.move rfl (Lk.t rfl)) ?_
  obtain ⟨x2, hx2, hm⟩ := bnd_some hm
  refine L rfl rfl (PStep.call ((s_proof_Derive x1.1 x1.2.1 x1.2.2 x2 hx2)) Tryz.call12 rfl (LkAll.cons (Lk.t rfl) (LkAll.cons (Lk.t rfl) (LkAll.cons (Lk.t rfl) LkAll.nil)))) ?_
  refine L rfl rfl (PStep.move rfl (Lk.t rfl)) ?_
  refine L rfl rfl (PStep.extract rfl (Lk.t rfl) rfl) ?_
  refine L rfl rfl (PStep.extract rfl (Lk.t rfl) rfl) ?_
  refine L rfl rfl (PStep.assign rfl (Lk.t rfl)) ?_
  refine L rfl rfl (PStep.assign rfl (Lk.t rfl)) ?_
  refine TrL.nil ?_
  refine TrE.seq ?_
  refine TrC.seq ?_
  refine TrC.seq ?_
  refine TrC.flow 36 mixed rfl (by kernel_rfl) (by kernel_rfl) ?_
  refine F rfl rfl (PStep.move rfl (Lk.t rfl)) ?_
  refine F rfl rfl (PStep.neq rfl (Lk.t rfl) Lk.c) ?_
  refine F rfl rfl (PStep.move rfl (Lk.t rfl)) ?_
  refine FW rfl (WStep.guard rfl rfl rfl rfl (fun hg => PStep.move rfl (Lk.t rfl))) ?_
  refine FW rfl (WStep.guard rfl rfl rfl rfl (fun hg => PStep.len (xs := x2.1) (tys := #[]) Tryz.runUnderlying30 rfl (Lk.g rfl hg))) ?_
  refine FW rfl (WStep.guard rfl rfl rfl rfl (fun hg => PStep.neq rfl (Lk.g rfl hg) Lk.c)) ?_
  refine F rfl rfl (PStep.pickOr rfl (Lk.t rfl) (fun hq => Lk.g rfl hq)) ?_
  refine F rfl rfl (PStep.move rfl (Lk.t rfl)) ?_
  refine FW rfl (WStep.guard rfl rfl rfl rfl (fun hg => PStep.move rfl (Lk.t rfl))) ?_
  obtain ⟨hk1, hm⟩ := chk_some hm
  refine FW rfl (WStep.guard rfl rfl rfl rfl (fun hg => PStep.ixD (xs := x2.1) Tryz.runUnderlying30 Tryz.sizeOf51 rfl (Lk.g rfl hg) Lk.c (hk1 hg))) ?_
  refine FW rfl (WStep.guard rfl rfl rfl rfl (fun hg => PStep.ldRef Tryz.isAgg51 rfl (Lk.g rfl hg) rfl)) ?_
  refine FW rfl (WStep.guard rfl rfl rfl rfl (fun hg => PStep.len (xs := (ix x2.1 ((6 : Int)))) (tys := #[]) Tryz.runUnderlying51 rfl (Lk.g rfl hg))) ?_
  refine FW rfl (WStep.guard rfl rfl rfl rfl (fun hg => PStep.neq rfl (Lk.g rfl hg) Lk.c)) ?_
  refine F rfl rfl (PStep.pickOr rfl (Lk.t rfl) (fun hq => Lk.g rfl hq)) ?_
  refine F rfl rfl (PStep.move rfl (Lk.t rfl)) ?_
  refine FW rfl (WStep.guard rfl rfl rfl rfl (fun hg => PStep.move rfl (Lk.t rfl))) ?_
  obtain ⟨hk2, hm⟩ := chk_some hm
  refine FW rfl (WStep.guard rfl rfl rfl rfl (fun hg => PStep.ixD (xs := x2.1) Tryz.runUnderlying30 Tryz.sizeOf51 rfl (Lk.g rfl hg) Lk.c (hk2 hg))) ?_
  refine FW rfl (WStep.guard rfl rfl rfl rfl (fun hg => PStep.ldRef Tryz.isAgg51 rfl (Lk.g rfl hg) rfl)) ?_
  refine FW rfl (WStep.guard rfl rfl rfl rfl (fun hg => PStep.len (xs := (ix x2.1 ((5 : Int)))) (tys := #[]) Tryz.runUnderlying51 rfl (Lk.g rfl hg))) ?_
  refine FW rfl (WStep.guard rfl rfl rfl rfl (fun hg => PStep.neq rfl (Lk.g rfl hg) Lk.c)) ?_
  refine F rfl rfl (PStep.pickOr rfl (Lk.t rfl) (fun hq => Lk.g rfl hq)) ?_
  refine F rfl rfl (PStep.move rfl (Lk.t rfl)) ?_
  refine FW rfl (WStep.guard rfl rfl rfl rfl (fun hg => PStep.ldLocV (α := Index) (v := x1.1) 0 Tryz.isAgg25 Tryz.sizeOf25 rfl (Lk.t rfl) rfl rfl)) ?_
  refine FW rfl (WStep.guard rfl rfl rfl rfl (fun hg => PStep.move rfl (Lk.t rfl))) ?_
  refine FW rfl (WStep.guard rfl rfl rfl rfl (fun hg => PStep.move rfl (Lk.t rfl))) ?_
  obtain ⟨x3, hx3, hm⟩ := bnd_some hm
  refine FW rfl (WStep.guard rfl rfl rfl rfl (fun hg => PStep.call ((s_proof_Refutes x1.1 x1.2.1 x1.2.2 x3 (gd_some hx3 hg))) Tryz.call15 rfl (LkAll.cons (Lk.g rfl hg) (LkAll.cons (Lk.g rfl hg) (LkAll.cons (Lk.g rfl hg) LkAll.nil))))) ?_
  refine FW rfl (WStep.guard rfl rfl rfl rfl (fun hg => PStep.neq rfl (Lk.g rfl hg) Lk.c)) ?_
  refine F rfl rfl (PStep.pickOr rfl (Lk.t rfl) (fun hq => Lk.g rfl hq)) ?_
  refine F rfl rfl (PStep.move rfl (Lk.t rfl)) ?_
  refine FW rfl (WStep.guard rfl rfl rfl rfl (fun hg => PStep.ldLocV (α := Index) (v := x1.1) 0 Tryz.isAgg25 Tryz.sizeOf25 rfl (Lk.t rfl) rfl rfl)) ?_
  refine FW rfl (WStep.guard rfl rfl rfl rfl (fun hg => PStep.move rfl (Lk.t rfl))) ?_
  refine FW rfl (WStep.guard rfl rfl rfl rfl (fun hg => PStep.move rfl (Lk.t rfl))) ?_
  obtain ⟨hk3, hm⟩ := chk_some hm
  refine FW rfl (WStep.guard rfl rfl rfl rfl (fun hg => PStep.slI (xs := x1.2.2) ((0 : Int)) ((6 : Int)) Tryz.runUnderlying27 Tryz.sizeOf68 rfl (Lk.g rfl hg) rfl ⟨_, Lk.c⟩ (hk3 hg))) ?_
  obtain ⟨x4, hx4, hm⟩ := bnd_some hm
  refine FW rfl (WStep.guard rfl rfl rfl rfl (fun hg => PStep.call ((s_proof_Refutes x1.1 x1.2.1 (((x1.2.2.take ((6 : Int)).toNat).drop ((0 : Int)).toNat)) x4 (gd_some hx4 hg))) Tryz.call15 rfl (LkAll.cons (Lk.g rfl hg) (LkAll.cons (Lk.g rfl hg) (LkAll.cons (Lk.g rfl hg) LkAll.nil))))) ?_
  refine FW rfl (WStep.guard rfl rfl rfl rfl (fun hg => PStep.neq rfl (Lk.g rfl hg) Lk.c)) ?_
  refine F rfl rfl (PStep.pickOr rfl (Lk.t rfl) (fun hq => Lk.g rfl hq)) ?_
  refine FlowH.nil ?_
  refine ⟨rfl, ?_⟩
  refine AllocK.none rfl ?_
  refine TrL.nil ?_
  refine TrE.seq ?_
  refine TrC.condB (Lk.t rfl) (fun hc1 => ?_) (fun hc1 => ?_)
  · have hm := cond_t hm hc1
    have hs1 := hc1
    try simp only [decide_eq_true_eq, decide_eq_false_iff_not, Bool.and_eq_true, Bool.or_eq_true, Bool.not_eq_true', Bool.not_eq_false', Bool.and_eq_false_iff, Bool.or_eq_false_iff] at hs1
    refine TrC.seq ?_
    refine TrC.region rfl ?_
    refine L rfl rfl (PStep.assign rfl Lk.c) ?_
    refine TrL.nil ?_
    refine TrE.seq ?_
    refine TrC.ret (TrE.thenR <| ?_)
    cases hm
    exact TrE.retOK (RetOK.eq (show _ = _ from rfl) (RetOK.tmp rfl (Lk.t (t := 0) rfl) (List.nil_sublist _)))
  · have hm := cond_f hm hc1
    have hs1 := hc1
    try simp only [decide_eq_true_eq, decide_eq_false_iff_not, Bool.and_eq_true, Bool.or_eq_true, Bool.not_eq_true', Bool.not_eq_false', Bool.and_eq_false_iff, Bool.or_eq_false_iff] at hs1
    refine TrC.skip ?_
    refine TrE.seq ?_
    refine TrC.seq ?_
    refine TrC.region rfl ?_
    refine L rfl rfl (PStep.ldLocV (α := Index) (v := x1.1) 0 Tryz.isAgg25 Tryz.sizeOf25 rfl (Lk.t rfl) rfl rfl) ?_
    refine L rfl rfl (PStep.move rfl (Lk.t rfl)) ?_
    refine L rfl rfl (mk57_0 rfl Lk.c) ?_
    refine L rfl rfl (mk59_01 rfl Lk.c (Lk.t rfl)) ?_
    refine L rfl rfl (mk57_0 rfl Lk.c) ?_
    refine L rfl rfl (mk59_01 rfl Lk.c (Lk.t rfl)) ?_
    refine L rfl rfl (PStep.litX ([(⟨(⟨#[97, 47, 118, 49]⟩ : ByteArray), (⟨(1 : Int), 0, 0⟩ : Version)⟩ : Selected), (⟨(⟨#[98, 47, 118, 49]⟩ : ByteArray), (⟨(1 : Int), 0, 0⟩ : Version)⟩ : Selected)] : (List Selected)) slT37 rfl ⟨rfl, Lk.agg (Lk.t rfl), ⟨rfl, Lk.agg (Lk.t rfl), trivial⟩⟩ rfl rfl) ?_
    obtain ⟨x5, hx5, hm⟩ := bnd_some hm
    refine L rfl rfl (PStep.call ((s_proof_Decisions x1.1 x1.2.1 (([(⟨(⟨#[97, 47, 118, 49]⟩ : ByteArray), (⟨(1 : Int), 0, 0⟩ : Version)⟩ : Selected), (⟨(⟨#[98, 47, 118, 49]⟩ : ByteArray), (⟨(1 : Int), 0, 0⟩ : Version)⟩ : Selected)] : (List Selected))) x5 hx5)) Tryz.call18 rfl (LkAll.cons (Lk.t rfl) (LkAll.cons (Lk.t rfl) (LkAll.cons (Lk.slX (Lk.t rfl)) LkAll.nil)))) ?_
    refine L rfl rfl (PStep.move rfl (Lk.t rfl)) ?_
    refine L rfl rfl (PStep.extract rfl (Lk.t rfl) rfl) ?_
    refine L rfl rfl (PStep.extract rfl (Lk.t rfl) rfl) ?_
    refine L rfl rfl (PStep.assign rfl (Lk.t rfl)) ?_
    refine L rfl rfl (PStep.assign rfl (Lk.t rfl)) ?_
    refine TrL.nil ?_
    refine TrE.seq ?_
    refine TrC.seq ?_
    refine TrC.region rfl ?_
    refine L rfl rfl (PStep.move rfl (Lk.t rfl)) ?_
    refine L rfl rfl (PStep.eql rfl (Lk.t rfl) Lk.c) ?_
    refine L rfl rfl (PStep.move rfl (Lk.t rfl)) ?_
    refine LW rfl (WStep.guard rfl rfl rfl rfl (fun hg => PStep.move rfl (Lk.t rfl))) ?_
    refine LW rfl (WStep.guard rfl rfl rfl rfl (fun hg => PStep.litX ([(⟨#[97, 47, 118, 49]⟩ : ByteArray), (⟨#[98, 47, 118, 49]⟩ : ByteArray)] : (List ByteArray)) slT42 rfl ⟨rfl, Lk.eS Lk.c, ⟨rfl, Lk.eS Lk.c, trivial⟩⟩ rfl rfl)) ?_
    obtain ⟨x6, hx6, hm⟩ := bnd_some hm
    refine LW rfl (WStep.guard rfl rfl rfl rfl (fun hg => PStep.call ((s_slices_Equal_string_string x5.1 (([(⟨#[97, 47, 118, 49]⟩ : ByteArray), (⟨#[98, 47, 118, 49]⟩ : ByteArray)] : (List ByteArray))) x6 (gd_some hx6 hg))) Tryz.call20 rfl (LkAll.cons (Lk.g rfl hg) (LkAll.cons (Lk.slX (Lk.g rfl hg)) LkAll.nil)))) ?_
    refine L rfl rfl (PStep.pickAnd rfl (Lk.t rfl) (fun hq => Lk.g rfl hq)) ?_
    refine L rfl rfl (PStep.move rfl (Lk.t rfl)) ?_
    refine LW rfl (WStep.guard rfl rfl rfl rfl (fun hg => PStep.ldLocV (α := Index) (v := x1.1) 0 Tryz.isAgg25 Tryz.sizeOf25 rfl (Lk.t rfl) rfl rfl)) ?_
    refine LW rfl (WStep.guard rfl rfl rfl rfl (fun hg => PStep.move rfl (Lk.t rfl))) ?_
    refine LW rfl (WStep.guard rfl rfl rfl rfl (fun hg => PStep.move rfl (Lk.t rfl))) ?_
    refine LW rfl (WStep.guard rfl rfl rfl rfl (fun hg => mk40_2 rfl (Lk.g rfl hg))) ?_
    obtain ⟨x7, hx7, hm⟩ := bnd_some hm
    refine LW rfl (WStep.guard rfl rfl rfl rfl (fun hg => PStep.call ((s_proof_Check x1.1 x1.2.1 ((⟨false, [], x1.2.2, []⟩ : Answer)) x7 (gd_some hx7 hg))) Tryz.call21 rfl (LkAll.cons (Lk.g rfl hg) (LkAll.cons (Lk.g rfl hg) (LkAll.cons (Lk.g rfl hg) LkAll.nil))))) ?_
    refine LW rfl (WStep.guard rfl rfl rfl rfl (fun hg => PStep.eql rfl (Lk.g rfl hg) Lk.c)) ?_
    refine L rfl rfl (PStep.pickAnd rfl (Lk.t rfl) (fun hq => Lk.g rfl hq)) ?_
    refine L rfl rfl (PStep.move rfl (Lk.t rfl)) ?_
    refine LW rfl (WStep.guard rfl rfl rfl rfl (fun hg => PStep.ldLocV (α := Index) (v := x1.1) 0 Tryz.isAgg25 Tryz.sizeOf25 rfl (Lk.t rfl) rfl rfl)) ?_
    refine LW rfl (WStep.guard rfl rfl rfl rfl (fun hg => PStep.move rfl (Lk.t rfl))) ?_
    refine LW rfl (WStep.guard rfl rfl rfl rfl (fun hg => mk40_0 rfl Lk.c)) ?_
    obtain ⟨x8, hx8, hm⟩ := bnd_some hm
    refine LW rfl (WStep.guard rfl rfl rfl rfl (fun hg => PStep.call ((s_proof_Check x1.1 x1.2.1 ((⟨true, [], [], []⟩ : Answer)) x8 (gd_some hx8 hg))) Tryz.call21 rfl (LkAll.cons (Lk.g rfl hg) (LkAll.cons (Lk.g rfl hg) (LkAll.cons (Lk.g rfl hg) LkAll.nil))))) ?_
    refine LW rfl (WStep.guard rfl rfl rfl rfl (fun hg => PStep.eql rfl (Lk.g rfl hg) Lk.c)) ?_
    refine L rfl rfl (PStep.pickAnd rfl (Lk.t rfl) (fun hq => Lk.g rfl hq)) ?_
    refine L rfl rfl (PStep.assign rfl (Lk.t rfl)) ?_
    refine TrL.nil ?_
    refine TrE.seq ?_
    refine TrC.ret (?_)
    cases hm
    exact TrE.retOK (RetOK.eq (show _ = _ from rfl) (RetOK.tmp rfl (Lk.t (t := 0) rfl) (List.nil_sublist _)))
def m_modcertref32_FewRequirements_L2 (a0 : (List Requirement)) (K1 : Unit → Option (Bool)) : Nat → Nat → Option (Bool)
  | 0, _ => none
  | n + 1, i1 =>
    (bif (decide ((i1 : Int) < (a0.length : Int))) then chk (((decide ((100 : Int) < ((((ix a0 ((i1 : Int)))).path).size : Int))) = false) → 0 ≤ (i1 : Int) ∧ (i1 : Int) < (a0.length : Int)) <| (bif ((decide ((100 : Int) < ((((ix a0 ((i1 : Int)))).path).size : Int))) || (decide ((8 : Int) < ((((ix a0 ((i1 : Int)))).set_).length : Int)))) then some false
  else m_modcertref32_FewRequirements_L2 a0 K1 n ((i1 + 1)))
  else K1 ())
def m_modcertref32_FewRequirements (a0 : (List Requirement)) : Option (Bool) :=
  joinM (fun (_ : Unit) =>
    some ((decide ((a0.length : Int) ≤ (20 : Int))))) fun K1 =>
    m_modcertref32_FewRequirements_L2 a0 K1 (a0.length + 1) 0
theorem s_modcertref32_FewRequirements (a0 : (List Requirement)) (r : Bool) (hm : m_modcertref32_FewRequirements a0 = some r) : Fn Tryz.prog 35 [pSl (a0 : (List Requirement))] (pB (r)) := by
  unfold m_modcertref32_FewRequirements at hm
  refine Spec.mk Tryz.func35 rfl rfl fun B => ?_
  refine TrC.seq ?_
  refine TrC.region rfl ?_
  refine L rfl rfl (PStep.assign rfl Lk.c) ?_
  refine TrL.nil ?_
  refine TrE.seq ?_
  obtain ⟨K1, hK1, hm⟩ := joinK hm
  refine TrC.meetM (X := Unit) (fun _ => K1 () = some r) (fun _ => []) [(0, _)] (fun _ => fun A => A) (EnvSub.cons rfl EnvSub.nil) ?_ ?_
  · refine TrC.seq ?_
    refine TrC.region rfl ?_
    refine L rfl rfl (PStep.assign rfl Lk.c) ?_
    refine TrL.nil ?_
    refine TrE.seq ?_
    refine TrC.block ?_
    refine TrC.know (Lk.t (t := 0) rfl) pSl.lt fun hl1 => ?_
    refine TrC.loopM (X := Nat × Nat) (fun ⟨n, i1⟩ => m_modcertref32_FewRequirements_L2 a0 K1 n i1 = some r) (fun ⟨n, i1⟩ => [(3, pI ((i1 : Int)))]) [(0, _)] (fun ⟨n, i1⟩ => fun A => A) (fun ⟨n, i1⟩ => n) (((a0.length + 1 : Nat), 0)) hm ((EnvSub.cons rfl (EnvSub.cons rfl EnvSub.nil))) rfl ?_
    rintro ⟨n, i1⟩ hm
    obtain ⟨n, rfl⟩ := succ_of (f := fun n => m_modcertref32_FewRequirements_L2 a0 K1 n i1) rfl hm
    change m_modcertref32_FewRequirements_L2 a0 K1 (n + 1) i1 = some r at hm
    rw [m_modcertref32_FewRequirements_L2] at hm
    refine TrC.seq ?_
    refine TrC.seq ?_
    refine TrC.region rfl ?_
    refine L rfl rfl (PStep.move rfl (Lk.t rfl)) ?_
    refine L rfl rfl (PStep.move rfl (Lk.t rfl)) ?_
    refine L rfl rfl (PStep.len (xs := a0) (tys := #[]) Tryz.runUnderlying26 rfl (Lk.t rfl)) ?_
    refine L rfl rfl (PStep.lss rfl (Lk.t rfl) (Lk.t rfl)) ?_
    refine TrL.nil ?_
    refine TrE.seq ?_
    refine TrC.condB (Lk.t rfl) (fun hc1 => ?_) (fun hc1 => ?_)
    · have hm := cond_t hm hc1
      have hs1 := hc1
      try simp only [decide_eq_true_eq, decide_eq_false_iff_not, Bool.and_eq_true, Bool.or_eq_true, Bool.not_eq_true', Bool.not_eq_false', Bool.and_eq_false_iff, Bool.or_eq_false_iff] at hs1
      refine TrC.skip ?_
      refine TrE.seq ?_
      refine TrC.seq ?_
      refine TrC.block ?_
      refine TrC.seq ?_
      refine TrC.region rfl ?_
      refine L rfl rfl (PStep.move rfl (Lk.t rfl)) ?_
      refine L rfl rfl (PStep.move rfl (Lk.t rfl)) ?_
      refine L rfl rfl (PStep.ixD (xs := a0) Tryz.runUnderlying26 Tryz.sizeOf120 rfl (Lk.t rfl) (Lk.t rfl) (by omega)) ?_
      refine L rfl rfl (PStep.faRef fo120_0 rfl (Lk.t rfl)) ?_
      refine L rfl rfl (PStep.ldRef Tryz.isAgg9 rfl (Lk.t rfl) rfl) ?_
      refine L rfl rfl (PStep.slen Tryz.runUnderlying9 rfl (Lk.t rfl)) ?_
      refine L rfl rfl (PStep.gtr rfl (Lk.t rfl) Lk.c) ?_
      refine L rfl rfl (PStep.move rfl (Lk.t rfl)) ?_
      refine LW rfl (WStep.guard rfl rfl rfl rfl (fun hg => PStep.move rfl (Lk.t rfl))) ?_
      refine LW rfl (WStep.guard rfl rfl rfl rfl (fun hg => PStep.move rfl (Lk.t rfl))) ?_
      obtain ⟨hk1, hm⟩ := chk_some hm
      refine LW rfl (WStep.guard rfl rfl rfl rfl (fun hg => PStep.ixD (xs := a0) Tryz.runUnderlying26 Tryz.sizeOf120 rfl (Lk.g rfl hg) (Lk.g rfl hg) (hk1 hg))) ?_
      refine LW rfl (WStep.guard rfl rfl rfl rfl (fun hg => PStep.faRef fo120_1 rfl (Lk.g rfl hg))) ?_
      refine LW rfl (WStep.guard rfl rfl rfl rfl (fun hg => PStep.ldRef Tryz.isAgg105 rfl (Lk.g rfl hg) rfl)) ?_
      refine LW rfl (WStep.guard rfl rfl rfl rfl (fun hg => PStep.len (xs := ((ix a0 ((i1 : Int)))).set_) (tys := #[]) Tryz.runUnderlying105 rfl (Lk.g rfl hg))) ?_
      refine LW rfl (WStep.guard rfl rfl rfl rfl (fun hg => PStep.gtr rfl (Lk.g rfl hg) Lk.c)) ?_
      refine L rfl rfl (PStep.pickOr rfl (Lk.t rfl) (fun hq => Lk.g rfl hq)) ?_
      refine TrL.nil ?_
      refine TrE.seq ?_
      refine TrC.condB (Lk.t rfl) (fun hc2 => ?_) (fun hc2 => ?_)
      · have hm := cond_t hm hc2
        have hs2 := hc2
        try simp only [decide_eq_true_eq, decide_eq_false_iff_not, Bool.and_eq_true, Bool.or_eq_true, Bool.not_eq_true', Bool.not_eq_false', Bool.and_eq_false_iff, Bool.or_eq_false_iff] at hs2
        refine TrC.seq ?_
        refine TrC.region rfl ?_
        refine L rfl rfl (PStep.assign rfl Lk.c) ?_
        refine TrL.nil ?_
        refine TrE.seq ?_
        refine TrC.ret (TrE.blockR <| TrE.thenR <| TrE.thenR <| TrE.blockR <| TrE.thenR <| ?_)
        cases hm
        exact TrE.retOK (RetOK.eq (show _ = _ from rfl) (RetOK.tmp rfl (Lk.t (t := 2) rfl) (List.nil_sublist _)))
      · have hm := cond_f hm hc2
        have hs2 := hc2
        try simp only [decide_eq_true_eq, decide_eq_false_iff_not, Bool.and_eq_true, Bool.or_eq_true, Bool.not_eq_true', Bool.not_eq_false', Bool.and_eq_false_iff, Bool.or_eq_false_iff] at hs2
        refine TrC.skip ?_
        refine TrE.blockN ?_
        refine TrE.seq ?_
        refine TrC.region rfl ?_
        refine L rfl rfl (PStep.move rfl (Lk.t rfl)) ?_
        refine L rfl rfl (PStep.add64 rfl (Lk.t rfl) Lk.c (by omega)) ?_
        refine L rfl rfl (PStep.assign rfl (Lk.t rfl)) ?_
        refine TrL.nil ?_
        refine TrE.again ((n, (i1 + 1))) hm (Nat.lt_succ_self n) ((EnvSub.cons rfl (EnvSub.cons rfl EnvSub.nil))) rfl
    · have hm := cond_f hm hc1
      have hs1 := hc1
      try simp only [decide_eq_true_eq, decide_eq_false_iff_not, Bool.and_eq_true, Bool.or_eq_true, Bool.not_eq_true', Bool.not_eq_false', Bool.and_eq_false_iff, Bool.or_eq_false_iff] at hs1
      refine TrC.exit (TrE.thenX <| TrE.thenX <| TrE.blockHit <| ?_)
      refine TrE.meetX (()) hm ((EnvSub.cons rfl EnvSub.nil)) rfl
  · rintro _ hm
    change K1 () = some r at hm
    subst hK1
    refine TrC.seq ?_
    refine TrC.region rfl ?_
    refine L rfl rfl (PStep.move rfl (Lk.t rfl)) ?_
    refine L rfl rfl (PStep.len (xs := a0) (tys := #[]) Tryz.runUnderlying26 rfl (Lk.t rfl)) ?_
    refine L rfl rfl (PStep.leq rfl (Lk.t rfl) Lk.c) ?_
    refine L rfl rfl (PStep.assign rfl (Lk.t rfl)) ?_
    refine TrL.nil ?_
    refine TrE.seq ?_
    refine TrC.ret (?_)
    cases hm
    exact TrE.retOK (RetOK.eq (show _ = _ from rfl) (RetOK.tmp rfl (Lk.t (t := 2) rfl) (List.nil_sublist _)))
def m_modcertref32_FewReleases_L2 (a0 : (List Release)) (K1 : Unit → Option (Bool)) : Nat → Nat → Option (Bool)
  | 0, _ => none
  | n + 1, i1 =>
    (bif (decide ((i1 : Int) < (a0.length : Int))) then chk (((decide ((100 : Int) < ((((ix a0 ((i1 : Int)))).path).size : Int))) = false) → 0 ≤ (i1 : Int) ∧ (i1 : Int) < (a0.length : Int)) <| chk ((((decide ((100 : Int) < ((((ix a0 ((i1 : Int)))).path).size : Int))) || (decide ((100 : Int) < ((((ix a0 ((i1 : Int)))).archive).size : Int)))) = false) → 0 ≤ (i1 : Int) ∧ (i1 : Int) < (a0.length : Int)) <| chk (((((decide ((100 : Int) < ((((ix a0 ((i1 : Int)))).path).size : Int))) || (decide ((100 : Int) < ((((ix a0 ((i1 : Int)))).archive).size : Int)))) || (decide ((100 : Int) < ((((ix a0 ((i1 : Int)))).interface).size : Int)))) = false) → 0 ≤ (i1 : Int) ∧ (i1 : Int) < (a0.length : Int)) <| chk ((((((decide ((100 : Int) < ((((ix a0 ((i1 : Int)))).path).size : Int))) || (decide ((100 : Int) < ((((ix a0 ((i1 : Int)))).archive).size : Int)))) || (decide ((100 : Int) < ((((ix a0 ((i1 : Int)))).interface).size : Int)))) || (decide ((100 : Int) < ((((ix a0 ((i1 : Int)))).certificate).size : Int)))) = false) → 0 ≤ (i1 : Int) ∧ (i1 : Int) < (a0.length : Int)) <| bnd (gd (((((decide ((100 : Int) < ((((ix a0 ((i1 : Int)))).path).size : Int))) || (decide ((100 : Int) < ((((ix a0 ((i1 : Int)))).archive).size : Int)))) || (decide ((100 : Int) < ((((ix a0 ((i1 : Int)))).interface).size : Int)))) || (decide ((100 : Int) < ((((ix a0 ((i1 : Int)))).certificate).size : Int)))) = false) (m_modcertref32_FewRequirements (((ix a0 ((i1 : Int)))).requirements))) fun x1 => (bif (((((decide ((100 : Int) < ((((ix a0 ((i1 : Int)))).path).size : Int))) || (decide ((100 : Int) < ((((ix a0 ((i1 : Int)))).archive).size : Int)))) || (decide ((100 : Int) < ((((ix a0 ((i1 : Int)))).interface).size : Int)))) || (decide ((100 : Int) < ((((ix a0 ((i1 : Int)))).certificate).size : Int)))) || (!x1)) then some false
  else m_modcertref32_FewReleases_L2 a0 K1 n ((i1 + 1)))
  else K1 ())
def m_modcertref32_FewReleases (a0 : (List Release)) (a1 : Int) : Option (Bool) :=
  joinM (fun (_ : Unit) =>
    some ((decide ((a0.length : Int) ≤ a1)))) fun K1 =>
    m_modcertref32_FewReleases_L2 a0 K1 (a0.length + 1) 0
theorem s_modcertref32_FewReleases (a0 : (List Release)) (a1 : Int) (r : Bool) (hm : m_modcertref32_FewReleases a0 a1 = some r) : Fn Tryz.prog 34 [pSl (a0 : (List Release)), pI (a1)] (pB (r)) := by
  unfold m_modcertref32_FewReleases at hm
  refine Spec.mk Tryz.func34 rfl rfl fun B => ?_
  refine TrC.seq ?_
  refine TrC.region rfl ?_
  refine L rfl rfl (PStep.assign rfl Lk.c) ?_
  refine TrL.nil ?_
  refine TrE.seq ?_
  obtain ⟨K1, hK1, hm⟩ := joinK hm
  refine TrC.meetM (X := Unit) (fun _ => K1 () = some r) (fun _ => []) [(0, _), (1, _)] (fun _ => fun A => A) (EnvSub.cons rfl (EnvSub.cons rfl EnvSub.nil)) ?_ ?_
  · refine TrC.seq ?_
    refine TrC.region rfl ?_
    refine L rfl rfl (PStep.assign rfl Lk.c) ?_
    refine TrL.nil ?_
    refine TrE.seq ?_
    refine TrC.block ?_
    refine TrC.know (Lk.t (t := 0) rfl) pSl.lt fun hl1 => ?_
    refine TrC.loopM (X := Nat × Nat) (fun ⟨n, i1⟩ => m_modcertref32_FewReleases_L2 a0 K1 n i1 = some r) (fun ⟨n, i1⟩ => [(5, pI ((i1 : Int)))]) [(0, _), (1, _)] (fun ⟨n, i1⟩ => fun A => A) (fun ⟨n, i1⟩ => n) (((a0.length + 1 : Nat), 0)) hm ((EnvSub.cons rfl (EnvSub.cons rfl (EnvSub.cons rfl EnvSub.nil)))) rfl ?_
    rintro ⟨n, i1⟩ hm
    obtain ⟨n, rfl⟩ := succ_of (f := fun n => m_modcertref32_FewReleases_L2 a0 K1 n i1) rfl hm
    change m_modcertref32_FewReleases_L2 a0 K1 (n + 1) i1 = some r at hm
    rw [m_modcertref32_FewReleases_L2] at hm
    refine TrC.seq ?_
    refine TrC.seq ?_
    refine TrC.region rfl ?_
    refine L rfl rfl (PStep.move rfl (Lk.t rfl)) ?_
    refine L rfl rfl (PStep.move rfl (Lk.t rfl)) ?_
    refine L rfl rfl (PStep.len (xs := a0) (tys := #[]) Tryz.runUnderlying22 rfl (Lk.t rfl)) ?_
    refine L rfl rfl (PStep.lss rfl (Lk.t rfl) (Lk.t rfl)) ?_
    refine TrL.nil ?_
    refine TrE.seq ?_
    refine TrC.condB (Lk.t rfl) (fun hc1 => ?_) (fun hc1 => ?_)
    · have hm := cond_t hm hc1
      have hs1 := hc1
      try simp only [decide_eq_true_eq, decide_eq_false_iff_not, Bool.and_eq_true, Bool.or_eq_true, Bool.not_eq_true', Bool.not_eq_false', Bool.and_eq_false_iff, Bool.or_eq_false_iff] at hs1
      refine TrC.skip ?_
      refine TrE.seq ?_
      refine TrC.seq ?_
      refine TrC.block ?_
      refine TrC.seq ?_
      refine TrC.region rfl ?_
      refine L rfl rfl (PStep.move rfl (Lk.t rfl)) ?_
      refine L rfl rfl (PStep.move rfl (Lk.t rfl)) ?_
      refine L rfl rfl (PStep.ixD (xs := a0) Tryz.runUnderlying22 Tryz.sizeOf89 rfl (Lk.t rfl) (Lk.t rfl) (by omega)) ?_
      refine L rfl rfl (PStep.faRef fo89_0 rfl (Lk.t rfl)) ?_
      refine L rfl rfl (PStep.ldRef Tryz.isAgg9 rfl (Lk.t rfl) rfl) ?_
      refine L rfl rfl (PStep.slen Tryz.runUnderlying9 rfl (Lk.t rfl)) ?_
      refine L rfl rfl (PStep.gtr rfl (Lk.t rfl) Lk.c) ?_
      refine L rfl rfl (PStep.move rfl (Lk.t rfl)) ?_
      refine LW rfl (WStep.guard rfl rfl rfl rfl (fun hg => PStep.move rfl (Lk.t rfl))) ?_
      refine LW rfl (WStep.guard rfl rfl rfl rfl (fun hg => PStep.move rfl (Lk.t rfl))) ?_
      obtain ⟨hk1, hm⟩ := chk_some hm
      refine LW rfl (WStep.guard rfl rfl rfl rfl (fun hg => PStep.ixD (xs := a0) Tryz.runUnderlying22 Tryz.sizeOf89 rfl (Lk.g rfl hg) (Lk.g rfl hg) (hk1 hg))) ?_
      refine LW rfl (WStep.guard rfl rfl rfl rfl (fun hg => PStep.faRef fo89_3 rfl (Lk.g rfl hg))) ?_
      refine LW rfl (WStep.guard rfl rfl rfl rfl (fun hg => PStep.ldRef Tryz.isAgg9 rfl (Lk.g rfl hg) rfl)) ?_
      refine LW rfl (WStep.guard rfl rfl rfl rfl (fun hg => PStep.slen Tryz.runUnderlying9 rfl (Lk.g rfl hg))) ?_
      refine LW rfl (WStep.guard rfl rfl rfl rfl (fun hg => PStep.gtr rfl (Lk.g rfl hg) Lk.c)) ?_
      refine L rfl rfl (PStep.pickOr rfl (Lk.t rfl) (fun hq => Lk.g rfl hq)) ?_
      refine L rfl rfl (PStep.move rfl (Lk.t rfl)) ?_
      refine LW rfl (WStep.guard rfl rfl rfl rfl (fun hg => PStep.move rfl (Lk.t rfl))) ?_
      refine LW rfl (WStep.guard rfl rfl rfl rfl (fun hg => PStep.move rfl (Lk.t rfl))) ?_
      obtain ⟨hk2, hm⟩ := chk_some hm
      refine LW rfl (WStep.guard rfl rfl rfl rfl (fun hg => PStep.ixD (xs := a0) Tryz.runUnderlying22 Tryz.sizeOf89 rfl (Lk.g rfl hg) (Lk.g rfl hg) (hk2 hg))) ?_
      refine LW rfl (WStep.guard rfl rfl rfl rfl (fun hg => PStep.faRef fo89_4 rfl (Lk.g rfl hg))) ?_
      refine LW rfl (WStep.guard rfl rfl rfl rfl (fun hg => PStep.ldRef Tryz.isAgg9 rfl (Lk.g rfl hg) rfl)) ?_
      refine LW rfl (WStep.guard rfl rfl rfl rfl (fun hg => PStep.slen Tryz.runUnderlying9 rfl (Lk.g rfl hg))) ?_
      refine LW rfl (WStep.guard rfl rfl rfl rfl (fun hg => PStep.gtr rfl (Lk.g rfl hg) Lk.c)) ?_
      refine L rfl rfl (PStep.pickOr rfl (Lk.t rfl) (fun hq => Lk.g rfl hq)) ?_
      refine L rfl rfl (PStep.move rfl (Lk.t rfl)) ?_
      refine LW rfl (WStep.guard rfl rfl rfl rfl (fun hg => PStep.move rfl (Lk.t rfl))) ?_
      refine LW rfl (WStep.guard rfl rfl rfl rfl (fun hg => PStep.move rfl (Lk.t rfl))) ?_
      obtain ⟨hk3, hm⟩ := chk_some hm
      refine LW rfl (WStep.guard rfl rfl rfl rfl (fun hg => PStep.ixD (xs := a0) Tryz.runUnderlying22 Tryz.sizeOf89 rfl (Lk.g rfl hg) (Lk.g rfl hg) (hk3 hg))) ?_
      refine LW rfl (WStep.guard rfl rfl rfl rfl (fun hg => PStep.faRef fo89_5 rfl (Lk.g rfl hg))) ?_
      refine LW rfl (WStep.guard rfl rfl rfl rfl (fun hg => PStep.ldRef Tryz.isAgg9 rfl (Lk.g rfl hg) rfl)) ?_
      refine LW rfl (WStep.guard rfl rfl rfl rfl (fun hg => PStep.slen Tryz.runUnderlying9 rfl (Lk.g rfl hg))) ?_
      refine LW rfl (WStep.guard rfl rfl rfl rfl (fun hg => PStep.gtr rfl (Lk.g rfl hg) Lk.c)) ?_
      refine L rfl rfl (PStep.pickOr rfl (Lk.t rfl) (fun hq => Lk.g rfl hq)) ?_
      refine L rfl rfl (PStep.move rfl (Lk.t rfl)) ?_
      refine LW rfl (WStep.guard rfl rfl rfl rfl (fun hg => PStep.move rfl (Lk.t rfl))) ?_
      refine LW rfl (WStep.guard rfl rfl rfl rfl (fun hg => PStep.move rfl (Lk.t rfl))) ?_
      obtain ⟨hk4, hm⟩ := chk_some hm
      refine LW rfl (WStep.guard rfl rfl rfl rfl (fun hg => PStep.ixD (xs := a0) Tryz.runUnderlying22 Tryz.sizeOf89 rfl (Lk.g rfl hg) (Lk.g rfl hg) (hk4 hg))) ?_
      refine LW rfl (WStep.guard rfl rfl rfl rfl (fun hg => PStep.faRef fo89_2 rfl (Lk.g rfl hg))) ?_
      refine LW rfl (WStep.guard rfl rfl rfl rfl (fun hg => PStep.ldRef Tryz.isAgg26 rfl (Lk.g rfl hg) rfl)) ?_
      obtain ⟨x1, hx1, hm⟩ := bnd_some hm
      refine LW rfl (WStep.guard rfl rfl rfl rfl (fun hg => PStep.call ((s_modcertref32_FewRequirements (((ix a0 ((i1 : Int)))).requirements) x1 (gd_some hx1 hg))) Tryz.call35 rfl (LkAll.cons (Lk.g rfl hg) LkAll.nil))) ?_
      refine LW rfl (WStep.guard rfl rfl rfl rfl (fun hg => PStep.not rfl (Lk.g rfl hg))) ?_
      refine L rfl rfl (PStep.pickOr rfl (Lk.t rfl) (fun hq => Lk.g rfl hq)) ?_
      refine TrL.nil ?_
      refine TrE.seq ?_
      refine TrC.condB (Lk.t rfl) (fun hc2 => ?_) (fun hc2 => ?_)
      · have hm := cond_t hm hc2
        have hs2 := hc2
        try simp only [decide_eq_true_eq, decide_eq_false_iff_not, Bool.and_eq_true, Bool.or_eq_true, Bool.not_eq_true', Bool.not_eq_false', Bool.and_eq_false_iff, Bool.or_eq_false_iff] at hs2
        refine TrC.seq ?_
        refine TrC.region rfl ?_
        refine L rfl rfl (PStep.assign rfl Lk.c) ?_
        refine TrL.nil ?_
        refine TrE.seq ?_
        refine TrC.ret (TrE.blockR <| TrE.thenR <| TrE.thenR <| TrE.blockR <| TrE.thenR <| ?_)
        cases hm
        exact TrE.retOK (RetOK.eq (show _ = _ from rfl) (RetOK.tmp rfl (Lk.t (t := 4) rfl) (List.nil_sublist _)))
      · have hm := cond_f hm hc2
        have hs2 := hc2
        try simp only [decide_eq_true_eq, decide_eq_false_iff_not, Bool.and_eq_true, Bool.or_eq_true, Bool.not_eq_true', Bool.not_eq_false', Bool.and_eq_false_iff, Bool.or_eq_false_iff] at hs2
        refine TrC.skip ?_
        refine TrE.blockN ?_
        refine TrE.seq ?_
        refine TrC.region rfl ?_
        refine L rfl rfl (PStep.move rfl (Lk.t rfl)) ?_
        refine L rfl rfl (PStep.add64 rfl (Lk.t rfl) Lk.c (by omega)) ?_
        refine L rfl rfl (PStep.assign rfl (Lk.t rfl)) ?_
        refine TrL.nil ?_
        refine TrE.again ((n, (i1 + 1))) hm (Nat.lt_succ_self n) ((EnvSub.cons rfl (EnvSub.cons rfl (EnvSub.cons rfl EnvSub.nil)))) rfl
    · have hm := cond_f hm hc1
      have hs1 := hc1
      try simp only [decide_eq_true_eq, decide_eq_false_iff_not, Bool.and_eq_true, Bool.or_eq_true, Bool.not_eq_true', Bool.not_eq_false', Bool.and_eq_false_iff, Bool.or_eq_false_iff] at hs1
      refine TrC.exit (TrE.thenX <| TrE.thenX <| TrE.blockHit <| ?_)
      refine TrE.meetX (()) hm ((EnvSub.cons rfl (EnvSub.cons rfl EnvSub.nil))) rfl
  · rintro _ hm
    change K1 () = some r at hm
    subst hK1
    refine TrC.seq ?_
    refine TrC.region rfl ?_
    refine L rfl rfl (PStep.move rfl (Lk.t rfl)) ?_
    refine L rfl rfl (PStep.len (xs := a0) (tys := #[]) Tryz.runUnderlying22 rfl (Lk.t rfl)) ?_
    refine L rfl rfl (PStep.move rfl (Lk.t rfl)) ?_
    refine L rfl rfl (PStep.leq rfl (Lk.t rfl) (Lk.t rfl)) ?_
    refine L rfl rfl (PStep.assign rfl (Lk.t rfl)) ?_
    refine TrL.nil ?_
    refine TrE.seq ?_
    refine TrC.ret (?_)
    cases hm
    exact TrE.retOK (RetOK.eq (show _ = _ from rfl) (RetOK.tmp rfl (Lk.t (t := 4) rfl) (List.nil_sublist _)))
def m_modcertref36_Few (a0 : Index) (a1 : (List Requirement)) : Option (Bool) :=
  bnd (m_modcertref32_FewReleases a0.releases ((16 : Int))) fun x1 => bnd (gd (x1 = true) (m_modcertref32_FewRequirements a1)) fun x2 => some ((x1 && x2))
theorem s_modcertref36_Few (a0 : Index) (a1 : (List Requirement)) (r : Bool) (hm : m_modcertref36_Few a0 a1 = some r) : Fn Tryz.prog 11 [pT (a0 : Index), pSl (a1 : (List Requirement))] (pB (r)) := by
  unfold m_modcertref36_Few at hm
  refine Spec.mk Tryz.func11 rfl rfl fun B => ?_
  refine TrC.seq ?_
  refine TrC.region rfl ?_
  refine TrL.alloc (AStep.boxK rfl rfl (Lk.t rfl)) rfl (fun b1 => ?_)
  refine L rfl rfl (PStep.assign rfl Lk.c) ?_
  refine TrL.nil ?_
  refine TrE.seq ?_
  refine TrC.seq ?_
  refine TrC.region rfl ?_
  refine L rfl rfl (PStep.faLoc fo25_0 rfl (Lk.t rfl)) ?_
  refine L rfl rfl (PStep.ldLoc 0 Tryz.isAgg22 rfl (Lk.t rfl) rfl rfl) ?_
  obtain ⟨x1, hx1, hm⟩ := bnd_some hm
  refine L rfl rfl (PStep.call ((s_modcertref32_FewReleases a0.releases ((16 : Int)) x1 hx1)) Tryz.call34 rfl (LkAll.cons (Lk.t rfl) (LkAll.cons Lk.c LkAll.nil))) ?_
  refine L rfl rfl (PStep.move rfl (Lk.t rfl)) ?_
  refine LW rfl (WStep.guard rfl rfl rfl rfl (fun hg => PStep.move rfl (Lk.t rfl))) ?_
  obtain ⟨x2, hx2, hm⟩ := bnd_some hm
  refine LW rfl (WStep.guard rfl rfl rfl rfl (fun hg => PStep.call ((s_modcertref32_FewRequirements a1 x2 (gd_some hx2 hg))) Tryz.call35 rfl (LkAll.cons (Lk.g rfl hg) LkAll.nil))) ?_
  refine L rfl rfl (PStep.pickAnd rfl (Lk.t rfl) (fun hq => Lk.g rfl hq)) ?_
  refine L rfl rfl (PStep.assign rfl (Lk.t rfl)) ?_
  refine TrL.nil ?_
  refine TrE.seq ?_
  refine TrC.ret (?_)
  cases hm
  exact TrE.retOK (RetOK.eq (show _ = _ from rfl) (RetOK.tmp rfl (Lk.t (t := 4) rfl) (List.nil_sublist _)))
def m_modcertlaw36_small (a0 : Answer) : Option (Bool) :=
  some ((((decide ((a0.inferences.length : Int) ≤ (400 : Int))) && (decide ((a0.selection.length : Int) ≤ (16 : Int)))) && (decide ((a0.skips.length : Int) ≤ (100 : Int)))))
theorem s_modcertlaw36_small (a0 : Answer) (r : Bool) (hm : m_modcertlaw36_small a0 = some r) : Fn Tryz.prog 17 [pT (a0 : Answer)] (pB (r)) := by
  unfold m_modcertlaw36_small at hm
  refine Spec.mk Tryz.func17 rfl rfl fun B => ?_
  refine TrC.seq ?_
  refine TrC.region rfl ?_
  refine TrL.alloc (AStep.boxK rfl rfl (Lk.t rfl)) rfl (fun b1 => ?_)
  refine L rfl rfl (PStep.assign rfl Lk.c) ?_
  refine TrL.nil ?_
  refine TrE.seq ?_
  refine TrC.seq ?_
  refine TrC.region rfl ?_
  refine L rfl rfl (PStep.faLoc fo40_2 rfl (Lk.t rfl)) ?_
  refine L rfl rfl (PStep.ldLoc 0 Tryz.isAgg27 rfl (Lk.t rfl) rfl rfl) ?_
  refine L rfl rfl (PStep.len (xs := a0.inferences) (tys := #[]) Tryz.runUnderlying27 rfl (Lk.t rfl)) ?_
  refine L rfl rfl (PStep.leq rfl (Lk.t rfl) Lk.c) ?_
  refine L rfl rfl (PStep.move rfl (Lk.t rfl)) ?_
  refine LW rfl (WStep.guard rfl rfl rfl rfl (fun hg => PStep.faLoc fo40_1 rfl (Lk.t rfl))) ?_
  refine LW rfl (WStep.guard rfl rfl rfl rfl (fun hg => PStep.ldLoc 0 Tryz.isAgg37 rfl (Lk.g rfl hg) rfl rfl)) ?_
  refine LW rfl (WStep.guard rfl rfl rfl rfl (fun hg => PStep.len (xs := a0.selection) (tys := #[]) Tryz.runUnderlying37 rfl (Lk.g rfl hg))) ?_
  refine LW rfl (WStep.guard rfl rfl rfl rfl (fun hg => PStep.leq rfl (Lk.g rfl hg) Lk.c)) ?_
  refine L rfl rfl (PStep.pickAnd rfl (Lk.t rfl) (fun hq => Lk.g rfl hq)) ?_
  refine L rfl rfl (PStep.move rfl (Lk.t rfl)) ?_
  refine LW rfl (WStep.guard rfl rfl rfl rfl (fun hg => PStep.faLoc fo40_3 rfl (Lk.t rfl))) ?_
  refine LW rfl (WStep.guard rfl rfl rfl rfl (fun hg => PStep.ldLoc 0 Tryz.isAgg38 rfl (Lk.g rfl hg) rfl rfl)) ?_
  refine LW rfl (WStep.guard rfl rfl rfl rfl (fun hg => PStep.len (xs := a0.skips) (tys := #[]) Tryz.runUnderlying38 rfl (Lk.g rfl hg))) ?_
  refine LW rfl (WStep.guard rfl rfl rfl rfl (fun hg => PStep.leq rfl (Lk.g rfl hg) Lk.c)) ?_
  refine L rfl rfl (PStep.pickAnd rfl (Lk.t rfl) (fun hq => Lk.g rfl hq)) ?_
  refine L rfl rfl (PStep.assign rfl (Lk.t rfl)) ?_
  refine TrL.nil ?_
  refine TrE.seq ?_
  refine TrC.ret (?_)
  cases hm
  exact TrE.retOK (RetOK.eq (show _ = _ from rfl) (RetOK.tmp rfl (Lk.t (t := 2) rfl) (List.nil_sublist _)))
def m_modcertlaw36_available_1 (a0 : Selected) (f0 : Index) : Option (Bool) :=
  bnd (m_index_Find f0 a0.path a0.version) fun x1 => some (((!x1.2) || x1.1.yanked))
theorem s_modcertlaw36_available_1 (a0 : Selected) (f0 : Index) (r : Bool) (hm : m_modcertlaw36_available_1 a0 f0 = some r) : Fn Tryz.prog 52 [pT (a0 : Selected), pR (f0 : Index)] (pB (r)) := by
  unfold m_modcertlaw36_available_1 at hm
  refine Spec.mk Tryz.func52 rfl rfl fun B => ?_
  refine TrC.seq ?_
  refine TrC.region rfl ?_
  refine TrL.alloc (AStep.boxK rfl rfl (Lk.t rfl)) rfl (fun b1 => ?_)
  refine L rfl rfl (PStep.assign rfl Lk.c) ?_
  refine TrL.nil ?_
  refine TrE.seq ?_
  refine TrC.seq ?_
  refine TrC.region rfl ?_
  refine L rfl rfl (PStep.ldRefV (α := Index) (v := f0) Tryz.isAgg25 Tryz.sizeOf25 rfl (Lk.t rfl) rfl) ?_
  refine L rfl rfl (PStep.faLoc fo59_0 rfl (Lk.t rfl)) ?_
  refine L rfl rfl (PStep.ldLoc 0 Tryz.isAgg9 rfl (Lk.t rfl) rfl rfl) ?_
  refine L rfl rfl (PStep.faLoc fo59_1 rfl (Lk.t rfl)) ?_
  refine L rfl rfl (PStep.ldLocV (α := Version) (v := a0.version) 0 Tryz.isAgg57 Tryz.sizeOf57 rfl (Lk.t rfl) rfl rfl) ?_
  obtain ⟨x1, hx1, hm⟩ := bnd_some hm
  refine L rfl rfl (PStep.call ((s_index_Find f0 a0.path a0.version x1 hx1)) Tryz.call53 rfl (LkAll.cons (Lk.t rfl) (LkAll.cons (Lk.t rfl) (LkAll.cons (Lk.t rfl) LkAll.nil)))) ?_
  refine L rfl rfl (PStep.move rfl (Lk.t rfl)) ?_
  refine L rfl rfl (PStep.extract rfl (Lk.t rfl) rfl) ?_
  refine L rfl rfl (PStep.extract rfl (Lk.t rfl) rfl) ?_
  refine TrL.alloc (AStep.alloc Tryz.zeroValue89 rfl zc89 rfl rfl) rfl (fun b2 => ?_)
  refine LS rfl rfl (Step.storeW 0 Tryz.sizeOf89 rfl (Lk.t rfl) (Lk.t rfl) rfl rfl rfl) ?_
  refine L rfl rfl (PStep.assign rfl (Lk.t rfl)) ?_
  refine TrL.nil ?_
  refine TrE.seq ?_
  refine TrC.seq ?_
  refine TrC.region rfl ?_
  refine L rfl rfl (PStep.move rfl (Lk.t rfl)) ?_
  refine L rfl rfl (PStep.not rfl (Lk.t rfl)) ?_
  refine L rfl rfl (PStep.move rfl (Lk.t rfl)) ?_
  refine LW rfl (WStep.guard rfl rfl rfl rfl (fun hg => PStep.faLoc fo89_6 rfl (Lk.t rfl))) ?_
  refine LW rfl (WStep.guard rfl rfl rfl rfl (fun hg => PStep.ldLoc 0 Tryz.isAgg4 rfl (Lk.g rfl hg) rfl rfl)) ?_
  refine L rfl rfl (PStep.pickOr rfl (Lk.t rfl) (fun hq => Lk.g rfl hq)) ?_
  refine L rfl rfl (PStep.assign rfl (Lk.t rfl)) ?_
  refine TrL.nil ?_
  refine TrE.seq ?_
  refine TrC.ret (?_)
  cases hm
  exact TrE.retOK (RetOK.eq (show _ = _ from rfl) (RetOK.tmp rfl (Lk.t (t := 3) rfl) (List.nil_sublist _)))
def m_modcertlaw36_available (a0 : Index) (a1 : (List Requirement)) (a2 : (List Selected)) : Option (Bool) :=
  bnd (m_index_Solves a0 a1 a2) fun x1 => bnd (gd ((decide (x1 = (0 : Int))) = true) (m_slices_ContainsFunc_Selected_Selected a2 ((fun z0 => m_modcertlaw36_available_1 z0 a0)))) fun x2 => some (((decide (x1 = (0 : Int))) && (!x2)))
theorem s_modcertlaw36_available (a0 : Index) (a1 : (List Requirement)) (a2 : (List Selected)) (r : Bool) (hm : m_modcertlaw36_available a0 a1 a2 = some r) : Fn Tryz.prog 23 [pT (a0 : Index), pSl (a1 : (List Requirement)), pSl (a2 : (List Selected))] (pB (r)) := by
  unfold m_modcertlaw36_available at hm
  refine Spec.mk Tryz.func23 rfl rfl fun B => ?_
  refine TrC.seq ?_
  refine TrC.region rfl ?_
  refine TrL.alloc (AStep.boxK rfl rfl (Lk.t rfl)) rfl (fun b1 => ?_)
  refine L rfl rfl (PStep.assign rfl Lk.c) ?_
  refine TrL.nil ?_
  refine TrE.seq ?_
  refine TrC.seq ?_
  refine TrC.settleC 0 3 rfl rfl ?_
  refine TrC.region rfl ?_
  refine L rfl rfl (PStep.ldRefV (α := Index) (v := a0) Tryz.isAgg25 Tryz.sizeOf25 rfl (Lk.t rfl) rfl) ?_
  refine L rfl rfl (PStep.move rfl (Lk.t rfl)) ?_
  refine L rfl rfl (PStep.move rfl (Lk.t rfl)) ?_
  obtain ⟨x1, hx1, hm⟩ := bnd_some hm
  refine L rfl rfl (PStep.call ((s_index_Solves a0 a1 a2 x1 hx1)) Tryz.call45 rfl (LkAll.cons (Lk.t rfl) (LkAll.cons (Lk.t rfl) (LkAll.cons (Lk.t rfl) LkAll.nil)))) ?_
  refine L rfl rfl (PStep.eql rfl (Lk.t rfl) Lk.c) ?_
  refine L rfl rfl (PStep.move rfl (Lk.t rfl)) ?_
  refine LW rfl (WStep.guard rfl rfl rfl rfl (fun hg => PStep.move rfl (Lk.t rfl))) ?_
  refine LW rfl (WStep.guard rfl rfl rfl rfl (fun hg => PStep.mkFun (ps := fun x : {x : Selected × Bool // (fun z0 => m_modcertlaw36_available_1 z0 a0) x.1 = some x.2} => [pT (x.1.1 : Selected)]) (p := fun x => pB (x.1.2)) (fun x => s_modcertlaw36_available_1 x.1.1 a0 x.1.2 x.2) Tryz.call52 rfl (LkAll.cons (Lk.t rfl) LkAll.nil))) ?_
  obtain ⟨x2, hx2, hm⟩ := bnd_some hm
  refine LW rfl (WStep.guard rfl rfl rfl rfl (fun hg => PStep.call ((s_slices_ContainsFunc_Selected_Selected a2 ((fun z0 => m_modcertlaw36_available_1 z0 a0)) x2 (gd_some hx2 hg))) Tryz.call51 rfl (LkAll.cons (Lk.g rfl hg) (LkAll.cons (Lk.g rfl hg) LkAll.nil)))) ?_
  refine LW rfl (WStep.guard rfl rfl rfl rfl (fun hg => PStep.not rfl (Lk.g rfl hg))) ?_
  refine L rfl rfl (PStep.pickAnd rfl (Lk.t rfl) (fun hq => Lk.g rfl hq)) ?_
  refine L rfl rfl (PStep.assign rfl (Lk.t rfl)) ?_
  refine TrL.nil ?_
  refine TrE.seq ?_
  refine TrC.ret (?_)
  cases hm
  exact TrE.retOK (RetOK.eq (show _ = _ from rfl) (RetOK.tmp rfl (Lk.t (t := 6) rfl) (List.nil_sublist _)))
def m_slices_Equal_Selected_Selected_L2 (a0 : (List Selected)) (a1 : (List Selected)) (K1 : Unit → Option (Bool)) : Nat → Nat → Option (Bool)
  | 0, _ => none
  | n + 1, i1 =>
    (bif (decide ((i1 : Int) < (a0.length : Int))) then chk (0 ≤ (i1 : Int) ∧ (i1 : Int) < (a1.length : Int)) <| (bif (decide ((ix a0 ((i1 : Int))) ≠ (ix a1 ((i1 : Int))))) then some false
  else m_slices_Equal_Selected_Selected_L2 a0 a1 K1 n ((i1 + 1)))
  else K1 ())
def m_slices_Equal_Selected_Selected (a0 : (List Selected)) (a1 : (List Selected)) : Option (Bool) :=
  (bif (decide ((a0.length : Int) ≠ (a1.length : Int))) then some false
  else joinM (fun (_ : Unit) =>
    some true) fun K1 =>
    m_slices_Equal_Selected_Selected_L2 a0 a1 K1 (a0.length + 1) 0)
theorem s_slices_Equal_Selected_Selected (a0 : (List Selected)) (a1 : (List Selected)) (r : Bool) (hm : m_slices_Equal_Selected_Selected a0 a1 = some r) : Fn Tryz.prog 27 [pSl (a0 : (List Selected)), pSl (a1 : (List Selected))] (pB (r)) := by
  unfold m_slices_Equal_Selected_Selected at hm
  refine Spec.mk Tryz.func27 rfl rfl fun B => ?_
  refine TrC.seq ?_
  refine TrC.region rfl ?_
  refine L rfl rfl (PStep.assign rfl Lk.c) ?_
  refine TrL.nil ?_
  refine TrE.seq ?_
  refine TrC.seq ?_
  refine TrC.seq ?_
  refine TrC.region rfl ?_
  refine L rfl rfl (PStep.move rfl (Lk.t rfl)) ?_
  refine L rfl rfl (PStep.len (xs := a0) (tys := #[]) Tryz.runUnderlying37 rfl (Lk.t rfl)) ?_
  refine L rfl rfl (PStep.move rfl (Lk.t rfl)) ?_
  refine L rfl rfl (PStep.len (xs := a1) (tys := #[]) Tryz.runUnderlying37 rfl (Lk.t rfl)) ?_
  refine L rfl rfl (PStep.neq rfl (Lk.t rfl) (Lk.t rfl)) ?_
  refine TrL.nil ?_
  refine TrE.seq ?_
  refine TrC.condB (Lk.t rfl) (fun hc1 => ?_) (fun hc1 => ?_)
  · have hm := cond_t hm hc1
    have hs1 := hc1
    try simp only [decide_eq_true_eq, decide_eq_false_iff_not, Bool.and_eq_true, Bool.or_eq_true, Bool.not_eq_true', Bool.not_eq_false', Bool.and_eq_false_iff, Bool.or_eq_false_iff] at hs1
    refine TrC.seq ?_
    refine TrC.region rfl ?_
    refine L rfl rfl (PStep.assign rfl Lk.c) ?_
    refine TrL.nil ?_
    refine TrE.seq ?_
    refine TrC.ret (TrE.thenR <| ?_)
    cases hm
    exact TrE.retOK (RetOK.eq (show _ = _ from rfl) (RetOK.tmp rfl (Lk.t (t := 4) rfl) (List.nil_sublist _)))
  · have hm := cond_f hm hc1
    have hs1 := hc1
    try simp only [decide_eq_true_eq, decide_eq_false_iff_not, Bool.and_eq_true, Bool.or_eq_true, Bool.not_eq_true', Bool.not_eq_false', Bool.and_eq_false_iff, Bool.or_eq_false_iff] at hs1
    refine TrC.skip ?_
    refine TrE.seq ?_
    obtain ⟨K1, hK1, hm⟩ := joinK hm
    refine TrC.meetM (X := Unit) (fun _ => K1 () = some r) (fun _ => []) [] (fun _ => fun A => A) EnvSub.nil ?_ ?_
    · refine TrC.seq ?_
      refine TrC.region rfl ?_
      refine L rfl rfl (PStep.move rfl (Lk.t rfl)) ?_
      refine L rfl rfl (PStep.len (xs := a0) (tys := #[]) Tryz.runUnderlying37 rfl (Lk.t rfl)) ?_
      refine L rfl rfl (PStep.move rfl Lk.c) ?_
      refine TrL.nil ?_
      refine TrE.seq ?_
      refine TrC.block ?_
      refine TrC.know (Lk.t (t := 0) rfl) pSl.lt fun hl1 => ?_
      refine TrC.know (Lk.t (t := 1) rfl) pSl.lt fun hl2 => ?_
      refine TrC.loopM (X := Nat × Nat) (fun ⟨n, i1⟩ => m_slices_Equal_Selected_Selected_L2 a0 a1 K1 n i1 = some r) (fun ⟨n, i1⟩ => [(13, pI ((i1 : Int)))]) [(0, _), (1, _), (12, _)] (fun ⟨n, i1⟩ => fun A => A) (fun ⟨n, i1⟩ => n) (((a0.length + 1 : Nat), 0)) hm ((EnvSub.cons rfl (EnvSub.cons rfl (EnvSub.cons rfl (EnvSub.cons rfl EnvSub.nil))))) rfl ?_
      rintro ⟨n, i1⟩ hm
      obtain ⟨n, rfl⟩ := succ_of (f := fun n => m_slices_Equal_Selected_Selected_L2 a0 a1 K1 n i1) rfl hm
      change m_slices_Equal_Selected_Selected_L2 a0 a1 K1 (n + 1) i1 = some r at hm
      rw [m_slices_Equal_Selected_Selected_L2] at hm
      refine TrC.seq ?_
      refine TrC.region rfl ?_
      refine L rfl rfl (PStep.lss rfl (Lk.t rfl) (Lk.t rfl)) ?_
      refine TrL.nil ?_
      refine TrE.seq ?_
      refine TrC.seq ?_
      refine TrC.condB (Lk.t rfl) (fun hc2 => ?_) (fun hc2 => ?_)
      · have hm := cond_t hm hc2
        have hs2 := hc2
        try simp only [decide_eq_true_eq, decide_eq_false_iff_not, Bool.and_eq_true, Bool.or_eq_true, Bool.not_eq_true', Bool.not_eq_false', Bool.and_eq_false_iff, Bool.or_eq_false_iff] at hs2
        refine TrC.skip ?_
        refine TrE.seq ?_
        refine TrC.seq ?_
        refine TrC.block ?_
        refine TrC.seq ?_
        refine TrC.region rfl ?_
        refine L rfl rfl (PStep.move rfl (Lk.t rfl)) ?_
        refine L rfl rfl (PStep.assign rfl (Lk.t rfl)) ?_
        refine TrL.nil ?_
        refine TrE.seq ?_
        refine TrC.seq ?_
        refine TrC.flow 9 mixed rfl (by kernel_rfl) (by kernel_rfl) ?_
        refine F rfl rfl (PStep.move rfl (Lk.t rfl)) ?_
        refine F rfl rfl (PStep.move rfl (Lk.t rfl)) ?_
        refine F rfl rfl (PStep.ixD (xs := a0) Tryz.runUnderlying37 Tryz.sizeOf59 rfl (Lk.t rfl) (Lk.t rfl) (by omega)) ?_
        refine F rfl rfl (PStep.ldRefV (α := Selected) (v := (ix a0 ((i1 : Int)))) Tryz.isAgg59 Tryz.sizeOf59 rfl (Lk.t rfl) rfl) ?_
        refine F rfl rfl (PStep.move rfl (Lk.t rfl)) ?_
        refine F rfl rfl (PStep.move rfl (Lk.t rfl)) ?_
        obtain ⟨hk1, hm⟩ := chk_some hm
        refine F rfl rfl (PStep.ixD (xs := a1) Tryz.runUnderlying37 Tryz.sizeOf59 rfl (Lk.t rfl) (Lk.t rfl) hk1) ?_
        refine F rfl rfl (PStep.ldRefV (α := Selected) (v := (ix a1 ((i1 : Int)))) Tryz.isAgg59 Tryz.sizeOf59 rfl (Lk.t rfl) rfl) ?_
        refine F rfl rfl (PStep.Ne eqT59 cellsSelected rfl (Lk.t rfl) (Lk.t rfl)) ?_
        refine FlowH.nil ?_
        refine ⟨rfl, ?_⟩
        refine AllocK.none rfl ?_
        refine TrL.nil ?_
        refine TrE.seq ?_
        refine TrC.condB (Lk.t rfl) (fun hc3 => ?_) (fun hc3 => ?_)
        · have hm := cond_t hm hc3
          have hs3 := hc3
          try simp only [decide_eq_true_eq, decide_eq_false_iff_not, Bool.and_eq_true, Bool.or_eq_true, Bool.not_eq_true', Bool.not_eq_false', Bool.and_eq_false_iff, Bool.or_eq_false_iff] at hs3
          refine TrC.seq ?_
          refine TrC.region rfl ?_
          refine L rfl rfl (PStep.assign rfl Lk.c) ?_
          refine TrL.nil ?_
          refine TrE.seq ?_
          refine TrC.ret (TrE.blockR <| TrE.thenR <| TrE.thenR <| TrE.blockR <| TrE.thenR <| ?_)
          cases hm
          exact TrE.retOK (RetOK.eq (show _ = _ from rfl) (RetOK.tmp rfl (Lk.t (t := 4) rfl) (List.nil_sublist _)))
        · have hm := cond_f hm hc3
          have hs3 := hc3
          try simp only [decide_eq_true_eq, decide_eq_false_iff_not, Bool.and_eq_true, Bool.or_eq_true, Bool.not_eq_true', Bool.not_eq_false', Bool.and_eq_false_iff, Bool.or_eq_false_iff] at hs3
          refine TrC.skip ?_
          refine TrE.blockN ?_
          refine TrE.seq ?_
          refine TrC.region rfl ?_
          refine L rfl rfl (PStep.add64 rfl (Lk.t rfl) Lk.c (by omega)) ?_
          refine L rfl rfl (PStep.move rfl (Lk.t rfl)) ?_
          refine TrL.nil ?_
          refine TrE.again ((n, (i1 + 1))) hm (Nat.lt_succ_self n) ((EnvSub.cons rfl (EnvSub.cons rfl (EnvSub.cons rfl (EnvSub.cons rfl EnvSub.nil))))) rfl
      · have hm := cond_f hm hc2
        have hs2 := hc2
        try simp only [decide_eq_true_eq, decide_eq_false_iff_not, Bool.and_eq_true, Bool.or_eq_true, Bool.not_eq_true', Bool.not_eq_false', Bool.and_eq_false_iff, Bool.or_eq_false_iff] at hs2
        refine TrC.exit (TrE.thenX <| TrE.thenX <| TrE.blockHit <| ?_)
        refine TrE.meetX (()) hm (EnvSub.nil) rfl
    · rintro _ hm
      change K1 () = some r at hm
      subst hK1
      refine TrC.seq ?_
      refine TrC.region rfl ?_
      refine L rfl rfl (PStep.assign rfl Lk.c) ?_
      refine TrL.nil ?_
      refine TrE.seq ?_
      refine TrC.ret (?_)
      cases hm
      exact TrE.retOK (RetOK.eq (show _ = _ from rfl) (RetOK.tmp rfl (Lk.t (t := 4) rfl) (List.nil_sublist _)))
def m_modcertlaw36_ProofUnique (a0 : Index) (a1 : (List Requirement)) (a2 : Answer) (a3 : Answer) : Option (Bool) :=
  bnd (m_modcertlaw36_awake ) fun x1 => (bif (!x1) then some false
  else bnd (m_modcertref36_Few a0 a1) fun x2 => bnd (gd ((!x2) = false) (m_modcertlaw36_small a2)) fun x3 => bnd (gd (((!x2) || (!x3)) = false) (m_modcertlaw36_small a3)) fun x4 => bnd (gd ((((!x2) || (!x3)) || (!x4)) = false) (m_proof_Check a0 a1 a2)) fun x5 => bnd (gd (((((!x2) || (!x3)) || (!x4)) || (decide (x5 ≠ (0 : Int)))) = false) (m_proof_Check a0 a1 a3)) fun x6 => (bif (((((!x2) || (!x3)) || (!x4)) || (decide (x5 ≠ (0 : Int)))) || (decide (x6 ≠ (0 : Int)))) then some true
  else bnd (gd ((decide (a2.found = a3.found)) = true) (m_slices_Equal_Selected_Selected a2.selection a3.selection)) fun x7 => some (((decide (a2.found = a3.found)) && x7))))
theorem s_modcertlaw36_ProofUnique (a0 : Index) (a1 : (List Requirement)) (a2 : Answer) (a3 : Answer) (r : Bool) (hm : m_modcertlaw36_ProofUnique a0 a1 a2 a3 = some r) : Fn Tryz.prog 6 [pT (a0 : Index), pSl (a1 : (List Requirement)), pT (a2 : Answer), pT (a3 : Answer)] (pB (r)) := by
  unfold m_modcertlaw36_ProofUnique at hm
  refine Spec.mk Tryz.func6 rfl rfl fun B => ?_
  refine TrC.seq ?_
  refine TrC.region rfl ?_
  refine TrL.alloc (AStep.boxK rfl rfl (Lk.t rfl)) rfl (fun b1 => ?_)
  refine TrL.alloc (AStep.boxK rfl rfl (Lk.t rfl)) rfl (fun b2 => ?_)
  refine TrL.alloc (AStep.boxK rfl rfl (Lk.t rfl)) rfl (fun b3 => ?_)
  refine L rfl rfl (PStep.assign rfl Lk.c) ?_
  refine TrL.nil ?_
  refine TrE.seq ?_
  refine TrC.seq ?_
  refine TrC.seq ?_
  refine TrC.region rfl ?_
  obtain ⟨x1, hx1, hm⟩ := bnd_some hm
  refine L rfl rfl (PStep.call ((s_modcertlaw36_awake  x1 hx1)) Tryz.call10 rfl LkAll.nil) ?_
  refine L rfl rfl (PStep.not rfl (Lk.t rfl)) ?_
  refine TrL.nil ?_
  refine TrE.seq ?_
  refine TrC.condB (Lk.t rfl) (fun hc1 => ?_) (fun hc1 => ?_)
  · have hm := cond_t hm hc1
    have hs1 := hc1
    try simp only [decide_eq_true_eq, decide_eq_false_iff_not, Bool.and_eq_true, Bool.or_eq_true, Bool.not_eq_true', Bool.not_eq_false', Bool.and_eq_false_iff, Bool.or_eq_false_iff] at hs1
    refine TrC.seq ?_
    refine TrC.region rfl ?_
    refine L rfl rfl (PStep.assign rfl Lk.c) ?_
    refine TrL.nil ?_
    refine TrE.seq ?_
    refine TrC.ret (TrE.thenR <| ?_)
    cases hm
    exact TrE.retOK (RetOK.eq (show _ = _ from rfl) (RetOK.tmp rfl (Lk.t (t := 8) rfl) (List.nil_sublist _)))
  · have hm := cond_f hm hc1
    have hs1 := hc1
    try simp only [decide_eq_true_eq, decide_eq_false_iff_not, Bool.and_eq_true, Bool.or_eq_true, Bool.not_eq_true', Bool.not_eq_false', Bool.and_eq_false_iff, Bool.or_eq_false_iff] at hs1
    refine TrC.skip ?_
    refine TrE.seq ?_
    refine TrC.seq ?_
    refine TrC.seq ?_
    refine TrC.region rfl ?_
    refine L rfl rfl (PStep.ldLocV (α := Index) (v := a0) 2 Tryz.isAgg25 Tryz.sizeOf25 rfl (Lk.t rfl) rfl rfl) ?_
    refine L rfl rfl (PStep.move rfl (Lk.t rfl)) ?_
    obtain ⟨x2, hx2, hm⟩ := bnd_some hm
    refine L rfl rfl (PStep.call ((s_modcertref36_Few a0 a1 x2 hx2)) Tryz.call11 rfl (LkAll.cons (Lk.t rfl) (LkAll.cons (Lk.t rfl) LkAll.nil))) ?_
    refine L rfl rfl (PStep.not rfl (Lk.t rfl)) ?_
    refine L rfl rfl (PStep.move rfl (Lk.t rfl)) ?_
    refine LW rfl (WStep.guard rfl rfl rfl rfl (fun hg => PStep.ldLocV (α := Answer) (v := a2) 1 Tryz.isAgg40 Tryz.sizeOf40 rfl (Lk.t rfl) rfl rfl)) ?_
    obtain ⟨x3, hx3, hm⟩ := bnd_some hm
    refine LW rfl (WStep.guard rfl rfl rfl rfl (fun hg => PStep.call ((s_modcertlaw36_small a2 x3 (gd_some hx3 hg))) Tryz.call17 rfl (LkAll.cons (Lk.g rfl hg) LkAll.nil))) ?_
    refine LW rfl (WStep.guard rfl rfl rfl rfl (fun hg => PStep.not rfl (Lk.g rfl hg))) ?_
    refine L rfl rfl (PStep.pickOr rfl (Lk.t rfl) (fun hq => Lk.g rfl hq)) ?_
    refine L rfl rfl (PStep.move rfl (Lk.t rfl)) ?_
    refine LW rfl (WStep.guard rfl rfl rfl rfl (fun hg => PStep.ldLocV (α := Answer) (v := a3) 0 Tryz.isAgg40 Tryz.sizeOf40 rfl (Lk.t rfl) rfl rfl)) ?_
    obtain ⟨x4, hx4, hm⟩ := bnd_some hm
    refine LW rfl (WStep.guard rfl rfl rfl rfl (fun hg => PStep.call ((s_modcertlaw36_small a3 x4 (gd_some hx4 hg))) Tryz.call17 rfl (LkAll.cons (Lk.g rfl hg) LkAll.nil))) ?_
    refine LW rfl (WStep.guard rfl rfl rfl rfl (fun hg => PStep.not rfl (Lk.g rfl hg))) ?_
    refine L rfl rfl (PStep.pickOr rfl (Lk.t rfl) (fun hq => Lk.g rfl hq)) ?_
    refine L rfl rfl (PStep.move rfl (Lk.t rfl)) ?_
    refine LW rfl (WStep.guard rfl rfl rfl rfl (fun hg => PStep.ldLocV (α := Index) (v := a0) 2 Tryz.isAgg25 Tryz.sizeOf25 rfl (Lk.t rfl) rfl rfl)) ?_
    refine LW rfl (WStep.guard rfl rfl rfl rfl (fun hg => PStep.move rfl (Lk.t rfl))) ?_
    refine LW rfl (WStep.guard rfl rfl rfl rfl (fun hg => PStep.ldLocV (α := Answer) (v := a2) 1 Tryz.isAgg40 Tryz.sizeOf40 rfl (Lk.t rfl) rfl rfl)) ?_
    obtain ⟨x5, hx5, hm⟩ := bnd_some hm
    refine LW rfl (WStep.guard rfl rfl rfl rfl (fun hg => PStep.call ((s_proof_Check a0 a1 a2 x5 (gd_some hx5 hg))) Tryz.call21 rfl (LkAll.cons (Lk.g rfl hg) (LkAll.cons (Lk.g rfl hg) (LkAll.cons (Lk.g rfl hg) LkAll.nil))))) ?_
    refine LW rfl (WStep.guard rfl rfl rfl rfl (fun hg => PStep.neq rfl (Lk.g rfl hg) Lk.c)) ?_
    refine L rfl rfl (PStep.pickOr rfl (Lk.t rfl) (fun hq => Lk.g rfl hq)) ?_
    refine L rfl rfl (PStep.move rfl (Lk.t rfl)) ?_
    refine LW rfl (WStep.guard rfl rfl rfl rfl (fun hg => PStep.ldLocV (α := Index) (v := a0) 2 Tryz.isAgg25 Tryz.sizeOf25 rfl (Lk.t rfl) rfl rfl)) ?_
    refine LW rfl (WStep.guard rfl rfl rfl rfl (fun hg => PStep.move rfl (Lk.t rfl))) ?_
    refine LW rfl (WStep.guard rfl rfl rfl rfl (fun hg => PStep.ldLocV (α := Answer) (v := a3) 0 Tryz.isAgg40 Tryz.sizeOf40 rfl (Lk.t rfl) rfl rfl)) ?_
    obtain ⟨x6, hx6, hm⟩ := bnd_some hm
    refine LW rfl (WStep.guard rfl rfl rfl rfl (fun hg => PStep.call ((s_proof_Check a0 a1 a3 x6 (gd_some hx6 hg))) Tryz.call21 rfl (LkAll.cons (Lk.g rfl hg) (LkAll.cons (Lk.g rfl hg) (LkAll.cons (Lk.g rfl hg) LkAll.nil))))) ?_
    refine LW rfl (WStep.guard rfl rfl rfl rfl (fun hg => PStep.neq rfl (Lk.g rfl hg) Lk.c)) ?_
    refine L rfl rfl (PStep.pickOr rfl (Lk.t rfl) (fun hq => Lk.g rfl hq)) ?_
    refine TrL.nil ?_
    refine TrE.seq ?_
    refine TrC.condB (Lk.t rfl) (fun hc2 => ?_) (fun hc2 => ?_)
    · have hm := cond_t hm hc2
      have hs2 := hc2
      try simp only [decide_eq_true_eq, decide_eq_false_iff_not, Bool.and_eq_true, Bool.or_eq_true, Bool.not_eq_true', Bool.not_eq_false', Bool.and_eq_false_iff, Bool.or_eq_false_iff] at hs2
      refine TrC.seq ?_
      refine TrC.region rfl ?_
      refine L rfl rfl (PStep.assign rfl Lk.c) ?_
      refine TrL.nil ?_
      refine TrE.seq ?_
      refine TrC.ret (TrE.thenR <| ?_)
      cases hm
      exact TrE.retOK (RetOK.eq (show _ = _ from rfl) (RetOK.tmp rfl (Lk.t (t := 8) rfl) (List.nil_sublist _)))
    · have hm := cond_f hm hc2
      have hs2 := hc2
      try simp only [decide_eq_true_eq, decide_eq_false_iff_not, Bool.and_eq_true, Bool.or_eq_true, Bool.not_eq_true', Bool.not_eq_false', Bool.and_eq_false_iff, Bool.or_eq_false_iff] at hs2
      refine TrC.skip ?_
      refine TrE.seq ?_
      refine TrC.seq ?_
      refine TrC.region rfl ?_
      refine L rfl rfl (PStep.faLoc fo40_0 rfl (Lk.t rfl)) ?_
      refine L rfl rfl (PStep.ldLoc 1 Tryz.isAgg4 rfl (Lk.t rfl) rfl rfl) ?_
      refine L rfl rfl (PStep.faLoc fo40_0 rfl (Lk.t rfl)) ?_
      refine L rfl rfl (PStep.ldLoc 0 Tryz.isAgg4 rfl (Lk.t rfl) rfl rfl) ?_
      refine L rfl rfl (PStep.beql Tryz.underlying4 rfl (Lk.t rfl) (Lk.t rfl)) ?_
      refine L rfl rfl (PStep.move rfl (Lk.t rfl)) ?_
      refine LW rfl (WStep.guard rfl rfl rfl rfl (fun hg => PStep.faLoc fo40_1 rfl (Lk.t rfl))) ?_
      refine LW rfl (WStep.guard rfl rfl rfl rfl (fun hg => PStep.ldLoc 1 Tryz.isAgg37 rfl (Lk.g rfl hg) rfl rfl)) ?_
      refine LW rfl (WStep.guard rfl rfl rfl rfl (fun hg => PStep.faLoc fo40_1 rfl (Lk.t rfl))) ?_
      refine LW rfl (WStep.guard rfl rfl rfl rfl (fun hg => PStep.ldLoc 0 Tryz.isAgg37 rfl (Lk.g rfl hg) rfl rfl)) ?_
      obtain ⟨x7, hx7, hm⟩ := bnd_some hm
      refine LW rfl (WStep.guard rfl rfl rfl rfl (fun hg => PStep.call ((s_slices_Equal_Selected_Selected a2.selection a3.selection x7 (gd_some hx7 hg))) Tryz.call27 rfl (LkAll.cons (Lk.g rfl hg) (LkAll.cons (Lk.g rfl hg) LkAll.nil)))) ?_
      refine L rfl rfl (PStep.pickAnd rfl (Lk.t rfl) (fun hq => Lk.g rfl hq)) ?_
      refine L rfl rfl (PStep.assign rfl (Lk.t rfl)) ?_
      refine TrL.nil ?_
      refine TrE.seq ?_
      refine TrC.ret (?_)
      cases hm
      exact TrE.retOK (RetOK.eq (show _ = _ from rfl) (RetOK.tmp rfl (Lk.t (t := 8) rfl) (List.nil_sublist _)))
def m_modcertlaw36_place_L2 (a0 : (List Selected)) (a1 : ByteArray) (K1 : Unit → Option (Int)) : Nat → Nat → Option (Int)
  | 0, _ => none
  | n + 1, i1 =>
    (bif (decide ((i1 : Int) < (a0.length : Int))) then (bif (decide (((ix a0 ((i1 : Int)))).path = a1)) then some ((placeOf ((((ix a0 ((i1 : Int)))).version))).1)
  else m_modcertlaw36_place_L2 a0 a1 K1 n ((i1 + 1)))
  else K1 ())
def m_modcertlaw36_place (a0 : (List Selected)) (a1 : ByteArray) : Option (Int) :=
  joinM (fun (_ : Unit) =>
    some ((-1 : Int))) fun K1 =>
    m_modcertlaw36_place_L2 a0 a1 K1 (a0.length + 1) 0
theorem s_modcertlaw36_place (a0 : (List Selected)) (a1 : ByteArray) (r : Int) (hm : m_modcertlaw36_place a0 a1 = some r) : Fn Tryz.prog 28 [pSl (a0 : (List Selected)), pS (a1)] (pI (r)) := by
  unfold m_modcertlaw36_place at hm
  refine Spec.mk Tryz.func28 rfl rfl fun B => ?_
  refine TrC.seq ?_
  refine TrC.region rfl ?_
  refine L rfl rfl (PStep.assign rfl Lk.c) ?_
  refine TrL.nil ?_
  refine TrE.seq ?_
  obtain ⟨K1, hK1, hm⟩ := joinK hm
  refine TrC.meetM (X := Unit) (fun _ => K1 () = some r) (fun _ => []) [] (fun _ => fun A => A) EnvSub.nil ?_ ?_
  · refine TrC.seq ?_
    refine TrC.region rfl ?_
    refine L rfl rfl (PStep.move rfl (Lk.t rfl)) ?_
    refine L rfl rfl (PStep.len (xs := a0) (tys := #[]) Tryz.runUnderlying37 rfl (Lk.t rfl)) ?_
    refine L rfl rfl (PStep.move rfl Lk.c) ?_
    refine TrL.nil ?_
    refine TrE.seq ?_
    refine TrC.block ?_
    refine TrC.know (Lk.t (t := 9) rfl) pSl.lt fun hl1 => ?_
    refine TrC.loopM (X := Nat × Nat) (fun ⟨n, i1⟩ => m_modcertlaw36_place_L2 a0 a1 K1 n i1 = some r) (fun ⟨n, i1⟩ => [(11, pI ((i1 : Int)))]) [(1, _), (9, _), (10, _)] (fun ⟨n, i1⟩ => fun A => A) (fun ⟨n, i1⟩ => n) (((a0.length + 1 : Nat), 0)) hm ((EnvSub.cons rfl (EnvSub.cons rfl (EnvSub.cons rfl (EnvSub.cons rfl EnvSub.nil))))) rfl ?_
    rintro ⟨n, i1⟩ hm
    obtain ⟨n, rfl⟩ := succ_of (f := fun n => m_modcertlaw36_place_L2 a0 a1 K1 n i1) rfl hm
    change m_modcertlaw36_place_L2 a0 a1 K1 (n + 1) i1 = some r at hm
    rw [m_modcertlaw36_place_L2] at hm
    refine TrC.seq ?_
    refine TrC.region rfl ?_
    refine L rfl rfl (PStep.lss rfl (Lk.t rfl) (Lk.t rfl)) ?_
    refine TrL.nil ?_
    refine TrE.seq ?_
    refine TrC.seq ?_
    refine TrC.condB (Lk.t rfl) (fun hc1 => ?_) (fun hc1 => ?_)
    · have hm := cond_t hm hc1
      have hs1 := hc1
      try simp only [decide_eq_true_eq, decide_eq_false_iff_not, Bool.and_eq_true, Bool.or_eq_true, Bool.not_eq_true', Bool.not_eq_false', Bool.and_eq_false_iff, Bool.or_eq_false_iff] at hs1
      refine TrC.skip ?_
      refine TrE.seq ?_
      refine TrC.seq ?_
      refine TrC.block ?_
      refine TrC.seq ?_
      refine TrC.region rfl ?_
      refine L rfl rfl (PStep.ixD (xs := a0) Tryz.runUnderlying37 Tryz.sizeOf59 rfl (Lk.t rfl) (Lk.t rfl) (by omega)) ?_
      refine L rfl rfl (PStep.ldRefV (α := Selected) (v := (ix a0 ((i1 : Int)))) Tryz.isAgg59 Tryz.sizeOf59 rfl (Lk.t rfl) rfl) ?_
      refine TrL.alloc (AStep.alloc Tryz.zeroValue59 rfl zc59 rfl rfl) rfl (fun b1 => ?_)
      refine LS rfl rfl (Step.storeW 0 Tryz.sizeOf59 rfl (Lk.t rfl) (Lk.t rfl) rfl rfl rfl) ?_
      refine TrL.nil ?_
      refine TrE.seq ?_
      refine TrC.seq ?_
      refine TrC.region rfl ?_
      refine L rfl rfl (PStep.faLoc fo59_0 rfl (Lk.t rfl)) ?_
      refine L rfl rfl (PStep.ldLoc 0 Tryz.isAgg9 rfl (Lk.t rfl) rfl rfl) ?_
      refine L rfl rfl (PStep.move rfl (Lk.t rfl)) ?_
      refine L rfl rfl (PStep.seql rfl (Lk.t rfl) (Lk.t rfl)) ?_
      refine TrL.nil ?_
      refine TrE.seq ?_
      refine TrC.condB (Lk.t rfl) (fun hc2 => ?_) (fun hc2 => ?_)
      · have hm := cond_t hm hc2
        have hs2 := hc2
        try simp only [decide_eq_true_eq, decide_eq_false_iff_not, Bool.and_eq_true, Bool.or_eq_true, Bool.not_eq_true', Bool.not_eq_false', Bool.and_eq_false_iff, Bool.or_eq_false_iff] at hs2
        refine TrC.seq ?_
        refine TrC.region rfl ?_
        refine L rfl rfl (PStep.faLoc fo59_1 rfl (Lk.t rfl)) ?_
        refine L rfl rfl (PStep.ldLocV (α := Version) (v := (((ix a0 ((i1 : Int)))).version)) 0 Tryz.isAgg57 Tryz.sizeOf57 rfl (Lk.t rfl) rfl rfl) ?_
        refine L rfl rfl (PStep.call (s_Place ((((ix a0 ((i1 : Int)))).version)) ) Tryz.call56 rfl (LkAll.cons (Lk.t rfl) LkAll.nil)) ?_
        refine L rfl rfl (PStep.move rfl (Lk.t rfl)) ?_
        refine L rfl rfl (PStep.extract rfl (Lk.t rfl) rfl) ?_
        refine L rfl rfl (PStep.extract rfl (Lk.t rfl) rfl) ?_
        refine L rfl rfl (PStep.assign rfl (Lk.t rfl)) ?_
        refine L rfl rfl (PStep.assign rfl (Lk.t rfl)) ?_
        refine TrL.nil ?_
        refine TrE.seq ?_
        refine TrC.seq ?_
        refine TrC.region rfl ?_
        refine L rfl rfl (PStep.move rfl (Lk.t rfl)) ?_
        refine L rfl rfl (PStep.assign rfl (Lk.t rfl)) ?_
        refine TrL.nil ?_
        refine TrE.seq ?_
        refine TrC.ret (TrE.blockR <| TrE.thenR <| TrE.thenR <| TrE.blockR <| TrE.thenR <| ?_)
        cases hm
        exact TrE.retOK (RetOK.eq (show _ = _ from rfl) (RetOK.tmp rfl (Lk.t (t := 4) rfl) (List.nil_sublist _)))
      · have hm := cond_f hm hc2
        have hs2 := hc2
        try simp only [decide_eq_true_eq, decide_eq_false_iff_not, Bool.and_eq_true, Bool.or_eq_true, Bool.not_eq_true', Bool.not_eq_false', Bool.and_eq_false_iff, Bool.or_eq_false_iff] at hs2
        refine TrC.skip ?_
        refine TrE.blockN ?_
        refine TrE.seq ?_
        refine TrC.region rfl ?_
        refine L rfl rfl (PStep.add64 rfl (Lk.t rfl) Lk.c (by omega)) ?_
        refine L rfl rfl (PStep.move rfl (Lk.t rfl)) ?_
        refine TrL.nil ?_
        refine TrE.dropF 1 ?_
        refine TrE.again ((n, (i1 + 1))) hm (Nat.lt_succ_self n) ((EnvSub.cons rfl (EnvSub.cons rfl (EnvSub.cons rfl (EnvSub.cons rfl EnvSub.nil))))) rfl
    · have hm := cond_f hm hc1
      have hs1 := hc1
      try simp only [decide_eq_true_eq, decide_eq_false_iff_not, Bool.and_eq_true, Bool.or_eq_true, Bool.not_eq_true', Bool.not_eq_false', Bool.and_eq_false_iff, Bool.or_eq_false_iff] at hs1
      refine TrC.exit (TrE.thenX <| TrE.thenX <| TrE.blockHit <| ?_)
      refine TrE.meetX (()) hm (EnvSub.nil) rfl
  · rintro _ hm
    change K1 () = some r at hm
    subst hK1
    refine TrC.seq ?_
    refine TrC.region rfl ?_
    refine L rfl rfl (PStep.assign rfl Lk.c) ?_
    refine TrL.nil ?_
    refine TrE.seq ?_
    refine TrC.ret (?_)
    cases hm
    exact TrE.retOK (RetOK.eq (show _ = _ from rfl) (RetOK.tmp rfl (Lk.t (t := 4) rfl) (List.nil_sublist _)))
def m_modcertlaw36_ProofFirst_L2 (x6 : (List ByteArray) × Int) (a2 : Answer) (a3 : (List Selected)) (K1 : Unit → Option (Bool)) : Nat → Nat → Option (Bool)
  | 0, _ => none
  | n + 1, i1 =>
    (bif (decide ((i1 : Int) < (x6.1.length : Int))) then bnd (m_modcertlaw36_place a2.selection ((ix x6.1 ((i1 : Int))))) fun x8 => bnd (m_modcertlaw36_place a3 ((ix x6.1 ((i1 : Int))))) fun x9 => (bif (decide (x8 ≠ x9)) then some (((decide ((0 : Int) ≤ x8)) && (decide (x8 < x9))))
  else m_modcertlaw36_ProofFirst_L2 x6 a2 a3 K1 n ((i1 + 1)))
  else K1 ())
def m_modcertlaw36_ProofFirst (a0 : Index) (a1 : (List Requirement)) (a2 : Answer) (a3 : (List Selected)) : Option (Bool) :=
  bnd (m_modcertlaw36_awake ) fun x1 => (bif (!x1) then some false
  else bnd (m_modcertref36_Few a0 a1) fun x2 => bnd (gd ((!x2) = false) (m_modcertlaw36_small a2)) fun x3 => bnd (gd ((((!x2) || (!x3)) || (decide ((16 : Int) < (a3.length : Int)))) = false) (m_proof_Check a0 a1 a2)) fun x4 => bnd (gd (((((!x2) || (!x3)) || (decide ((16 : Int) < (a3.length : Int)))) || (decide (x4 ≠ (0 : Int)))) = false) (m_modcertlaw36_available a0 a1 a3)) fun x5 => (bif (((((!x2) || (!x3)) || (decide ((16 : Int) < (a3.length : Int)))) || (decide (x4 ≠ (0 : Int)))) || (!x5)) then some true
  else bnd (m_proof_Decisions a0 a1 a2.selection) fun x6 => (bif (((!a2.found) || (decide (x6.2 ≠ (0 : Int)))) || (decide ((x6.1.length : Int) ≠ (a2.selection.length : Int)))) then some false
  else joinM (fun (_ : Unit) =>
    bnd (m_slices_Equal_Selected_Selected a2.selection a3) fun x7 => some x7) fun K1 =>
    m_modcertlaw36_ProofFirst_L2 x6 a2 a3 K1 (x6.1.length + 1) 0)))
theorem s_modcertlaw36_ProofFirst (a0 : Index) (a1 : (List Requirement)) (a2 : Answer) (a3 : (List Selected)) (r : Bool) (hm : m_modcertlaw36_ProofFirst a0 a1 a2 a3 = some r) : Fn Tryz.prog 7 [pT (a0 : Index), pSl (a1 : (List Requirement)), pT (a2 : Answer), pSl (a3 : (List Selected))] (pB (r)) := by
  unfold m_modcertlaw36_ProofFirst at hm
  refine Spec.mk Tryz.func7 rfl rfl fun B => ?_
  refine TrC.seq ?_
  refine TrC.region rfl ?_
  refine TrL.alloc (AStep.boxK rfl rfl (Lk.t rfl)) rfl (fun b1 => ?_)
  refine TrL.alloc (AStep.boxK rfl rfl (Lk.t rfl)) rfl (fun b2 => ?_)
  refine L rfl rfl (PStep.assign rfl Lk.c) ?_
  refine TrL.nil ?_
  refine TrE.seq ?_
  refine TrC.seq ?_
  refine TrC.seq ?_
  refine TrC.region rfl ?_
  obtain ⟨x1, hx1, hm⟩ := bnd_some hm
  refine L rfl rfl (PStep.call ((s_modcertlaw36_awake  x1 hx1)) Tryz.call10 rfl LkAll.nil) ?_
  refine L rfl rfl (PStep.not rfl (Lk.t rfl)) ?_
  refine TrL.nil ?_
  refine TrE.seq ?_
  refine TrC.condB (Lk.t rfl) (fun hc1 => ?_) (fun hc1 => ?_)
  · have hm := cond_t hm hc1
    have hs1 := hc1
    try simp only [decide_eq_true_eq, decide_eq_false_iff_not, Bool.and_eq_true, Bool.or_eq_true, Bool.not_eq_true', Bool.not_eq_false', Bool.and_eq_false_iff, Bool.or_eq_false_iff] at hs1
    refine TrC.seq ?_
    refine TrC.region rfl ?_
    refine L rfl rfl (PStep.assign rfl Lk.c) ?_
    refine TrL.nil ?_
    refine TrE.seq ?_
    refine TrC.ret (TrE.thenR <| ?_)
    cases hm
    exact TrE.retOK (RetOK.eq (show _ = _ from rfl) (RetOK.tmp rfl (Lk.t (t := 8) rfl) (List.nil_sublist _)))
  · have hm := cond_f hm hc1
    have hs1 := hc1
    try simp only [decide_eq_true_eq, decide_eq_false_iff_not, Bool.and_eq_true, Bool.or_eq_true, Bool.not_eq_true', Bool.not_eq_false', Bool.and_eq_false_iff, Bool.or_eq_false_iff] at hs1
    refine TrC.skip ?_
    refine TrE.seq ?_
    refine TrC.seq ?_
    refine TrC.seq ?_
    refine TrC.region rfl ?_
    refine L rfl rfl (PStep.ldLocV (α := Index) (v := a0) 1 Tryz.isAgg25 Tryz.sizeOf25 rfl (Lk.t rfl) rfl rfl) ?_
    refine L rfl rfl (PStep.move rfl (Lk.t rfl)) ?_
    obtain ⟨x2, hx2, hm⟩ := bnd_some hm
    refine L rfl rfl (PStep.call ((s_modcertref36_Few a0 a1 x2 hx2)) Tryz.call11 rfl (LkAll.cons (Lk.t rfl) (LkAll.cons (Lk.t rfl) LkAll.nil))) ?_
    refine L rfl rfl (PStep.not rfl (Lk.t rfl)) ?_
    refine L rfl rfl (PStep.move rfl (Lk.t rfl)) ?_
    refine LW rfl (WStep.guard rfl rfl rfl rfl (fun hg => PStep.ldLocV (α := Answer) (v := a2) 0 Tryz.isAgg40 Tryz.sizeOf40 rfl (Lk.t rfl) rfl rfl)) ?_
    obtain ⟨x3, hx3, hm⟩ := bnd_some hm
    refine LW rfl (WStep.guard rfl rfl rfl rfl (fun hg => PStep.call ((s_modcertlaw36_small a2 x3 (gd_some hx3 hg))) Tryz.call17 rfl (LkAll.cons (Lk.g rfl hg) LkAll.nil))) ?_
    refine LW rfl (WStep.guard rfl rfl rfl rfl (fun hg => PStep.not rfl (Lk.g rfl hg))) ?_
    refine L rfl rfl (PStep.pickOr rfl (Lk.t rfl) (fun hq => Lk.g rfl hq)) ?_
    refine L rfl rfl (PStep.move rfl (Lk.t rfl)) ?_
    refine LW rfl (WStep.guard rfl rfl rfl rfl (fun hg => PStep.move rfl (Lk.t rfl))) ?_
    refine LW rfl (WStep.guard rfl rfl rfl rfl (fun hg => PStep.len (xs := a3) (tys := #[]) Tryz.runUnderlying37 rfl (Lk.g rfl hg))) ?_
    refine LW rfl (WStep.guard rfl rfl rfl rfl (fun hg => PStep.gtr rfl (Lk.g rfl hg) Lk.c)) ?_
    refine L rfl rfl (PStep.pickOr rfl (Lk.t rfl) (fun hq => Lk.g rfl hq)) ?_
    refine L rfl rfl (PStep.move rfl (Lk.t rfl)) ?_
    refine LW rfl (WStep.guard rfl rfl rfl rfl (fun hg => PStep.ldLocV (α := Index) (v := a0) 1 Tryz.isAgg25 Tryz.sizeOf25 rfl (Lk.t rfl) rfl rfl)) ?_
    refine LW rfl (WStep.guard rfl rfl rfl rfl (fun hg => PStep.move rfl (Lk.t rfl))) ?_
    refine LW rfl (WStep.guard rfl rfl rfl rfl (fun hg => PStep.ldLocV (α := Answer) (v := a2) 0 Tryz.isAgg40 Tryz.sizeOf40 rfl (Lk.t rfl) rfl rfl)) ?_
    obtain ⟨x4, hx4, hm⟩ := bnd_some hm
    refine LW rfl (WStep.guard rfl rfl rfl rfl (fun hg => PStep.call ((s_proof_Check a0 a1 a2 x4 (gd_some hx4 hg))) Tryz.call21 rfl (LkAll.cons (Lk.g rfl hg) (LkAll.cons (Lk.g rfl hg) (LkAll.cons (Lk.g rfl hg) LkAll.nil))))) ?_
    refine LW rfl (WStep.guard rfl rfl rfl rfl (fun hg => PStep.neq rfl (Lk.g rfl hg) Lk.c)) ?_
    refine L rfl rfl (PStep.pickOr rfl (Lk.t rfl) (fun hq => Lk.g rfl hq)) ?_
    refine L rfl rfl (PStep.move rfl (Lk.t rfl)) ?_
    refine LW rfl (WStep.guard rfl rfl rfl rfl (fun hg => PStep.ldLocV (α := Index) (v := a0) 1 Tryz.isAgg25 Tryz.sizeOf25 rfl (Lk.t rfl) rfl rfl)) ?_
    refine LW rfl (WStep.guard rfl rfl rfl rfl (fun hg => PStep.move rfl (Lk.t rfl))) ?_
    refine LW rfl (WStep.guard rfl rfl rfl rfl (fun hg => PStep.move rfl (Lk.t rfl))) ?_
    obtain ⟨x5, hx5, hm⟩ := bnd_some hm
    refine LW rfl (WStep.guard rfl rfl rfl rfl (fun hg => PStep.call ((s_modcertlaw36_available a0 a1 a3 x5 (gd_some hx5 hg))) Tryz.call23 rfl (LkAll.cons (Lk.g rfl hg) (LkAll.cons (Lk.g rfl hg) (LkAll.cons (Lk.g rfl hg) LkAll.nil))))) ?_
    refine LW rfl (WStep.guard rfl rfl rfl rfl (fun hg => PStep.not rfl (Lk.g rfl hg))) ?_
    refine L rfl rfl (PStep.pickOr rfl (Lk.t rfl) (fun hq => Lk.g rfl hq)) ?_
    refine TrL.nil ?_
    refine TrE.seq ?_
    refine TrC.condB (Lk.t rfl) (fun hc2 => ?_) (fun hc2 => ?_)
    · have hm := cond_t hm hc2
      have hs2 := hc2
      try simp only [decide_eq_true_eq, decide_eq_false_iff_not, Bool.and_eq_true, Bool.or_eq_true, Bool.not_eq_true', Bool.not_eq_false', Bool.and_eq_false_iff, Bool.or_eq_false_iff] at hs2
      refine TrC.seq ?_
      refine TrC.region rfl ?_
      refine L rfl rfl (PStep.assign rfl Lk.c) ?_
      refine TrL.nil ?_
      refine TrE.seq ?_
      refine TrC.ret (TrE.thenR <| ?_)
      cases hm
      exact TrE.retOK (RetOK.eq (show _ = _ from rfl) (RetOK.tmp rfl (Lk.t (t := 8) rfl) (List.nil_sublist _)))
    · have hm := cond_f hm hc2
      have hs2 := hc2
      try simp only [decide_eq_true_eq, decide_eq_false_iff_not, Bool.and_eq_true, Bool.or_eq_true, Bool.not_eq_true', Bool.not_eq_false', Bool.and_eq_false_iff, Bool.or_eq_false_iff] at hs2
      refine TrC.skip ?_
      refine TrE.seq ?_
      refine TrC.seq ?_
      refine TrC.region rfl ?_
      refine L rfl rfl (PStep.ldLocV (α := Index) (v := a0) 1 Tryz.isAgg25 Tryz.sizeOf25 rfl (Lk.t rfl) rfl rfl) ?_
      refine L rfl rfl (PStep.move rfl (Lk.t rfl)) ?_
      refine L rfl rfl (PStep.faLoc fo40_1 rfl (Lk.t rfl)) ?_
      refine L rfl rfl (PStep.ldLoc 0 Tryz.isAgg37 rfl (Lk.t rfl) rfl rfl) ?_
      obtain ⟨x6, hx6, hm⟩ := bnd_some hm
      refine L rfl rfl (PStep.call ((s_proof_Decisions a0 a1 a2.selection x6 hx6)) Tryz.call18 rfl (LkAll.cons (Lk.t rfl) (LkAll.cons (Lk.t rfl) (LkAll.cons (Lk.t rfl) LkAll.nil)))) ?_
      refine L rfl rfl (PStep.move rfl (Lk.t rfl)) ?_
      refine L rfl rfl (PStep.extract rfl (Lk.t rfl) rfl) ?_
      refine L rfl rfl (PStep.extract rfl (Lk.t rfl) rfl) ?_
      refine L rfl rfl (PStep.assign rfl (Lk.t rfl)) ?_
      refine L rfl rfl (PStep.assign rfl (Lk.t rfl)) ?_
      refine TrL.nil ?_
      refine TrE.seq ?_
      refine TrC.seq ?_
      refine TrC.seq ?_
      refine TrC.region rfl ?_
      refine L rfl rfl (PStep.faLoc fo40_0 rfl (Lk.t rfl)) ?_
      refine L rfl rfl (PStep.ldLoc 0 Tryz.isAgg4 rfl (Lk.t rfl) rfl rfl) ?_
      refine L rfl rfl (PStep.not rfl (Lk.t rfl)) ?_
      refine L rfl rfl (PStep.move rfl (Lk.t rfl)) ?_
      refine LW rfl (WStep.guard rfl rfl rfl rfl (fun hg => PStep.move rfl (Lk.t rfl))) ?_
      refine LW rfl (WStep.guard rfl rfl rfl rfl (fun hg => PStep.neq rfl (Lk.g rfl hg) Lk.c)) ?_
      refine L rfl rfl (PStep.pickOr rfl (Lk.t rfl) (fun hq => Lk.g rfl hq)) ?_
      refine L rfl rfl (PStep.move rfl (Lk.t rfl)) ?_
      refine LW rfl (WStep.guard rfl rfl rfl rfl (fun hg => PStep.move rfl (Lk.t rfl))) ?_
      refine LW rfl (WStep.guard rfl rfl rfl rfl (fun hg => PStep.len (xs := x6.1) (tys := #[]) Tryz.runUnderlying42 rfl (Lk.g rfl hg))) ?_
      refine LW rfl (WStep.guard rfl rfl rfl rfl (fun hg => PStep.faLoc fo40_1 rfl (Lk.t rfl))) ?_
      refine LW rfl (WStep.guard rfl rfl rfl rfl (fun hg => PStep.ldLoc 0 Tryz.isAgg37 rfl (Lk.g rfl hg) rfl rfl)) ?_
      refine LW rfl (WStep.guard rfl rfl rfl rfl (fun hg => PStep.len (xs := a2.selection) (tys := #[]) Tryz.runUnderlying37 rfl (Lk.g rfl hg))) ?_
      refine LW rfl (WStep.guard rfl rfl rfl rfl (fun hg => PStep.neq rfl (Lk.g rfl hg) (Lk.g rfl hg))) ?_
      refine L rfl rfl (PStep.pickOr rfl (Lk.t rfl) (fun hq => Lk.g rfl hq)) ?_
      refine TrL.nil ?_
      refine TrE.seq ?_
      refine TrC.condB (Lk.t rfl) (fun hc3 => ?_) (fun hc3 => ?_)
      · have hm := cond_t hm hc3
        have hs3 := hc3
        try simp only [decide_eq_true_eq, decide_eq_false_iff_not, Bool.and_eq_true, Bool.or_eq_true, Bool.not_eq_true', Bool.not_eq_false', Bool.and_eq_false_iff, Bool.or_eq_false_iff] at hs3
        refine TrC.seq ?_
        refine TrC.region rfl ?_
        refine L rfl rfl (PStep.assign rfl Lk.c) ?_
        refine TrL.nil ?_
        refine TrE.seq ?_
        refine TrC.ret (TrE.thenR <| ?_)
        cases hm
        exact TrE.retOK (RetOK.eq (show _ = _ from rfl) (RetOK.tmp rfl (Lk.t (t := 8) rfl) (List.nil_sublist _)))
      · have hm := cond_f hm hc3
        have hs3 := hc3
        try simp only [decide_eq_true_eq, decide_eq_false_iff_not, Bool.and_eq_true, Bool.or_eq_true, Bool.not_eq_true', Bool.not_eq_false', Bool.and_eq_false_iff, Bool.or_eq_false_iff] at hs3
        refine TrC.skip ?_
        refine TrE.seq ?_
        obtain ⟨K1, hK1, hm⟩ := joinK hm
        refine TrC.meetM (X := Unit) (fun _ => K1 () = some r) (fun _ => []) [(3, _), (6, _)] (fun _ => fun A => A) (EnvSub.cons rfl (EnvSub.cons rfl EnvSub.nil)) ?_ ?_
        · refine TrC.seq ?_
          refine TrC.region rfl ?_
          refine L rfl rfl (PStep.move rfl (Lk.t rfl)) ?_
          refine L rfl rfl (PStep.len (xs := x6.1) (tys := #[]) Tryz.runUnderlying42 rfl (Lk.t rfl)) ?_
          refine L rfl rfl (PStep.move rfl Lk.c) ?_
          refine TrL.nil ?_
          refine TrE.seq ?_
          refine TrC.block ?_
          refine TrC.know (Lk.t (t := 3) rfl) pSl.lt fun hl1 => ?_
          refine TrC.know (Lk.t (t := 68) rfl) pSl.lt fun hl2 => ?_
          refine TrC.loopM (X := Nat × Nat) (fun ⟨n, i1⟩ => m_modcertlaw36_ProofFirst_L2 x6 a2 a3 K1 n i1 = some r) (fun ⟨n, i1⟩ => [(70, pI ((i1 : Int)))]) [(3, _), (6, _), (68, _), (69, _)] (fun ⟨n, i1⟩ => fun A => A) (fun ⟨n, i1⟩ => n) (((x6.1.length + 1 : Nat), 0)) hm ((EnvSub.cons rfl (EnvSub.cons rfl (EnvSub.cons rfl (EnvSub.cons rfl (EnvSub.cons rfl EnvSub.nil)))))) rfl ?_
          rintro ⟨n, i1⟩ hm
          obtain ⟨n, rfl⟩ := succ_of (f := fun n => m_modcertlaw36_ProofFirst_L2 x6 a2 a3 K1 n i1) rfl hm
          change m_modcertlaw36_ProofFirst_L2 x6 a2 a3 K1 (n + 1) i1 = some r at hm
          rw [m_modcertlaw36_ProofFirst_L2] at hm
          refine TrC.seq ?_
          refine TrC.region rfl ?_
          refine L rfl rfl (PStep.lss rfl (Lk.t rfl) (Lk.t rfl)) ?_
          refine TrL.nil ?_
          refine TrE.seq ?_
          refine TrC.seq ?_
          refine TrC.condB (Lk.t rfl) (fun hc4 => ?_) (fun hc4 => ?_)
          · have hm := cond_t hm hc4
            have hs4 := hc4
            try simp only [decide_eq_true_eq, decide_eq_false_iff_not, Bool.and_eq_true, Bool.or_eq_true, Bool.not_eq_true', Bool.not_eq_false', Bool.and_eq_false_iff, Bool.or_eq_false_iff] at hs4
            refine TrC.skip ?_
            refine TrE.seq ?_
            refine TrC.seq ?_
            refine TrC.block ?_
            refine TrC.seq ?_
            refine TrC.region rfl ?_
            refine L rfl rfl (PStep.ixD (xs := x6.1) Tryz.runUnderlying42 Tryz.sizeOf9 rfl (Lk.t rfl) (Lk.t rfl) (by omega)) ?_
            refine L rfl rfl (PStep.ldRef Tryz.isAgg9 rfl (Lk.t rfl) rfl) ?_
            refine L rfl rfl (PStep.assign rfl (Lk.t rfl)) ?_
            refine TrL.nil ?_
            refine TrE.seq ?_
            refine TrC.seq ?_
            refine TrC.region rfl ?_
            refine L rfl rfl (PStep.faLoc fo40_1 rfl (Lk.t rfl)) ?_
            refine L rfl rfl (PStep.ldLoc 0 Tryz.isAgg37 rfl (Lk.t rfl) rfl rfl) ?_
            refine L rfl rfl (PStep.move rfl (Lk.t rfl)) ?_
            obtain ⟨x8, hx8, hm⟩ := bnd_some hm
            refine L rfl rfl (PStep.call ((s_modcertlaw36_place a2.selection ((ix x6.1 ((i1 : Int)))) x8 hx8)) Tryz.call28 rfl (LkAll.cons (Lk.t rfl) (LkAll.cons (Lk.t rfl) LkAll.nil))) ?_
            refine L rfl rfl (PStep.move rfl (Lk.t rfl)) ?_
            refine L rfl rfl (PStep.move rfl (Lk.t rfl)) ?_
            obtain ⟨x9, hx9, hm⟩ := bnd_some hm
            refine L rfl rfl (PStep.call ((s_modcertlaw36_place a3 ((ix x6.1 ((i1 : Int)))) x9 hx9)) Tryz.call28 rfl (LkAll.cons (Lk.t rfl) (LkAll.cons (Lk.t rfl) LkAll.nil))) ?_
            refine L rfl rfl (PStep.assign rfl (Lk.t rfl)) ?_
            refine L rfl rfl (PStep.assign rfl (Lk.t rfl)) ?_
            refine TrL.nil ?_
            refine TrE.seq ?_
            refine TrC.seq ?_
            refine TrC.region rfl ?_
            refine L rfl rfl (PStep.move rfl (Lk.t rfl)) ?_
            refine L rfl rfl (PStep.move rfl (Lk.t rfl)) ?_
            refine L rfl rfl (PStep.neq rfl (Lk.t rfl) (Lk.t rfl)) ?_
            refine TrL.nil ?_
            refine TrE.seq ?_
            refine TrC.condB (Lk.t rfl) (fun hc5 => ?_) (fun hc5 => ?_)
            · have hm := cond_t hm hc5
              have hs5 := hc5
              try simp only [decide_eq_true_eq, decide_eq_false_iff_not, Bool.and_eq_true, Bool.or_eq_true, Bool.not_eq_true', Bool.not_eq_false', Bool.and_eq_false_iff, Bool.or_eq_false_iff] at hs5
              refine TrC.seq ?_
              refine TrC.region rfl ?_
              refine L rfl rfl (PStep.move rfl (Lk.t rfl)) ?_
              refine L rfl rfl (PStep.geq rfl (Lk.t rfl) Lk.c) ?_
              refine L rfl rfl (PStep.move rfl (Lk.t rfl)) ?_
              refine LW rfl (WStep.guard rfl rfl rfl rfl (fun hg => PStep.move rfl (Lk.t rfl))) ?_
              refine LW rfl (WStep.guard rfl rfl rfl rfl (fun hg => PStep.move rfl (Lk.t rfl))) ?_
              refine LW rfl (WStep.guard rfl rfl rfl rfl (fun hg => PStep.lss rfl (Lk.g rfl hg) (Lk.g rfl hg))) ?_
              refine L rfl rfl (PStep.pickAnd rfl (Lk.t rfl) (fun hq => Lk.g rfl hq)) ?_
              refine L rfl rfl (PStep.assign rfl (Lk.t rfl)) ?_
              refine TrL.nil ?_
              refine TrE.seq ?_
              refine TrC.ret (TrE.blockR <| TrE.thenR <| TrE.thenR <| TrE.blockR <| TrE.thenR <| ?_)
              cases hm
              exact TrE.retOK (RetOK.eq (show _ = _ from rfl) (RetOK.tmp rfl (Lk.t (t := 8) rfl) (List.nil_sublist _)))
            · have hm := cond_f hm hc5
              have hs5 := hc5
              try simp only [decide_eq_true_eq, decide_eq_false_iff_not, Bool.and_eq_true, Bool.or_eq_true, Bool.not_eq_true', Bool.not_eq_false', Bool.and_eq_false_iff, Bool.or_eq_false_iff] at hs5
              refine TrC.skip ?_
              refine TrE.blockN ?_
              refine TrE.seq ?_
              refine TrC.region rfl ?_
              refine L rfl rfl (PStep.add64 rfl (Lk.t rfl) Lk.c (by omega)) ?_
              refine L rfl rfl (PStep.move rfl (Lk.t rfl)) ?_
              refine TrL.nil ?_
              refine TrE.again ((n, (i1 + 1))) hm (Nat.lt_succ_self n) ((EnvSub.cons rfl (EnvSub.cons rfl (EnvSub.cons rfl (EnvSub.cons rfl (EnvSub.cons rfl EnvSub.nil)))))) rfl
          · have hm := cond_f hm hc4
            have hs4 := hc4
            try simp only [decide_eq_true_eq, decide_eq_false_iff_not, Bool.and_eq_true, Bool.or_eq_true, Bool.not_eq_true', Bool.not_eq_false', Bool.and_eq_false_iff, Bool.or_eq_false_iff] at hs4
            refine TrC.exit (TrE.thenX <| TrE.thenX <| TrE.blockHit <| ?_)
            refine TrE.meetX (()) hm ((EnvSub.cons rfl (EnvSub.cons rfl EnvSub.nil))) rfl
        · rintro _ hm
          change K1 () = some r at hm
          subst hK1
          refine TrC.seq ?_
          refine TrC.region rfl ?_
          refine L rfl rfl (PStep.faLoc fo40_1 rfl (Lk.t rfl)) ?_
          refine L rfl rfl (PStep.ldLoc 0 Tryz.isAgg37 rfl (Lk.t rfl) rfl rfl) ?_
          refine L rfl rfl (PStep.move rfl (Lk.t rfl)) ?_
          obtain ⟨x7, hx7, hm⟩ := bnd_some hm
          refine L rfl rfl (PStep.call ((s_slices_Equal_Selected_Selected a2.selection a3 x7 hx7)) Tryz.call27 rfl (LkAll.cons (Lk.t rfl) (LkAll.cons (Lk.t rfl) LkAll.nil))) ?_
          refine L rfl rfl (PStep.assign rfl (Lk.t rfl)) ?_
          refine TrL.nil ?_
          refine TrE.seq ?_
          refine TrC.ret (?_)
          cases hm
          exact TrE.retOK (RetOK.eq (show _ = _ from rfl) (RetOK.tmp rfl (Lk.t (t := 8) rfl) (List.nil_sublist _)))
def m_slices_Clone_Skip_Skip (a0 : (List Skip)) : Option ((List Skip)) := chk (a0.length ≤ 4294967296) <| some a0
theorem s_slices_Clone_Skip_Skip (a0 : (List Skip)) (r : (List Skip)) (hm : m_slices_Clone_Skip_Skip a0 = some r) : FnRow Tryz.prog 31 [pSl a0] (fun o => pOwn o r) (fun o => hOwn 72 o r) := by
  unfold m_slices_Clone_Skip_Skip at hm
  obtain ⟨hk, hm⟩ := chk_some hm
  cases hm
  refine SpecX.mk Tryz.func31 rfl rfl fun B => ?_
  refine TrC.seq ?_
  refine TrC.region rfl ?_
  refine L rfl rfl (PStep.assign rfl Lk.c) ?_
  refine TrL.nil ?_
  refine TrE.seq ?_
  refine TrC.seq ?_
  refine TrC.seq ?_
  refine TrC.region rfl ?_
  refine L rfl rfl (PStep.move rfl (Lk.t rfl)) ?_
  refine L rfl rfl (PStep.eqNil Tryz.underlying38 rfl (Lk.t rfl)) ?_
  refine TrL.nil ?_
  refine TrE.seq ?_
  refine TrC.condN (Lk.t rfl) (fun hc => ?_) ?_
  · refine TrC.seq ?_
    refine TrC.region rfl ?_
    refine L rfl rfl (PStep.assign rfl Lk.c) ?_
    refine TrL.nil ?_
    refine TrE.seq ?_
    refine TrC.ret (TrE.thenR <| ?_)
    refine TrE.lay (hOwn 72 .nil a0) rfl ?_
    subst hc
    exact TrE.retOKX (RetOKX.row1 0 .nil rfl (Lk.ownNil (Lk.t rfl)) rfl rfl)
  refine TrC.skip ?_
  refine TrE.seq ?_
  refine TrC.seq ?_
  refine TrC.region rfl ?_
  refine TrL.allocG (AStep.litOwn ([] : (List Skip)) slT38 rfl rfl trivial rfl rfl) rfl (fun r1 => ?_)
  refine L rfl rfl (PStep.move rfl (Lk.t rfl)) ?_
  refine TrL.append 0 apT38 rfl rfl rfl (Lk.t rfl) (Lk.t rfl) rfl (by simp only [List.length_nil, Nat.zero_add]; omega) (fun r2 => ?_)
  refine L rfl rfl (PStep.assign rfl (Lk.t rfl)) ?_
  refine TrL.nil ?_
  refine TrE.seq ?_
  refine TrC.ret ?_
  exact TrE.retOKX (RetOKX.row1 0 r2 rfl (Lk.t rfl) rfl rfl)
def m_modcertlaw36_ProofTampers (a0 : Index) (a1 : (List Requirement)) (a2 : Answer) (a3 : Int) (a4 : Version) : Option (Bool) :=
  bnd (m_modcertlaw36_awake ) fun x1 => (bif (!x1) then some false
  else bnd (m_modcertref36_Few a0 a1) fun x2 => bnd (gd ((!x2) = false) (m_modcertlaw36_small a2)) fun x3 => bnd (gd (((!x2) || (!x3)) = false) (m_proof_Check a0 a1 a2)) fun x4 => (bif ((((!x2) || (!x3)) || (decide (x4 ≠ (0 : Int)))) || (!a2.found)) then some true
  else bnd (m_slices_Clone_Skip_Skip a2.skips) fun x5 => chk (x5.length + (([(⟨(⟨#[97, 47, 118, 49]⟩ : ByteArray), 0, 0⟩ : Skip)] : (List Skip))).length ≤ 4294967296) <| bnd (m_proof_Check a0 a1 ((⟨a2.found, a2.selection, a2.inferences, (x5 ++ ([(⟨(⟨#[97, 47, 118, 49]⟩ : ByteArray), 0, 0⟩ : Skip)] : (List Skip)))⟩ : Answer))) fun x6 => (bif (decide (x6 ≠ (18 : Int))) then some false
  else joinM (fun (c1 : (List Skip)) =>
    (bif (decide ((a2.selection.length : Int) = (0 : Int))) then some true
  else chk ((a2.selection.length : Int) ≠ 0) <| bnd (m_slices_Clone_Selected_Selected a2.selection) fun x7 => chk (0 ≤ (Int.tmod ((IntKind.wrap .i64 a3)) ((a2.selection.length : Int))) ∧ (Int.tmod ((IntKind.wrap .i64 a3)) ((a2.selection.length : Int))) < (x7.length : Int)) <| chk (0 ≤ (Int.tmod ((IntKind.wrap .i64 a3)) ((a2.selection.length : Int))) ∧ (Int.tmod ((IntKind.wrap .i64 a3)) ((a2.selection.length : Int))) < (a2.selection.length : Int)) <| bnd (gd ((decide (a4 = ((ix a2.selection ((Int.tmod ((IntKind.wrap .i64 a3)) ((a2.selection.length : Int)))))).version)) = false) (m_proof_Check a0 a1 ((⟨a2.found, (x7.set ((Int.tmod ((IntKind.wrap .i64 a3)) ((a2.selection.length : Int)))).toNat ((⟨((ix x7 ((Int.tmod ((IntKind.wrap .i64 a3)) ((a2.selection.length : Int)))))).path, a4⟩ : Selected))), a2.inferences, a2.skips⟩ : Answer)))) fun x8 => some (((decide (a4 = ((ix a2.selection ((Int.tmod ((IntKind.wrap .i64 a3)) ((a2.selection.length : Int)))))).version)) || (decide (x8 = (18 : Int))))))) fun K1 =>
    (bif (decide ((0 : Int) < (a2.skips.length : Int))) then chk (-9223372036854775808 ≤ ((a2.skips.length : Int) - (1 : Int)) ∧ ((a2.skips.length : Int) - (1 : Int)) ≤ 9223372036854775807) <| chk (0 ≤ (0 : Int) ∧ (0 : Int) ≤ ((a2.skips.length : Int) - (1 : Int)) ∧ ((a2.skips.length : Int) - (1 : Int)) ≤ (a2.skips.length : Int)) <| bnd (m_proof_Check a0 a1 ((⟨a2.found, a2.selection, a2.inferences, ((a2.skips.take (((a2.skips.length : Int) - (1 : Int))).toNat).drop ((0 : Int)).toNat)⟩ : Answer))) fun x9 => (bif (decide (x9 ≠ (18 : Int))) then some false
  else K1 (((a2.skips.take (((a2.skips.length : Int) - (1 : Int))).toNat).drop ((0 : Int)).toNat)))
  else K1 ((x5 ++ ([(⟨(⟨#[97, 47, 118, 49]⟩ : ByteArray), 0, 0⟩ : Skip)] : (List Skip))))))))
theorem s_modcertlaw36_ProofTampers (a0 : Index) (a1 : (List Requirement)) (a2 : Answer) (a3 : Int) (a4 : Version) (r : Bool) (hm : m_modcertlaw36_ProofTampers a0 a1 a2 a3 a4 = some r) : Fn Tryz.prog 9 [pT (a0 : Index), pSl (a1 : (List Requirement)), pT (a2 : Answer), pK .u8 (a3), pT (a4 : Version)] (pB (r)) := by
  unfold m_modcertlaw36_ProofTampers at hm
  refine Spec.mk Tryz.func9 rfl rfl fun B => ?_
  refine TrC.seq ?_
  refine TrC.region rfl ?_
  refine TrL.alloc (AStep.boxK rfl rfl (Lk.t rfl)) rfl (fun b1 => ?_)
  refine TrL.alloc (AStep.boxK rfl rfl (Lk.t rfl)) rfl (fun b2 => ?_)
  refine TrL.alloc (AStep.boxK rfl rfl (Lk.t rfl)) rfl (fun b3 => ?_)
  refine L rfl rfl (PStep.assign rfl Lk.c) ?_
  refine TrL.nil ?_
  refine TrE.seq ?_
  refine TrC.seq ?_
  refine TrC.seq ?_
  refine TrC.region rfl ?_
  obtain ⟨x1, hx1, hm⟩ := bnd_some hm
  refine L rfl rfl (PStep.call ((s_modcertlaw36_awake  x1 hx1)) Tryz.call10 rfl LkAll.nil) ?_
  refine L rfl rfl (PStep.not rfl (Lk.t rfl)) ?_
  refine TrL.nil ?_
  refine TrE.seq ?_
  refine TrC.condB (Lk.t rfl) (fun hc1 => ?_) (fun hc1 => ?_)
  · have hm := cond_t hm hc1
    have hs1 := hc1
    try simp only [decide_eq_true_eq, decide_eq_false_iff_not, Bool.and_eq_true, Bool.or_eq_true, Bool.not_eq_true', Bool.not_eq_false', Bool.and_eq_false_iff, Bool.or_eq_false_iff] at hs1
    refine TrC.seq ?_
    refine TrC.region rfl ?_
    refine L rfl rfl (PStep.assign rfl Lk.c) ?_
    refine TrL.nil ?_
    refine TrE.seq ?_
    refine TrC.ret (TrE.thenR <| ?_)
    cases hm
    exact TrE.retOK (RetOK.eq (show _ = _ from rfl) (RetOK.tmp rfl (Lk.t (t := 10) rfl) (List.nil_sublist _)))
  · have hm := cond_f hm hc1
    have hs1 := hc1
    try simp only [decide_eq_true_eq, decide_eq_false_iff_not, Bool.and_eq_true, Bool.or_eq_true, Bool.not_eq_true', Bool.not_eq_false', Bool.and_eq_false_iff, Bool.or_eq_false_iff] at hs1
    refine TrC.skip ?_
    refine TrE.seq ?_
    refine TrC.seq ?_
    refine TrC.seq ?_
    refine TrC.region rfl ?_
    refine L rfl rfl (PStep.ldLocV (α := Index) (v := a0) 2 Tryz.isAgg25 Tryz.sizeOf25 rfl (Lk.t rfl) rfl rfl) ?_
    refine L rfl rfl (PStep.move rfl (Lk.t rfl)) ?_
    obtain ⟨x2, hx2, hm⟩ := bnd_some hm
    refine L rfl rfl (PStep.call ((s_modcertref36_Few a0 a1 x2 hx2)) Tryz.call11 rfl (LkAll.cons (Lk.t rfl) (LkAll.cons (Lk.t rfl) LkAll.nil))) ?_
    refine L rfl rfl (PStep.not rfl (Lk.t rfl)) ?_
    refine L rfl rfl (PStep.move rfl (Lk.t rfl)) ?_
    refine LW rfl (WStep.guard rfl rfl rfl rfl (fun hg => PStep.ldLocV (α := Answer) (v := a2) 1 Tryz.isAgg40 Tryz.sizeOf40 rfl (Lk.t rfl) rfl rfl)) ?_
    obtain ⟨x3, hx3, hm⟩ := bnd_some hm
    refine LW rfl (WStep.guard rfl rfl rfl rfl (fun hg => PStep.call ((s_modcertlaw36_small a2 x3 (gd_some hx3 hg))) Tryz.call17 rfl (LkAll.cons (Lk.g rfl hg) LkAll.nil))) ?_
    refine LW rfl (WStep.guard rfl rfl rfl rfl (fun hg => PStep.not rfl (Lk.g rfl hg))) ?_
    refine L rfl rfl (PStep.pickOr rfl (Lk.t rfl) (fun hq => Lk.g rfl hq)) ?_
    refine L rfl rfl (PStep.move rfl (Lk.t rfl)) ?_
    refine LW rfl (WStep.guard rfl rfl rfl rfl (fun hg => PStep.ldLocV (α := Index) (v := a0) 2 Tryz.isAgg25 Tryz.sizeOf25 rfl (Lk.t rfl) rfl rfl)) ?_
    refine LW rfl (WStep.guard rfl rfl rfl rfl (fun hg => PStep.move rfl (Lk.t rfl))) ?_
    refine LW rfl (WStep.guard rfl rfl rfl rfl (fun hg => PStep.ldLocV (α := Answer) (v := a2) 1 Tryz.isAgg40 Tryz.sizeOf40 rfl (Lk.t rfl) rfl rfl)) ?_
    obtain ⟨x4, hx4, hm⟩ := bnd_some hm
    refine LW rfl (WStep.guard rfl rfl rfl rfl (fun hg => PStep.call ((s_proof_Check a0 a1 a2 x4 (gd_some hx4 hg))) Tryz.call21 rfl (LkAll.cons (Lk.g rfl hg) (LkAll.cons (Lk.g rfl hg) (LkAll.cons (Lk.g rfl hg) LkAll.nil))))) ?_
    refine LW rfl (WStep.guard rfl rfl rfl rfl (fun hg => PStep.neq rfl (Lk.g rfl hg) Lk.c)) ?_
    refine L rfl rfl (PStep.pickOr rfl (Lk.t rfl) (fun hq => Lk.g rfl hq)) ?_
    refine L rfl rfl (PStep.move rfl (Lk.t rfl)) ?_
    refine LW rfl (WStep.guard rfl rfl rfl rfl (fun hg => PStep.faLoc fo40_0 rfl (Lk.t rfl))) ?_
    refine LW rfl (WStep.guard rfl rfl rfl rfl (fun hg => PStep.ldLoc 1 Tryz.isAgg4 rfl (Lk.g rfl hg) rfl rfl)) ?_
    refine LW rfl (WStep.guard rfl rfl rfl rfl (fun hg => PStep.not rfl (Lk.g rfl hg))) ?_
    refine L rfl rfl (PStep.pickOr rfl (Lk.t rfl) (fun hq => Lk.g rfl hq)) ?_
    refine TrL.nil ?_
    refine TrE.seq ?_
    refine TrC.condB (Lk.t rfl) (fun hc2 => ?_) (fun hc2 => ?_)
    · have hm := cond_t hm hc2
      have hs2 := hc2
      try simp only [decide_eq_true_eq, decide_eq_false_iff_not, Bool.and_eq_true, Bool.or_eq_true, Bool.not_eq_true', Bool.not_eq_false', Bool.and_eq_false_iff, Bool.or_eq_false_iff] at hs2
      refine TrC.seq ?_
      refine TrC.region rfl ?_
      refine L rfl rfl (PStep.assign rfl Lk.c) ?_
      refine TrL.nil ?_
      refine TrE.seq ?_
      refine TrC.ret (TrE.thenR <| ?_)
      cases hm
      exact TrE.retOK (RetOK.eq (show _ = _ from rfl) (RetOK.tmp rfl (Lk.t (t := 10) rfl) (List.nil_sublist _)))
    · have hm := cond_f hm hc2
      have hs2 := hc2
      try simp only [decide_eq_true_eq, decide_eq_false_iff_not, Bool.and_eq_true, Bool.or_eq_true, Bool.not_eq_true', Bool.not_eq_false', Bool.and_eq_false_iff, Bool.or_eq_false_iff] at hs2
      refine TrC.skip ?_
      refine TrE.seq ?_
      refine TrC.seq ?_
      refine TrC.region rfl ?_
      refine L rfl rfl (PStep.ldLocV (α := Answer) (v := a2) 1 Tryz.isAgg40 Tryz.sizeOf40 rfl (Lk.t rfl) rfl rfl) ?_
      refine TrL.alloc (AStep.alloc Tryz.zeroValue40 rfl zc40 rfl rfl) rfl (fun b4 => ?_)
      refine LS rfl rfl (Step.storeW 0 Tryz.sizeOf40 rfl (Lk.t rfl) (Lk.t rfl) rfl rfl rfl) ?_
      refine TrL.nil ?_
      refine TrE.seq ?_
      refine TrC.seq ?_
      refine TrC.region rfl ?_
      refine L rfl rfl (PStep.faLoc fo40_3 rfl (Lk.t rfl)) ?_
      refine L rfl rfl (PStep.ldLoc 2 Tryz.isAgg38 rfl (Lk.t rfl) rfl rfl) ?_
      obtain ⟨x5, hx5, hm⟩ := bnd_some hm
      refine TrL.allocG (AStep.call (s_slices_Clone_Skip_Skip a2.skips x5 hx5) Tryz.call31 rfl rfl (LkAll.cons (Lk.t rfl) LkAll.nil)) rfl (fun r1 => ?_)
      refine L rfl rfl (mk72_0 rfl Lk.c) ?_
      refine L rfl rfl (PStep.litX ([(⟨(⟨#[97, 47, 118, 49]⟩ : ByteArray), 0, 0⟩ : Skip)] : (List Skip)) slT38 rfl ⟨rfl, Lk.agg (Lk.t rfl), trivial⟩ rfl rfl) ?_
      obtain ⟨hk1, hm⟩ := chk_some hm
      refine TrL.append 0 apT38 rfl rfl rfl (Lk.t rfl) (Lk.slX (Lk.t rfl)) rfl (by have := hk1; omega) (fun r2 => ?_)
      refine L rfl rfl (PStep.faLoc fo40_3 rfl (Lk.t rfl)) ?_
      refine LS rfl rfl (Step.store1 1 Tryz.sizeOf38 rfl (Lk.t rfl) (Lk.t rfl) rfl rfl rfl) ?_
      refine TrL.nil ?_
      refine TrE.seq ?_
      refine TrC.seq ?_
      refine TrC.seq ?_
      refine TrC.shareC 0 1 3 rfl rfl rfl ?_
      refine TrC.region rfl ?_
      refine L rfl rfl (PStep.ldLocV (α := Index) (v := a0) 4 Tryz.isAgg25 Tryz.sizeOf25 rfl (Lk.t rfl) rfl rfl) ?_
      refine L rfl rfl (PStep.move rfl (Lk.t rfl)) ?_
      refine L rfl rfl (PStep.ldLocV (α := Answer) (v := (⟨a2.found, a2.selection, a2.inferences, (x5 ++ ([(⟨(⟨#[97, 47, 118, 49]⟩ : ByteArray), 0, 0⟩ : Skip)] : (List Skip)))⟩ : Answer)) 1 Tryz.isAgg40 Tryz.sizeOf40 rfl (Lk.t rfl) rfl rfl) ?_
      obtain ⟨x6, hx6, hm⟩ := bnd_some hm
      refine L rfl rfl (PStep.call ((s_proof_Check a0 a1 ((⟨a2.found, a2.selection, a2.inferences, (x5 ++ ([(⟨(⟨#[97, 47, 118, 49]⟩ : ByteArray), 0, 0⟩ : Skip)] : (List Skip)))⟩ : Answer)) x6 hx6)) Tryz.call21 rfl (LkAll.cons (Lk.t rfl) (LkAll.cons (Lk.t rfl) (LkAll.cons (Lk.t rfl) LkAll.nil)))) ?_
      refine L rfl rfl (PStep.neq rfl (Lk.t rfl) Lk.c) ?_
      refine TrL.nil ?_
      refine TrE.seq ?_
      refine TrC.condB (Lk.t rfl) (fun hc3 => ?_) (fun hc3 => ?_)
      · have hm := cond_t hm hc3
        have hs3 := hc3
        try simp only [decide_eq_true_eq, decide_eq_false_iff_not, Bool.and_eq_true, Bool.or_eq_true, Bool.not_eq_true', Bool.not_eq_false', Bool.and_eq_false_iff, Bool.or_eq_false_iff] at hs3
        refine TrC.seq ?_
        refine TrC.region rfl ?_
        refine L rfl rfl (PStep.assign rfl Lk.c) ?_
        refine TrL.nil ?_
        refine TrE.seq ?_
        refine TrC.ret (TrE.thenR <| ?_)
        cases hm
        exact TrE.retOK (RetOK.eq (show _ = _ from rfl) (RetOK.tmp rfl (Lk.t (t := 10) rfl) (List.nil_sublist _)))
      · have hm := cond_f hm hc3
        have hs3 := hc3
        try simp only [decide_eq_true_eq, decide_eq_false_iff_not, Bool.and_eq_true, Bool.or_eq_true, Bool.not_eq_true', Bool.not_eq_false', Bool.and_eq_false_iff, Bool.or_eq_false_iff] at hs3
        refine TrC.skip ?_
        refine TrE.seq ?_
        obtain ⟨K1, hK1, hm⟩ := joinK hm
        refine TrC.meetM (X := (List Skip)) (fun c1 => K1 c1 = some r) (fun c1 => []) [(1, _), (3, _), (5, _), (7, _), (9, _), (11, _)] (fun c1 => fun A => (List.set A 1 (hCells b4 40 [pB (a2.found), pSl (a2.selection : (List Selected)), pSl (a2.inferences : (List Inference)), pSl (c1 : (List Skip))]))) (EnvSub.cons rfl (EnvSub.cons rfl (EnvSub.cons rfl (EnvSub.cons rfl (EnvSub.cons rfl (EnvSub.cons rfl EnvSub.nil)))))) ?_ ?_
        · refine TrC.seq ?_
          refine TrC.region rfl ?_
          refine L rfl rfl (PStep.faLoc fo40_3 rfl (Lk.t rfl)) ?_
          refine L rfl rfl (PStep.ldLoc 3 Tryz.isAgg38 rfl (Lk.t rfl) rfl rfl) ?_
          refine L rfl rfl (PStep.len (xs := a2.skips) (tys := #[]) Tryz.runUnderlying38 rfl (Lk.t rfl)) ?_
          refine L rfl rfl (PStep.assign rfl (Lk.t rfl)) ?_
          refine TrL.nil ?_
          refine TrE.seq ?_
          refine TrC.seq ?_
          refine TrC.region rfl ?_
          refine L rfl rfl (PStep.move rfl (Lk.t rfl)) ?_
          refine L rfl rfl (PStep.gtr rfl (Lk.t rfl) Lk.c) ?_
          refine TrL.nil ?_
          refine TrE.seq ?_
          refine TrC.condB (Lk.t rfl) (fun hc5 => ?_) (fun hc5 => ?_)
          · have hm := cond_t hm hc5
            have hs5 := hc5
            try simp only [decide_eq_true_eq, decide_eq_false_iff_not, Bool.and_eq_true, Bool.or_eq_true, Bool.not_eq_true', Bool.not_eq_false', Bool.and_eq_false_iff, Bool.or_eq_false_iff] at hs5
            refine TrC.seq ?_
            refine TrC.region rfl ?_
            refine L rfl rfl (PStep.faLoc fo40_3 rfl (Lk.t rfl)) ?_
            refine L rfl rfl (PStep.ldLoc 3 Tryz.isAgg38 rfl (Lk.t rfl) rfl rfl) ?_
            refine L rfl rfl (PStep.move rfl (Lk.t rfl)) ?_
            obtain ⟨hk5, hm⟩ := chk_some hm
            refine L rfl rfl (PStep.sub64 rfl (Lk.t rfl) Lk.c hk5) ?_
            obtain ⟨hk6, hm⟩ := chk_some hm
            refine L rfl rfl (PStep.slI (xs := a2.skips) ((0 : Int)) (((a2.skips.length : Int) - (1 : Int))) Tryz.runUnderlying38 Tryz.sizeOf72 rfl (Lk.t rfl) rfl ⟨_, (Lk.t rfl)⟩ hk6) ?_
            refine L rfl rfl (PStep.faLoc fo40_3 rfl (Lk.t rfl)) ?_
            refine LS rfl rfl (Step.store1 1 Tryz.sizeOf38 rfl (Lk.t rfl) (Lk.t rfl) rfl rfl rfl) ?_
            refine TrL.nil ?_
            refine TrE.seq ?_
            refine TrC.seq ?_
            refine TrC.region rfl ?_
            refine L rfl rfl (PStep.ldLocV (α := Index) (v := a0) 4 Tryz.isAgg25 Tryz.sizeOf25 rfl (Lk.t rfl) rfl rfl) ?_
            refine L rfl rfl (PStep.move rfl (Lk.t rfl)) ?_
            refine L rfl rfl (PStep.ldLocV (α := Answer) (v := (⟨a2.found, a2.selection, a2.inferences, ((a2.skips.take (((a2.skips.length : Int) - (1 : Int))).toNat).drop ((0 : Int)).toNat)⟩ : Answer)) 1 Tryz.isAgg40 Tryz.sizeOf40 rfl (Lk.t rfl) rfl rfl) ?_
            obtain ⟨x9, hx9, hm⟩ := bnd_some hm
            refine L rfl rfl (PStep.call ((s_proof_Check a0 a1 ((⟨a2.found, a2.selection, a2.inferences, ((a2.skips.take (((a2.skips.length : Int) - (1 : Int))).toNat).drop ((0 : Int)).toNat)⟩ : Answer)) x9 hx9)) Tryz.call21 rfl (LkAll.cons (Lk.t rfl) (LkAll.cons (Lk.t rfl) (LkAll.cons (Lk.t rfl) LkAll.nil)))) ?_
            refine L rfl rfl (PStep.neq rfl (Lk.t rfl) Lk.c) ?_
            refine TrL.nil ?_
            refine TrE.seq ?_
            refine TrC.condB (Lk.t rfl) (fun hc6 => ?_) (fun hc6 => ?_)
            · have hm := cond_t hm hc6
              have hs6 := hc6
              try simp only [decide_eq_true_eq, decide_eq_false_iff_not, Bool.and_eq_true, Bool.or_eq_true, Bool.not_eq_true', Bool.not_eq_false', Bool.and_eq_false_iff, Bool.or_eq_false_iff] at hs6
              refine TrC.seq ?_
              refine TrC.region rfl ?_
              refine L rfl rfl (PStep.assign rfl Lk.c) ?_
              refine TrL.nil ?_
              refine TrE.seq ?_
              refine TrC.ret (TrE.thenR <| ?_)
              cases hm
              exact TrE.retOK (RetOK.eq (show _ = _ from rfl) (RetOK.tmp rfl (Lk.t (t := 10) rfl) (List.nil_sublist _)))
            · have hm := cond_f hm hc6
              have hs6 := hc6
              try simp only [decide_eq_true_eq, decide_eq_false_iff_not, Bool.and_eq_true, Bool.or_eq_true, Bool.not_eq_true', Bool.not_eq_false', Bool.and_eq_false_iff, Bool.or_eq_false_iff] at hs6
              refine TrC.skip ?_
              refine TrE.meetX (((a2.skips.take (((a2.skips.length : Int) - (1 : Int))).toNat).drop ((0 : Int)).toNat)) hm ((EnvSub.cons rfl (EnvSub.cons rfl (EnvSub.cons rfl (EnvSub.cons rfl (EnvSub.cons rfl (EnvSub.cons rfl EnvSub.nil))))))) rfl
          · have hm := cond_f hm hc5
            have hs5 := hc5
            try simp only [decide_eq_true_eq, decide_eq_false_iff_not, Bool.and_eq_true, Bool.or_eq_true, Bool.not_eq_true', Bool.not_eq_false', Bool.and_eq_false_iff, Bool.or_eq_false_iff] at hs5
            refine TrC.skip ?_
            refine TrE.meetX ((x5 ++ ([(⟨(⟨#[97, 47, 118, 49]⟩ : ByteArray), 0, 0⟩ : Skip)] : (List Skip)))) hm ((EnvSub.cons rfl (EnvSub.cons rfl (EnvSub.cons rfl (EnvSub.cons rfl (EnvSub.cons rfl (EnvSub.cons rfl EnvSub.nil))))))) rfl
        · rintro c1 hm
          change K1 c1 = some r at hm
          subst hK1
          refine TrC.seq ?_
          refine TrC.seq ?_
          refine TrC.region rfl ?_
          refine L rfl rfl (PStep.faLoc fo40_1 rfl (Lk.t rfl)) ?_
          refine L rfl rfl (PStep.ldLoc 3 Tryz.isAgg37 rfl (Lk.t rfl) rfl rfl) ?_
          refine L rfl rfl (PStep.len (xs := a2.selection) (tys := #[]) Tryz.runUnderlying37 rfl (Lk.t rfl)) ?_
          refine L rfl rfl (PStep.eql rfl (Lk.t rfl) Lk.c) ?_
          refine TrL.nil ?_
          refine TrE.seq ?_
          refine TrC.condB (Lk.t rfl) (fun hc4 => ?_) (fun hc4 => ?_)
          · have hm := cond_t hm hc4
            have hs4 := hc4
            try simp only [decide_eq_true_eq, decide_eq_false_iff_not, Bool.and_eq_true, Bool.or_eq_true, Bool.not_eq_true', Bool.not_eq_false', Bool.and_eq_false_iff, Bool.or_eq_false_iff] at hs4
            refine TrC.seq ?_
            refine TrC.region rfl ?_
            refine L rfl rfl (PStep.assign rfl Lk.c) ?_
            refine TrL.nil ?_
            refine TrE.seq ?_
            refine TrC.ret (TrE.thenR <| ?_)
            cases hm
            exact TrE.retOK (RetOK.eq (show _ = _ from rfl) (RetOK.tmp rfl (Lk.t (t := 10) rfl) (List.nil_sublist _)))
          · have hm := cond_f hm hc4
            have hs4 := hc4
            try simp only [decide_eq_true_eq, decide_eq_false_iff_not, Bool.and_eq_true, Bool.or_eq_true, Bool.not_eq_true', Bool.not_eq_false', Bool.and_eq_false_iff, Bool.or_eq_false_iff] at hs4
            refine TrC.skip ?_
            refine TrE.seq ?_
            refine TrC.seq ?_
            refine TrC.region rfl ?_
            refine L rfl rfl (PStep.move rfl (Lk.t rfl)) ?_
            refine L rfl rfl (PStep.conv Tryz.runUnderlying5 Tryz.runUnderlying3 rfl rfl (Lk.t rfl) rfl) ?_
            refine L rfl rfl (PStep.faLoc fo40_1 rfl (Lk.t rfl)) ?_
            refine L rfl rfl (PStep.ldLoc 3 Tryz.isAgg37 rfl (Lk.t rfl) rfl rfl) ?_
            refine L rfl rfl (PStep.len (xs := a2.selection) (tys := #[]) Tryz.runUnderlying37 rfl (Lk.t rfl)) ?_
            obtain ⟨hk2, hm⟩ := chk_some hm
            refine L rfl rfl (PStep.rem rfl (Lk.t rfl) (Lk.t rfl) hk2) ?_
            refine L rfl rfl (PStep.assign rfl (Lk.t rfl)) ?_
            refine TrL.nil ?_
            refine TrE.seq ?_
            refine TrC.seq ?_
            refine TrC.region rfl ?_
            refine L rfl rfl (PStep.ldLocV (α := Answer) (v := a2) 3 Tryz.isAgg40 Tryz.sizeOf40 rfl (Lk.t rfl) rfl rfl) ?_
            refine LS rfl rfl (Step.storeW 1 Tryz.sizeOf40 rfl (Lk.t rfl) (Lk.t rfl) rfl rfl rfl) ?_
            refine TrL.nil ?_
            refine TrE.seq ?_
            refine TrC.seq ?_
            refine TrC.region rfl ?_
            refine L rfl rfl (PStep.faLoc fo40_1 rfl (Lk.t rfl)) ?_
            refine L rfl rfl (PStep.ldLoc 3 Tryz.isAgg37 rfl (Lk.t rfl) rfl rfl) ?_
            obtain ⟨x7, hx7, hm⟩ := bnd_some hm
            refine TrL.allocG (AStep.call (s_slices_Clone_Selected_Selected a2.selection x7 hx7) Tryz.call32 rfl rfl (LkAll.cons (Lk.t rfl) LkAll.nil)) rfl (fun r3 => ?_)
            refine L rfl rfl (PStep.faLoc fo40_1 rfl (Lk.t rfl)) ?_
            refine LS rfl rfl (Step.store1 2 Tryz.sizeOf37 rfl (Lk.t rfl) (Lk.t rfl) rfl rfl rfl) ?_
            refine TrL.nil ?_
            refine TrE.seq ?_
            refine TrC.seq ?_
            refine TrC.region rfl ?_
            refine L rfl rfl (PStep.faLoc fo40_1 rfl (Lk.t rfl)) ?_
            refine L rfl rfl (PStep.ldLoc 2 Tryz.isAgg37 rfl (Lk.t rfl) rfl rfl) ?_
            refine L rfl rfl (PStep.move rfl (Lk.t rfl)) ?_
            refine L rfl rfl (PStep.ldLocV (α := Version) (v := a4) 3 Tryz.isAgg57 Tryz.sizeOf57 rfl (Lk.t rfl) rfl rfl) ?_
            obtain ⟨hk3, hm⟩ := chk_some hm
            refine L rfl rfl (PStep.ixOwnI (α := Selected) Tryz.runUnderlying37 Tryz.sizeOf59 rfl (Lk.t rfl) (Lk.t rfl) hk3) ?_
            refine L rfl rfl (PStep.faI fo59_1 rfl (Lk.t rfl)) ?_
            refine LS rfl rfl (Step.stOwnI (f := 1) (qs := Enc.cells (a4 : Version)) 0 ((⟨((ix x7 ((Int.tmod ((IntKind.wrap .i64 a3)) ((a2.selection.length : Int)))))).path, a4⟩ : Selected)) Tryz.sizeOf57 rfl (Lk.t rfl) (Lk.cs (Lk.t rfl)) rfl hk3 rfl (fun q hq v S h => Enc.one _ q hq v S h) rfl) ?_
            refine TrL.weakC 2 1 rfl rfl (pOwn.imp (ys := (x7.set ((Int.tmod ((IntKind.wrap .i64 a3)) ((a2.selection.length : Int)))).toNat ((⟨((ix x7 ((Int.tmod ((IntKind.wrap .i64 a3)) ((a2.selection.length : Int)))))).path, a4⟩ : Selected)))) (by simp)) ?_
            refine TrL.nil ?_
            refine TrE.seq ?_
            refine TrC.seq ?_
            refine TrC.shareC 0 2 1 rfl rfl rfl ?_
            refine TrC.flow 16 mixed rfl (by kernel_rfl) (by kernel_rfl) ?_
            refine F rfl rfl (PStep.ldLocV (α := Version) (v := a4) 3 Tryz.isAgg57 Tryz.sizeOf57 rfl (Lk.t rfl) rfl rfl) ?_
            refine F rfl rfl (PStep.faLoc fo40_1 rfl (Lk.t rfl)) ?_
            refine F rfl rfl (PStep.ldLoc 4 Tryz.isAgg37 rfl (Lk.t rfl) rfl rfl) ?_
            refine F rfl rfl (PStep.move rfl (Lk.t rfl)) ?_
            obtain ⟨hk4, hm⟩ := chk_some hm
            refine F rfl rfl (PStep.ixD (xs := a2.selection) Tryz.runUnderlying37 Tryz.sizeOf59 rfl (Lk.t rfl) (Lk.t rfl) hk4) ?_
            refine F rfl rfl (PStep.faRef fo59_1 rfl (Lk.t rfl)) ?_
            refine F rfl rfl (PStep.ldRefV (α := Version) (v := ((ix a2.selection ((Int.tmod ((IntKind.wrap .i64 a3)) ((a2.selection.length : Int)))))).version) Tryz.isAgg57 Tryz.sizeOf57 rfl (Lk.t rfl) rfl) ?_
            refine F rfl rfl (PStep.Eq eqT57 cellsVersion rfl (Lk.t rfl) (Lk.t rfl)) ?_
            refine F rfl rfl (PStep.move rfl (Lk.t rfl)) ?_
            refine FW rfl (WStep.guard rfl rfl rfl rfl (fun hg => PStep.ldLocV (α := Index) (v := a0) 5 Tryz.isAgg25 Tryz.sizeOf25 rfl (Lk.t rfl) rfl rfl)) ?_
            refine FW rfl (WStep.guard rfl rfl rfl rfl (fun hg => PStep.move rfl (Lk.t rfl))) ?_
            refine FW rfl (WStep.guard rfl rfl rfl rfl (fun hg => PStep.ldLocV (α := Answer) (v := (⟨a2.found, (x7.set ((Int.tmod ((IntKind.wrap .i64 a3)) ((a2.selection.length : Int)))).toNat ((⟨((ix x7 ((Int.tmod ((IntKind.wrap .i64 a3)) ((a2.selection.length : Int)))))).path, a4⟩ : Selected))), a2.inferences, a2.skips⟩ : Answer)) 2 Tryz.isAgg40 Tryz.sizeOf40 rfl (Lk.t rfl) rfl rfl)) ?_
            obtain ⟨x8, hx8, hm⟩ := bnd_some hm
            refine FW rfl (WStep.guard rfl rfl rfl rfl (fun hg => PStep.call ((s_proof_Check a0 a1 ((⟨a2.found, (x7.set ((Int.tmod ((IntKind.wrap .i64 a3)) ((a2.selection.length : Int)))).toNat ((⟨((ix x7 ((Int.tmod ((IntKind.wrap .i64 a3)) ((a2.selection.length : Int)))))).path, a4⟩ : Selected))), a2.inferences, a2.skips⟩ : Answer)) x8 (gd_some hx8 hg))) Tryz.call21 rfl (LkAll.cons (Lk.g rfl hg) (LkAll.cons (Lk.g rfl hg) (LkAll.cons (Lk.g rfl hg) LkAll.nil))))) ?_
            refine FW rfl (WStep.guard rfl rfl rfl rfl (fun hg => PStep.eql rfl (Lk.g rfl hg) Lk.c)) ?_
            refine F rfl rfl (PStep.pickOr rfl (Lk.t rfl) (fun hq => Lk.g rfl hq)) ?_
            refine F rfl rfl (PStep.assign rfl (Lk.t rfl)) ?_
            refine FlowH.nil ?_
            refine ⟨rfl, ?_⟩
            refine AllocK.none rfl ?_
            refine TrL.nil ?_
            refine TrE.seq ?_
            refine TrC.ret (?_)
            cases hm
            exact TrE.retOK (RetOK.eq (show _ = _ from rfl) (RetOK.tmp rfl (Lk.t (t := 10) rfl) (List.nil_sublist _)))
end Go.Mp
namespace Go.Mp
open Go
theorem chk_ok {α : Type} {c : Prop} [Decidable c] {k : Option α} (h : c) : chk c k = k := if_pos h
theorem gd_ok {α : Type} [Inhabited α] {c : Prop} [Decidable c] {o : Option α} (h : c) : gd c o = o := if_pos h
theorem gd_no {α : Type} [Inhabited α] {c : Prop} [Decidable c] {o : Option α} (h : ¬ c) : gd c o = some default := if_neg h
theorem joinM_eq {α β : Type} (K : α) (f : α → Option β) : joinM K f = f K := rfl
def forK {α S R : Type} (body : S → α → (S → Option R) → Option R) (K : S → Option R) : List α → S → Option R
  | [], s => K s
  | x :: xs, s => body s x (forK body K xs)
theorem forK_eq {α S R : Type} [Inhabited α] (xs : List α) (body : S → α → (S → Option R) → Option R) (K : S → Option R) (L : Nat → S → Nat → Option R)
    (h : ∀ n s (i : Nat), L (n + 1) s i = bif decide ((i : Int) < (xs.length : Int)) then body s (ix xs (i : Int)) (fun s' => L n s' (i + 1)) else K s) :
    ∀ n s (i : Nat), i ≤ xs.length → xs.length + 1 ≤ n + i → L n s i = forK body K (xs.drop i) s := by
  intro n
  induction n with
  | zero => intro s i h1 h2; omega
  | succ n ih =>
    intro s i h1 h2
    rw [h]
    by_cases hi : (i : Int) < (xs.length : Int)
    · rw [decide_eq_true hi, cond_true, drop_ix hi]
      show _ = body s (ix xs i) (forK body K (xs.drop (i + 1)))
      congr 1
      funext s'
      exact ih s' (i + 1) (by omega) (by omega)
    · rw [decide_eq_false hi, cond_false, drop_no hi]
      rfl
theorem forK_fold {α S R : Type} {body : S → α → (S → Option R) → Option R} {K : S → Option R} (g : S → α → S) : ∀ {xs : List α} {s : S}, (∀ s, ∀ x ∈ xs, ∀ k, body s x k = k (g s x)) → forK body K xs s = K (xs.foldl g s)
  | [], s, _ => rfl
  | x :: xs, s, h => by
    show body s x (forK body K xs) = _
    rw [h s x List.mem_cons_self]
    exact forK_fold g fun s y hy => h s y (List.mem_cons_of_mem _ hy)
theorem forK_find {α S R : Type} {body : S → α → (S → Option R) → Option R} {K : S → Option R} (p : α → Bool) (r : α → R) : ∀ {xs : List α} {s : S}, (∀ x ∈ xs, ∀ s k, body s x k = if p x then some (r x) else k s) → forK body K xs s = match xs.find? p with | some x => some (r x) | none => K s
  | [], s, _ => rfl
  | x :: xs, s, h => by
    show body s x (forK body K xs) = _
    rw [h x List.mem_cons_self, List.find?_cons]
    cases hp : p x with
    | true => rfl
    | false =>
      simp only [Bool.false_eq_true, if_false]
      exact forK_find p r fun y hy => h y (List.mem_cons_of_mem _ hy)
theorem ix_mem {α : Type} [Inhabited α] {xs : List α} {m : Int} (h : 0 ≤ m ∧ m < xs.length) : ix xs m ∈ xs := by
  have : m.toNat < xs.length := by omega
  simp only [ix, List.getElem?_eq_getElem this, Option.getD_some]
  exact List.getElem_mem _
theorem ix_some {α : Type} [Inhabited α] {xs : List α} {m : Int} (h : 0 ≤ m ∧ m < xs.length) : xs[m.toNat]? = some (ix xs m) := by
  have : m.toNat < xs.length := by omega
  simp [ix, List.getElem?_eq_getElem this]
end Go.Mp
namespace Go.Mp
open Go
theorem IFL_Incompatibility_Term {l : List Term} {f : Term → Option Bool} {p : Term → Bool} (h : ∀ z ∈ l, f z = some (p z)) : ∀ n (i : Nat), i ≤ l.length → l.length + 1 ≤ n + i → m_slices_IndexFunc_Incompatibility_Term_L2 l f (fun _ => some (-1 : Int)) n i = some (idxFrom l p i) := by
  intro n
  induction n with
  | zero => intro i h1 h2; omega
  | succ n ih =>
    intro i h1 h2
    rw [m_slices_IndexFunc_Incompatibility_Term_L2]
    by_cases hi : (i : Int) < (l.length : Int)
    · rw [decide_eq_true hi, cond_true, h _ (ix_mem ⟨by omega, hi⟩), bnd_ok]
      cases hp : p (ix l i) with
      | true => rw [cond_true, idxFrom_hit hi hp]
      | false => rw [cond_false, idxFrom_miss hi hp]; exact ih _ (by omega) (by omega)
    · rw [decide_eq_false hi, cond_false, idxFrom_end hi]
theorem IF_Incompatibility_Term {l : List Term} {f : Term → Option Bool} {p : Term → Bool} (h : ∀ z ∈ l, f z = some (p z)) : m_slices_IndexFunc_Incompatibility_Term l f = some (idx l p) := by
  unfold m_slices_IndexFunc_Incompatibility_Term
  rw [joinM_eq, IFL_Incompatibility_Term h _ 0 (Nat.zero_le _) (by omega), idxFrom_zero]
theorem CF_Incompatibility_Term {l : List Term} {f : Term → Option Bool} {p : Term → Bool} (h : ∀ z ∈ l, f z = some (p z)) : m_slices_ContainsFunc_Incompatibility_Term l f = some (l.any p) := by
  unfold m_slices_ContainsFunc_Incompatibility_Term
  rw [IF_Incompatibility_Term h, bnd_ok, idx_any]
theorem IFL_Selected_Selected {l : List Selected} {f : Selected → Option Bool} {p : Selected → Bool} (h : ∀ z ∈ l, f z = some (p z)) : ∀ n (i : Nat), i ≤ l.length → l.length + 1 ≤ n + i → m_slices_IndexFunc_Selected_Selected_L2 l f (fun _ => some (-1 : Int)) n i = some (idxFrom l p i) := by
  intro n
  induction n with
  | zero => intro i h1 h2; omega
  | succ n ih =>
    intro i h1 h2
    rw [m_slices_IndexFunc_Selected_Selected_L2]
    by_cases hi : (i : Int) < (l.length : Int)
    · rw [decide_eq_true hi, cond_true, h _ (ix_mem ⟨by omega, hi⟩), bnd_ok]
      cases hp : p (ix l i) with
      | true => rw [cond_true, idxFrom_hit hi hp]
      | false => rw [cond_false, idxFrom_miss hi hp]; exact ih _ (by omega) (by omega)
    · rw [decide_eq_false hi, cond_false, idxFrom_end hi]
theorem IF_Selected_Selected {l : List Selected} {f : Selected → Option Bool} {p : Selected → Bool} (h : ∀ z ∈ l, f z = some (p z)) : m_slices_IndexFunc_Selected_Selected l f = some (idx l p) := by
  unfold m_slices_IndexFunc_Selected_Selected
  rw [joinM_eq, IFL_Selected_Selected h _ 0 (Nat.zero_le _) (by omega), idxFrom_zero]
theorem CF_Selected_Selected {l : List Selected} {f : Selected → Option Bool} {p : Selected → Bool} (h : ∀ z ∈ l, f z = some (p z)) : m_slices_ContainsFunc_Selected_Selected l f = some (l.any p) := by
  unfold m_slices_ContainsFunc_Selected_Selected
  rw [IF_Selected_Selected h, bnd_ok, idx_any]
theorem IFL_Requirement_Requirement {l : List Requirement} {f : Requirement → Option Bool} {p : Requirement → Bool} (h : ∀ z ∈ l, f z = some (p z)) : ∀ n (i : Nat), i ≤ l.length → l.length + 1 ≤ n + i → m_slices_IndexFunc_Requirement_Requirement_L2 l f (fun _ => some (-1 : Int)) n i = some (idxFrom l p i) := by
  intro n
  induction n with
  | zero => intro i h1 h2; omega
  | succ n ih =>
    intro i h1 h2
    rw [m_slices_IndexFunc_Requirement_Requirement_L2]
    by_cases hi : (i : Int) < (l.length : Int)
    · rw [decide_eq_true hi, cond_true, h _ (ix_mem ⟨by omega, hi⟩), bnd_ok]
      cases hp : p (ix l i) with
      | true => rw [cond_true, idxFrom_hit hi hp]
      | false => rw [cond_false, idxFrom_miss hi hp]; exact ih _ (by omega) (by omega)
    · rw [decide_eq_false hi, cond_false, idxFrom_end hi]
theorem IF_Requirement_Requirement {l : List Requirement} {f : Requirement → Option Bool} {p : Requirement → Bool} (h : ∀ z ∈ l, f z = some (p z)) : m_slices_IndexFunc_Requirement_Requirement l f = some (idx l p) := by
  unfold m_slices_IndexFunc_Requirement_Requirement
  rw [joinM_eq, IFL_Requirement_Requirement h _ 0 (Nat.zero_le _) (by omega), idxFrom_zero]
theorem CF_Requirement_Requirement {l : List Requirement} {f : Requirement → Option Bool} {p : Requirement → Bool} (h : ∀ z ∈ l, f z = some (p z)) : m_slices_ContainsFunc_Requirement_Requirement l f = some (l.any p) := by
  unfold m_slices_ContainsFunc_Requirement_Requirement
  rw [IF_Requirement_Requirement h, bnd_ok, idx_any]
theorem EQL_Set_Span {a b : List Span} (hl : a.length = b.length) : ∀ n (i : Nat), i ≤ a.length → a.length + 1 ≤ n + i → m_slices_Equal_Set_Span_L2 a b (fun _ => some true) n i = some (decide (a.drop i = b.drop i)) := by
  intro n
  induction n with
  | zero => intro i h1 h2; omega
  | succ n ih =>
    intro i h1 h2
    rw [m_slices_Equal_Set_Span_L2]
    by_cases hi : (i : Int) < (a.length : Int)
    · have hb : (i : Int) < (b.length : Int) := by omega
      rw [decide_eq_true hi, cond_true, chk_ok ⟨by omega, hb⟩, drop_ix hi, drop_ix hb]
      by_cases he : ix a i = ix b i
      · rw [decide_eq_false (by simp [he]), cond_false, ih _ (by omega) (by omega), he]
        simp
      · rw [decide_eq_true (by simpa using he), cond_true]
        simp [he]
    · rw [decide_eq_false hi, cond_false, drop_no hi, drop_no (by omega)]
      simp
theorem EQ_Set_Span (a b : List Span) : m_slices_Equal_Set_Span a b = some (decide (a = b)) := by
  unfold m_slices_Equal_Set_Span
  by_cases hl : a.length = b.length
  · rw [decide_eq_false (by simp [hl]), cond_false, joinM_eq, EQL_Set_Span hl _ 0 (Nat.zero_le _) (by omega)]
    simp
  · rw [decide_eq_true (by simp; omega), cond_true]
    rw [decide_eq_false (fun h => hl (by rw [h]))]
theorem EQL_Selected_Selected {a b : List Selected} (hl : a.length = b.length) : ∀ n (i : Nat), i ≤ a.length → a.length + 1 ≤ n + i → m_slices_Equal_Selected_Selected_L2 a b (fun _ => some true) n i = some (decide (a.drop i = b.drop i)) := by
  intro n
  induction n with
  | zero => intro i h1 h2; omega
  | succ n ih =>
    intro i h1 h2
    rw [m_slices_Equal_Selected_Selected_L2]
    by_cases hi : (i : Int) < (a.length : Int)
    · have hb : (i : Int) < (b.length : Int) := by omega
      rw [decide_eq_true hi, cond_true, chk_ok ⟨by omega, hb⟩, drop_ix hi, drop_ix hb]
      by_cases he : ix a i = ix b i
      · rw [decide_eq_false (by simp [he]), cond_false, ih _ (by omega) (by omega), he]
        simp
      · rw [decide_eq_true (by simpa using he), cond_true]
        simp [he]
    · rw [decide_eq_false hi, cond_false, drop_no hi, drop_no (by omega)]
      simp
theorem EQ_Selected_Selected (a b : List Selected) : m_slices_Equal_Selected_Selected a b = some (decide (a = b)) := by
  unfold m_slices_Equal_Selected_Selected
  by_cases hl : a.length = b.length
  · rw [decide_eq_false (by simp [hl]), cond_false, joinM_eq, EQL_Selected_Selected hl _ 0 (Nat.zero_le _) (by omega)]
    simp
  · rw [decide_eq_true (by simp; omega), cond_true]
    rw [decide_eq_false (fun h => hl (by rw [h]))]
end Go.Mp
namespace Go.Mp
open Go
def sumL {α : Type} (f : α → Int) : List α → Int
  | [] => 0
  | x :: l => f x + sumL f l
theorem sumL_perm {α : Type} (f : α → Int) {a b : List α} (h : a.Perm b) : sumL f a = sumL f b := by
  induction h with
  | nil => rfl
  | cons x _ ih => simp only [sumL, ih]
  | swap x y l => simp only [sumL]; omega
  | trans _ _ h1 h2 => exact h1.trans h2
theorem sumL_congr {α : Type} {f g : α → Int} : ∀ {l : List α}, (∀ x ∈ l, f x = g x) → sumL f l = sumL g l
  | [], _ => rfl
  | x :: l, h => by simp only [sumL, h x List.mem_cons_self, sumL_congr fun y hy => h y (List.mem_cons_of_mem _ hy)]
theorem sumL_map {α β : Type} (f : β → Int) (g : α → β) : ∀ l : List α, sumL f (l.map g) = sumL (fun x => f (g x)) l
  | [] => rfl
  | x :: l => by simp only [List.map_cons, sumL, sumL_map f g l]
def upTo (p : Int) (m : IMap) : Int := sumL (fun e : Int × Int => if e.1 ≤ p then e.2 else 0) m
theorem upTo_put (p k v : Int) : ∀ m : IMap, upTo p (putM k v m) = upTo p m + (if k ≤ p then v - getI m k else 0)
  | [] => by
    have : getI [] k = 0 := rfl
    simp only [putM, upTo, sumL, this]; split <;> omega
  | e :: m => by
    have ih := upTo_put p k v m
    unfold putM
    have hg : getI (e :: m) k = if k = e.1 then e.2 else getI m k := by
      unfold getI; rw [getM_cons]; split <;> rfl
    rw [hg]
    by_cases h : k = e.1
    · rw [if_pos h, if_pos h]
      simp only [upTo, sumL, h]
      split <;> omega
    · rw [if_neg h, if_neg h]
      simp only [upTo, sumL] at ih ⊢
      rw [ih]; omega
def covI (x : Span) (p : Int) : Int := if x.from_ ≤ p ∧ p < x.to_ then 1 else 0
theorem upTo_bump (p : Int) (m : IMap) (x : Span) (hx : x.from_ < x.to_) : upTo p (bumpS m x) = upTo p m + covI x p := by
  unfold bumpS
  rw [upTo_put, upTo_put]
  have h : getI (putM x.from_ (getI m x.from_ + 1) m) x.from_ = getI m x.from_ + 1 := by unfold getI; rw [getM_put, if_pos rfl]; rfl
  unfold covI
  by_cases h1 : x.from_ ≤ p <;> by_cases h2 : x.to_ ≤ p
  · rw [if_pos h1, if_pos h2, if_neg (by omega)]; omega
  · rw [if_pos h1, if_neg h2, if_pos (by omega)]; omega
  · omega
  · rw [if_neg h1, if_neg h2, if_neg (by omega)]; omega
theorem covI_one : ∀ {l : List Span} {p : Int}, CanonL l → (Cov l p → sumL (fun x => covI x p) l = 1) ∧ (¬ Cov l p → sumL (fun x => covI x p) l = 0)
  | [], p, _ => ⟨fun h => absurd h Cov.nil, fun _ => rfl⟩
  | x :: l, p, h => by
    have ih := covI_one (p := p) h.tail
    have hx : x.from_ < x.to_ := h.full x List.mem_cons_self
    have hr := h.rest p
    rw [Cov.cons] at hr
    simp only [sumL]
    refine ⟨fun hc => ?_, fun hc => ?_⟩
    · rcases Cov.cons.1 hc with h1 | h1
      · have : ¬ Cov l p := fun h2 => by have := (hr.1 h2).2; omega
        rw [ih.2 this]; unfold covI; rw [if_pos h1]; rfl
      · have h2 := (hr.1 h1).2
        rw [ih.1 h1]; unfold covI; rw [if_neg (by omega)]; rfl
    · rw [Cov.cons] at hc
      rw [ih.2 (fun h => hc (.inr h))]; unfold covI; rw [if_neg (fun h => hc (.inl h))]; rfl
def covN (l : List (List Span)) (p : Int) : Int := sumL (fun s => sumL (fun x => covI x p) (canon s)) l
theorem upTo_changes (l : List (List Span)) (p : Int) : upTo p (changeOf l) = covN l p := by
  have h1 : ∀ (c : List Span) (m : IMap), (∀ x ∈ c, x.from_ < x.to_) → upTo p (c.foldl bumpS m) = upTo p m + sumL (fun x => covI x p) c := by
    intro c
    induction c with
    | nil => intro m _; simp [sumL]
    | cons x c ih =>
      intro m hm
      rw [List.foldl_cons, ih _ (fun y hy => hm y (List.mem_cons_of_mem _ hy)), upTo_bump p m x (hm x List.mem_cons_self)]
      simp only [sumL]; omega
  have h2 : ∀ (l : List (List Span)) (m : IMap), upTo p (l.foldl (fun m s => (canon s).foldl bumpS m) m) = upTo p m + covN l p := by
    intro l
    induction l with
    | nil => intro m; simp [covN, sumL]
    | cons s l ih =>
      intro m
      rw [List.foldl_cons, ih, h1 (canon s) m (canon_spec s).1.full]
      simp only [covN, sumL]; omega
  unfold changeOf
  rw [h2]
  have : upTo p [(0, 0), (1000000, 0)] = 0 := by unfold upTo sumL sumL sumL; split <;> split <;> rfl
  omega
theorem putM_keys_eq {κ ν : Type} [DecidableEq κ] (k : κ) (v : ν) : ∀ m : List (κ × ν), ∀ q, q ∈ (putM k v m).map (·.1) ↔ q = k ∨ q ∈ m.map (·.1)
  | [], q => by simp [putM]
  | e :: m, q => by
    unfold putM
    split
    · rename_i h
      simp [h]
    · simp only [List.map_cons, List.mem_cons, putM_keys_eq k v m q]
      constructor
      · rintro (h | h | h)
        · exact .inr (.inl h)
        · exact .inl h
        · exact .inr (.inr h)
      · rintro (h | h | h)
        · exact .inr (.inl h)
        · exact .inl h
        · exact .inr (.inr h)
structure KeysOK (m : IMap) : Prop where
  nodup : (m.map (·.1)).Nodup
  zero : (0 : Int) ∈ m.map (·.1)
  top : (1000000 : Int) ∈ m.map (·.1)
  bound : ∀ k ∈ m.map (·.1), 0 ≤ k ∧ k ≤ 1000000
theorem KeysOK.put {m : IMap} (h : KeysOK m) (k v : Int) (hk : 0 ≤ k ∧ k ≤ 1000000) : KeysOK (putM k v m) :=
  ⟨putM_keys k v m h.nodup, (putM_keys_eq k v m _).2 (.inr h.zero), (putM_keys_eq k v m _).2 (.inr h.top), fun q hq => by
    rcases (putM_keys_eq k v m q).1 hq with rfl | hq
    · exact hk
    · exact h.bound q hq⟩
theorem keysOK_changes (l : List (List Span)) : KeysOK (changeOf l) := by
  have h1 : ∀ (c : List Span) (m : IMap), KeysOK m → (∀ x ∈ c, 0 ≤ x.from_ ∧ x.to_ ≤ 1000000 ∧ x.from_ < x.to_) → KeysOK (c.foldl bumpS m) := by
    intro c
    induction c with
    | nil => intro m h _; exact h
    | cons x c ih =>
      intro m h hm
      have hx := hm x List.mem_cons_self
      exact ih _ ((h.put _ _ (by omega)).put _ _ (by omega)) fun y hy => hm y (List.mem_cons_of_mem _ hy)
  have h2 : ∀ (l : List (List Span)) (m : IMap), KeysOK m → KeysOK (l.foldl (fun m s => (canon s).foldl bumpS m) m) := by
    intro l
    induction l with
    | nil => intro m h; exact h
    | cons s l ih => exact fun m h => ih _ (h1 _ m h fun x hx => ⟨(canon_bound s x hx).1, (canon_bound s x hx).2, (canon_spec s).1.full x hx⟩)
  exact h2 l _ ⟨by decide, by decide, by decide, by decide⟩
theorem segs_cov (keep : Int → Bool) (m : IMap) (p : Int) : ∀ (ks : List Int) (c a : Int), (a :: ks).Pairwise (· < ·) →
    (Cov (segs keep m c (a :: ks)) p ↔ (a ≤ p ∧ ∃ z ∈ ks, p < z) ∧ keep (c + sumL (fun k => if k ≤ p then getI m k else 0) (a :: ks)) = true)
  | [], c, a, _ => by
    simp only [segs, List.not_mem_nil, false_and, exists_false, and_false, iff_false]
    exact Cov.nil
  | b :: ks, c, a, h => by
    have h' := List.pairwise_cons.1 h
    have ih := segs_cov keep m p ks (c + getI m a) b h'.2
    have hab : a < b := h'.1 b List.mem_cons_self
    have hrest : ∀ z ∈ ks, b < z := fun z hz => (List.pairwise_cons.1 h'.2).1 z hz
    by_cases hp : p < b
    · -- in the first piece, or ahead of it
      have h0 : sumL (fun k => if k ≤ p then getI m k else 0) (b :: ks) = 0 := by
        have : ∀ (l : List Int), (∀ z ∈ l, p < z) → sumL (fun k => if k ≤ p then getI m k else 0) l = 0 := by
          intro l
          induction l with
          | nil => intro _; rfl
          | cons x l ih =>
            intro hl
            simp only [sumL, ih fun z hz => hl z (List.mem_cons_of_mem _ hz)]
            rw [if_neg (by have := hl x List.mem_cons_self; omega)]; rfl
        refine this _ fun z hz => ?_
        rcases List.mem_cons.1 hz with rfl | hz
        · exact hp
        · have := hrest z hz; omega
      have hno : ¬ Cov (segs keep m (c + getI m a) (b :: ks)) p := fun hc => by have := (ih.1 hc).1.1; omega
      have hs : sumL (fun k => if k ≤ p then getI m k else 0) (a :: b :: ks) = if a ≤ p then getI m a else 0 := by
        show (if a ≤ p then getI m a else 0) + sumL (fun k => if k ≤ p then getI m k else 0) (b :: ks) = _
        rw [h0, Int.add_zero]
      rw [hs]
      have he : (∃ z ∈ b :: ks, p < z) := ⟨b, List.mem_cons_self, hp⟩
      unfold segs
      split
      · rename_i hk
        rw [Cov.cons]
        refine ⟨fun hc => ?_, fun hc => .inl ⟨hc.1.1, hp⟩⟩
        rcases hc with hc | hc
        · have hc : a ≤ p ∧ p < b := hc
          exact ⟨⟨hc.1, he⟩, by rw [if_pos hc.1]; exact hk⟩
        · exact absurd hc hno
      · rename_i hk
        refine ⟨fun hc => absurd hc hno, fun hc => ?_⟩
        rw [if_pos hc.1.1] at hc
        exact absurd hc.2 hk
    · have hs : c + sumL (fun k => if k ≤ p then getI m k else 0) (a :: b :: ks) = (c + getI m a) + sumL (fun k => if k ≤ p then getI m k else 0) (b :: ks) := by
        show c + ((if a ≤ p then getI m a else 0) + sumL (fun k => if k ≤ p then getI m k else 0) (b :: ks)) = _
        rw [if_pos (show a ≤ p by omega)]; omega
      have he : (∃ z ∈ b :: ks, p < z) ↔ ∃ z ∈ ks, p < z := by
        constructor
        · rintro ⟨z, hz, hlt⟩
          rcases List.mem_cons.1 hz with rfl | hz
          · exact absurd hlt hp
          · exact ⟨z, hz, hlt⟩
        · rintro ⟨z, hz, hlt⟩; exact ⟨z, List.mem_cons_of_mem _ hz, hlt⟩
      have hmain : Cov (segs keep m c (a :: b :: ks)) p ↔ Cov (segs keep m (c + getI m a) (b :: ks)) p := by
        conv => lhs; unfold segs
        split
        · rw [Cov.cons]
          exact ⟨fun hc => hc.resolve_left fun h => by have h : a ≤ p ∧ p < b := h; omega, .inr⟩
        · exact Iff.rfl
      rw [hmain, ih, hs, he]
      constructor
      · rintro ⟨⟨h1, h2⟩, h3⟩; exact ⟨⟨by omega, h2⟩, h3⟩
      · rintro ⟨⟨h1, h2⟩, h3⟩; exact ⟨⟨by omega, h2⟩, h3⟩
theorem sum_keys (m : IMap) (p : Int) (hn : (m.map (·.1)).Nodup) : sumL (fun k => if k ≤ p then getI m k else 0) (m.map (·.1)) = upTo p m := by
  rw [sumL_map]
  unfold upTo
  refine sumL_congr fun e he => ?_
  have : getI m e.1 = e.2 := by
    have : ∀ (m : IMap), (m.map (·.1)).Nodup → e ∈ m → getI m e.1 = e.2 := by
      intro m
      induction m with
      | nil => intro _ h; cases h
      | cons d m ih =>
        intro hn he
        have hn' := List.nodup_cons.1 hn
        unfold getI
        rw [getM_cons]
        rcases List.mem_cons.1 he with rfl | he
        · rw [if_pos rfl]; rfl
        · rw [if_neg fun h => hn'.1 (by show d.1 ∈ _; rw [← h]; exact List.mem_map_of_mem (f := (·.1)) he)]
          exact ih hn'.2 he
    exact this m hn he
  rw [this]
theorem clip_cov (s : List Span) (p : Int) : Cov (clip s) p ↔ Cov s p ∧ 0 ≤ p ∧ p < 1000000 := by
  unfold clip Cov
  simp only [List.mem_filter, List.mem_map, decide_eq_true_eq]
  constructor
  · rintro ⟨y, ⟨⟨x, hx, rfl⟩, h1⟩, h2, h3⟩
    simp only [clipS] at h1 h2 h3
    exact ⟨⟨x, hx, by omega, by omega⟩, by omega, by omega⟩
  · rintro ⟨⟨x, hx, h1, h2⟩, h3, h4⟩
    refine ⟨clipS x, ⟨⟨x, hx, rfl⟩, ?_⟩, ?_, ?_⟩ <;> simp only [clipS] <;> omega
theorem canon_cov (s : List Span) (p : Int) : Cov (canon s) p ↔ Cov s p ∧ 0 ≤ p ∧ p < 1000000 := (canon_spec s).2 p |>.trans (clip_cov s p)
theorem combine_cov (keep : Int → Bool) (l : List (List Span)) (p : Int) : Cov (combine keep l) p ↔ (0 ≤ p ∧ p < 1000000) ∧ keep (covN l p) = true := by
  unfold combine
  rw [canon_cov]
  have hk := keysOK_changes l
  have hp := (sortI_spec ((changeOf l).map (·.1)))
  have hks : keysOf (changeOf l) = sortI ((changeOf l).map (·.1)) := by unfold keysOf; rfl
  rw [hks]
  have hnd : (sortI ((changeOf l).map (·.1))).Nodup := hp.1.symm.nodup_iff.1 hk.nodup
  have hlt : (sortI ((changeOf l).map (·.1))).Pairwise (· < ·) := by
    have := hp.2.and hnd
    exact this.imp fun h => by have := h.1; have := h.2; omega
  have hmem : ∀ z, z ∈ sortI ((changeOf l).map (·.1)) ↔ z ∈ (changeOf l).map (·.1) := fun z => hp.1.mem_iff
  have hsum := sumL_perm (fun k => if k ≤ p then getI (changeOf l) k else 0) hp.1
  rw [sum_keys _ _ hk.nodup, upTo_changes] at hsum
  cases hs : sortI ((changeOf l).map (·.1)) with
  | nil =>
    have := (hmem 0).2 hk.zero
    rw [hs] at this; cases this
  | cons a ks =>
    rw [hs] at hlt hmem hsum
    rw [segs_cov keep _ p ks 0 a hlt, hsum, Int.zero_add]
    have h0 := hmem 0 |>.2 hk.zero
    have ht := hmem 1000000 |>.2 hk.top
    have ha : a = 0 := by
      have := (hk.bound a ((hmem a).1 List.mem_cons_self)).1
      rcases List.mem_cons.1 h0 with h | h
      · exact h.symm
      · have := (List.pairwise_cons.1 hlt).1 0 h; omega
    constructor
    · rintro ⟨⟨⟨h1, h2⟩, h3⟩, h4, h5⟩
      exact ⟨⟨h4, h5⟩, h3⟩
    · rintro ⟨⟨h1, h2⟩, h3⟩
      refine ⟨⟨⟨by omega, 1000000, ?_, h2⟩, h3⟩, h1, h2⟩
      rcases List.mem_cons.1 ht with h | h
      · omega
      · exact h
theorem covN_cases (s : List Span) (p : Int) : (Cov (canon s) p ∧ sumL (fun x => covI x p) (canon s) = 1) ∨ (¬ Cov (canon s) p ∧ sumL (fun x => covI x p) (canon s) = 0) := by
  have h := covI_one (p := p) (canon_spec s).1
  by_cases hc : Cov (canon s) p
  · exact .inl ⟨hc, h.1 hc⟩
  · exact .inr ⟨hc, h.2 hc⟩
theorem complement_cov (s : List Span) (p : Int) : Cov (complement s) p ↔ (0 ≤ p ∧ p < 1000000) ∧ ¬ Cov s p := by
  unfold complement
  rw [combine_cov]
  have hc := canon_cov s p
  rcases covN_cases s p with ⟨h1, h2⟩ | ⟨h1, h2⟩ <;> simp only [covN, sumL, h2, Int.add_zero] <;> rw [hc] at h1
  · simp [h1.1]
  · constructor
    · rintro ⟨h3, _⟩; exact ⟨h3, fun h4 => h1 ⟨h4, h3⟩⟩
    · rintro ⟨h3, _⟩; exact ⟨h3, rfl⟩
theorem intersect_cov (a b : List Span) (p : Int) : Cov (intersect [a, b]) p ↔ (0 ≤ p ∧ p < 1000000) ∧ Cov a p ∧ Cov b p := by
  unfold intersect
  rw [combine_cov]
  have ha := canon_cov a p
  have hb := canon_cov b p
  rcases covN_cases a p with ⟨h1, h2⟩ | ⟨h1, h2⟩ <;> rcases covN_cases b p with ⟨h3, h4⟩ | ⟨h3, h4⟩ <;> simp only [covN, sumL, h2, h4, Int.add_zero] <;> rw [ha] at h1 <;> rw [hb] at h3
  · simp [h1.1, h3.1]
  · refine ⟨fun h => absurd h.2 (by simp), fun h => absurd ⟨h.2.2, h.1⟩ h3⟩
  · refine ⟨fun h => absurd h.2 (by simp), fun h => absurd ⟨h.2.1, h.1⟩ h1⟩
  · refine ⟨fun h => absurd h.2 (by simp), fun h => absurd ⟨h.2.1, h.1⟩ h1⟩
theorem union_cov (a b : List Span) (p : Int) : Cov (union [a, b]) p ↔ (0 ≤ p ∧ p < 1000000) ∧ (Cov a p ∨ Cov b p) := by
  unfold union
  rw [combine_cov]
  have ha := canon_cov a p
  have hb := canon_cov b p
  rcases covN_cases a p with ⟨h1, h2⟩ | ⟨h1, h2⟩ <;> rcases covN_cases b p with ⟨h3, h4⟩ | ⟨h3, h4⟩ <;> simp only [covN, sumL, h2, h4, Int.add_zero] <;> rw [ha] at h1 <;> rw [hb] at h3
  · simp [h1.1]
  · simp [h1.1]
  · simp [h3.1]
  · refine ⟨fun h => absurd h.2 (by decide), fun ⟨h5, h6⟩ => ?_⟩
    rcases h6 with h6 | h6
    · exact absurd ⟨h6, h5⟩ h1
    · exact absurd ⟨h6, h5⟩ h3
theorem has_cov (s : List Span) (p : Int) : has s p = true ↔ (0 ≤ p ∧ p < 1000000) ∧ Cov s p := by
  unfold has inSpan Cov
  simp only [Bool.and_eq_true, decide_eq_true_eq, List.any_eq_true]
end Go.Mp
namespace Go.Mp
open Go
def tHolds (t : Term) : Option Int → Prop
  | none => t.absent = true
  | some p => has t.set_ p = true
def lHolds (l : List Term) (f : ByteArray → Option Int) : Prop := ∀ t ∈ l, tHolds t (f t.path)
def InR (f : ByteArray → Option Int) : Prop := ∀ q p, f q = some p → 0 ≤ p ∧ p < 1000000
theorem both_holds (a b : Term) (σ : Option Int) : tHolds (both a b) σ ↔ tHolds a σ ∧ tHolds b σ := by
  cases σ with
  | none => simp [tHolds, both]
  | some p =>
    simp only [tHolds, both, has_cov, intersect_cov]
    constructor
    · rintro ⟨h, _, h1, h2⟩; exact ⟨⟨h, h1⟩, h, h2⟩
    · rintro ⟨⟨h, h1⟩, _, h2⟩; exact ⟨h, h, h1, h2⟩
theorem either_holds (a b : Term) (σ : Option Int) : tHolds (either a b) σ ↔ tHolds a σ ∨ tHolds b σ := by
  cases σ with
  | none => simp [tHolds, either]
  | some p =>
    simp only [tHolds, either, has_cov, union_cov]
    constructor
    · rintro ⟨h, _, h1 | h1⟩
      · exact .inl ⟨h, h1⟩
      · exact .inr ⟨h, h1⟩
    · rintro (⟨h, h1⟩ | ⟨h, h1⟩)
      · exact ⟨h, h, .inl h1⟩
      · exact ⟨h, h, .inr h1⟩
theorem len0 {α : Type} {l : List α} (h : decide ((l.length : Int) = 0) = true) : l = [] := by
  have := of_decide_eq_true h
  exact List.eq_nil_of_length_eq_zero (by omega)
theorem always_holds {t : Term} (h : always t = true) {σ : Option Int} (hσ : ∀ p, σ = some p → 0 ≤ p ∧ p < 1000000) : tHolds t σ := by
  unfold always at h
  rw [Bool.and_eq_true] at h
  cases σ with
  | none => exact h.1
  | some p =>
    have hp := hσ p rfl
    have hc := len0 h.2
    have := complement_cov t.set_ p
    rw [hc] at this
    refine (has_cov _ _).2 ⟨hp, ?_⟩
    exact Classical.byContradiction fun hn => Cov.nil (this.2 ⟨hp, hn⟩)
theorem never_no {t : Term} (h : never t = true) {σ : Option Int} : ¬ tHolds t σ := by
  unfold never at h
  rw [Bool.and_eq_true] at h
  cases σ with
  | none => intro h2; have h2 : t.absent = true := h2; rw [h2] at h; exact absurd h.1 (by simp)
  | some p =>
    intro h2
    have h2 := (has_cov _ _).1 h2
    have hc := len0 h.2
    have := (canon_cov t.set_ p).2 ⟨h2.2, h2.1⟩
    rw [hc] at this
    exact Cov.nil this
def mHolds (m : TMap) (f : ByteArray → Option Int) : Prop := ∀ e ∈ m, tHolds e.2 (f e.1)
theorem putM_mem_iff {κ ν : Type} [DecidableEq κ] {k : κ} {v : ν} : ∀ {m : List (κ × ν)}, (m.map (·.1)).Nodup → ∀ e, e ∈ putM k v m ↔ e = (k, v) ∨ (e ∈ m ∧ e.1 ≠ k)
  | [], _, e => by simp [putM]
  | d :: m, h, e => by
    have h' := List.nodup_cons.1 h
    unfold putM
    split
    · rename_i hk
      subst hk
      simp only [List.mem_cons]
      constructor
      · rintro (rfl | he)
        · exact .inl rfl
        · exact .inr ⟨.inr he, fun hek => h'.1 (by show d.1 ∈ _; rw [← hek]; exact List.mem_map_of_mem (f := (·.1)) he)⟩
      · rintro (rfl | ⟨rfl | he, hne⟩)
        · exact .inl rfl
        · exact absurd rfl hne
        · exact .inr he
    · rename_i hk
      simp only [List.mem_cons, putM_mem_iff h'.2 e]
      constructor
      · rintro (rfl | rfl | ⟨he, hne⟩)
        · exact .inr ⟨.inl rfl, fun h => hk h.symm⟩
        · exact .inl rfl
        · exact .inr ⟨.inr he, hne⟩
      · rintro (rfl | ⟨rfl | he, hne⟩)
        · exact .inr (.inl rfl)
        · exact .inl rfl
        · exact .inr (.inr ⟨he, hne⟩)
theorem getM_iff {κ ν : Type} [DecidableEq κ] {k : κ} {v : ν} : ∀ {m : List (κ × ν)}, (m.map (·.1)).Nodup → (getM m k = some v ↔ (k, v) ∈ m)
  | [], _ => by simp [getM, findM]
  | d :: m, h => by
    have h' := List.nodup_cons.1 h
    rw [getM_cons]
    split
    · rename_i hk
      subst hk
      constructor
      · intro e; cases e; exact List.mem_cons_self
      · intro he
        rcases List.mem_cons.1 he with e | he
        · rw [← e]
        · exact absurd (List.mem_map_of_mem (f := (·.1)) he) h'.1
    · rename_i hk
      rw [getM_iff h'.2, List.mem_cons]
      constructor
      · exact .inr
      · rintro (e | he)
        · exact absurd (by rw [← e]) hk
        · exact he
theorem getM_none_iff {κ ν : Type} [DecidableEq κ] {k : κ} : ∀ {m : List (κ × ν)}, getM m k = none ↔ k ∉ m.map (·.1)
  | [] => by simp [getM, findM]
  | d :: m => by
    rw [getM_cons]
    split
    · rename_i hk; subst hk; simp
    · rename_i hk
      rw [getM_none_iff, List.map_cons, List.mem_cons, not_or]
      exact ⟨fun h => ⟨hk, h⟩, fun h => h.2⟩
theorem mergeT1_holds {m : TMap} (hn : keysNodup m) (t : Term) (f : ByteArray → Option Int) : mHolds (mergeT1 m t) f ↔ mHolds m f ∧ tHolds t (f t.path) := by
  unfold mergeT1 mHolds
  cases hg : getM m t.path with
  | none =>
    have hno := getM_none_iff.1 hg
    simp only [Option.getD_none, putM_mem_iff hn]
    constructor
    · intro h
      refine ⟨fun e he => h e (.inr ⟨he, fun hk => hno (by rw [← hk]; exact List.mem_map_of_mem (f := (·.1)) he)⟩), ?_⟩
      have := h (t.path, both t t) (.inl rfl)
      exact ((both_holds _ _ _).1 this).1
    · rintro ⟨h1, h2⟩ e (rfl | ⟨he, _⟩)
      · exact (both_holds _ _ _).2 ⟨h2, h2⟩
      · exact h1 e he
  | some u =>
    have hu := (getM_iff hn).1 hg
    simp only [Option.getD_some, putM_mem_iff hn]
    constructor
    · intro h
      have hb := (both_holds _ _ _).1 (h (t.path, both u t) (.inl rfl))
      refine ⟨fun e he => ?_, hb.2⟩
      by_cases hk : e.1 = t.path
      · have : getM m e.1 = some e.2 := (getM_iff hn).2 he
        rw [hk, hg] at this
        cases this
        rw [hk]; exact hb.1
      · exact h e (.inr ⟨he, hk⟩)
    · rintro ⟨h1, h2⟩ e (rfl | ⟨he, _⟩)
      · exact (both_holds _ _ _).2 ⟨h1 _ hu, h2⟩
      · exact h1 e he
theorem mergeT_holds (l : List Term) (f : ByteArray → Option Int) : mHolds (mergeT l) f ↔ lHolds l f := by
  have h : ∀ (l : List Term) (m : TMap), keysNodup m → (mHolds (l.foldl mergeT1 m) f ↔ mHolds m f ∧ lHolds l f) := by
    intro l
    induction l with
    | nil => intro m _; simp [lHolds]
    | cons t l ih =>
      intro m hm
      rw [List.foldl_cons, ih (mergeT1 m t) (putM_keys _ _ m hm), mergeT1_holds hm]
      simp only [lHolds, List.mem_cons, forall_eq_or_imp, and_assoc]
  rw [mergeT, h l [] List.nodup_nil]
  simp [mHolds]
theorem kept_mem {m : TMap} {t : Term} : t ∈ keptT m ↔ ∃ e ∈ m, always e.2 = false ∧ e.2 = t := by
  unfold keptT
  simp only [List.mem_map, List.mem_filter, Bool.not_eq_true', and_assoc]
theorem kept_holds {l : List Term} {f : ByteArray → Option Int} (hf : InR f) : lHolds (keptT (mergeT l)) f ↔ mHolds (mergeT l) f := by
  have ho := mergeT_own l
  constructor
  · intro h e he
    cases ha : always e.2 with
    | true => exact always_holds ha (hf e.1)
    | false =>
      have := h e.2 (kept_mem.2 ⟨e, he, ha, rfl⟩)
      rwa [ho e he] at this
  · rintro h t ht
    obtain ⟨e, he, _, rfl⟩ := kept_mem.1 ht
    rw [ho e he]; exact h e he
theorem lHolds_perm {a b : List Term} (h : a.Perm b) (f : ByteArray → Option Int) : lHolds a f ↔ lHolds b f :=
  ⟨fun k t ht => k t (h.mem_iff.2 ht), fun k t ht => k t (h.mem_iff.1 ht)⟩
theorem canonT_holds {l : List Term} {f : ByteArray → Option Int} (hf : InR f) : lHolds l f ↔ (canonT l).2 = true ∧ lHolds (canonT l).1 f := by
  unfold canonT
  split
  · rename_i h
    simp only [Bool.false_eq_true, false_and, iff_false]
    intro hl
    obtain ⟨e, he, hn⟩ := List.any_eq_true.1 h
    exact never_no hn (((mergeT_holds l f).2 hl) e he)
  · rw [lHolds_perm (sortT_spec _).1, kept_holds hf, mergeT_holds]
    simp
def CanonS (s : List Span) : Prop := CanonL s ∧ ∀ x ∈ s, 0 ≤ x.from_ ∧ x.to_ ≤ 1000000
theorem canonS_canon (s : List Span) : CanonS (canon s) := ⟨(canon_spec s).1, canon_bound s⟩
theorem canonS_combine (keep : Int → Bool) (l : List (List Span)) : CanonS (combine keep l) := canonS_canon _
theorem CanonS.range {s : List Span} (h : CanonS s) {p : Int} (hp : Cov s p) : 0 ≤ p ∧ p < 1000000 := by
  obtain ⟨x, hx, h1, h2⟩ := hp
  have := h.2 x hx
  omega
theorem CanonS.ext {a b : List Span} (ha : CanonS a) (hb : CanonS b) (h : ∀ p, 0 ≤ p ∧ p < 1000000 → (Cov a p ↔ Cov b p)) : a = b :=
  canon_unique ha.1 hb.1 fun p => ⟨fun k => (h p (ha.range k)).1 k, fun k => (h p (hb.range k)).2 k⟩
theorem CanonS.self {s : List Span} (h : CanonS s) : intersect [s, s] = s := CanonS.ext (canonS_combine _ _) h fun p hp => by
  rw [intersect_cov]; exact ⟨fun k => k.2.1, fun k => ⟨hp, k, k⟩⟩
structure CanonI (l : List Term) : Prop where
  sorted : l.Pairwise fun a b => strLt a.path b.path = true
  sets : ∀ t ∈ l, CanonS t.set_
  notAlways : ∀ t ∈ l, always t = false
  notNever : ∀ t ∈ l, never t = false
theorem CanonI.nil : CanonI [] := ⟨List.Pairwise.nil, fun _ h => (nomatch h), fun _ h => (nomatch h), fun _ h => (nomatch h)⟩
theorem mergeT_sets (l : List Term) : ∀ e ∈ mergeT l, CanonS e.2.set_ := by
  have h : ∀ (l : List Term) (m : TMap), (∀ e ∈ m, CanonS e.2.set_) → ∀ e ∈ l.foldl mergeT1 m, CanonS e.2.set_ := by
    intro l
    induction l with
    | nil => exact fun m h => h
    | cons t l ih =>
      intro m hm
      refine ih _ fun e he => ?_
      rcases putM_mem he with rfl | he
      · exact canonS_combine _ _
      · exact hm e he
  exact h l [] fun _ h => nomatch h
theorem strict_of {l : List Term} (h : l.Pairwise fun a b => strLt b.path a.path = false) (hn : (l.map (·.path)).Nodup) : l.Pairwise fun a b => strLt a.path b.path = true := by
  have h2 : l.Pairwise fun a b => a.path ≠ b.path := by
    rw [List.Nodup, List.pairwise_map] at hn
    exact hn
  refine (h.and h2).imp fun {a b} hab => ?_
  cases hc : strLt a.path b.path with
  | true => rfl
  | false => exact absurd (strLt_tri hc hab.1) hab.2
theorem canonT_form (l : List Term) : CanonI (canonT l).1 := by
  unfold canonT
  split
  · exact CanonI.nil
  · rename_i h
    have hp := sortT_spec (keptT (mergeT l))
    have hm : ∀ t ∈ sortT (keptT (mergeT l)), ∃ e ∈ mergeT l, always e.2 = false ∧ e.2 = t := fun t ht => kept_mem.1 (hp.1.mem_iff.1 ht)
    refine ⟨strict_of hp.2 ((hp.1.map _).symm.nodup_iff.1 (kept_nodup l)), fun t ht => ?_, fun t ht => ?_, fun t ht => ?_⟩
    · obtain ⟨e, he, _, rfl⟩ := hm t ht
      exact mergeT_sets l e he
    · obtain ⟨e, he, h1, rfl⟩ := hm t ht
      exact h1
    · obtain ⟨e, he, _, rfl⟩ := hm t ht
      cases hn : never e.2 with
      | false => rfl
      | true => exact absurd (List.any_eq_true.2 ⟨e, he, hn⟩) h
theorem mergeT_paths (l : List Term) : ∀ e ∈ mergeT l, ∃ t ∈ l, t.path = e.1 := by
  have h : ∀ (l : List Term) (m : TMap), ∀ e ∈ l.foldl mergeT1 m, (∃ t ∈ l, t.path = e.1) ∨ e.1 ∈ m.map (·.1) := by
    intro l
    induction l with
    | nil => exact fun m e he => .inr (List.mem_map_of_mem (f := (·.1)) he)
    | cons t l ih =>
      intro m e he
      rcases ih _ e he with ⟨u, hu, hp⟩ | he
      · exact .inl ⟨u, List.mem_cons_of_mem _ hu, hp⟩
      · rcases (putM_keys_eq _ _ m _).1 he with h | h
        · exact .inl ⟨t, List.mem_cons_self, h.symm⟩
        · exact .inr h
  intro e he
  rcases h l [] e he with h | h
  · exact h
  · cases h
theorem canonT_paths (l : List Term) : ∀ t ∈ (canonT l).1, ∃ u ∈ l, u.path = t.path := by
  unfold canonT
  split
  · exact fun _ h => nomatch h
  · intro t ht
    obtain ⟨e, he, _, rfl⟩ := kept_mem.1 ((sortT_spec _).1.mem_iff.1 ht)
    obtain ⟨u, hu, hp⟩ := mergeT_paths l e he
    exact ⟨u, hu, by rw [hp, mergeT_own l e he]⟩
theorem strict_nodup {l : List Term} (h : l.Pairwise fun a b => strLt a.path b.path = true) : (l.map (·.path)).Nodup := by
  rw [List.Nodup, List.pairwise_map]
  exact h.imp fun {a b} hab he => by rw [he, strLt_irrefl] at hab; cases hab
theorem putM_new {κ ν : Type} [DecidableEq κ] {k : κ} {v : ν} : ∀ {m : List (κ × ν)}, k ∉ m.map (·.1) → putM k v m = m ++ [(k, v)]
  | [], _ => rfl
  | e :: m, h => by
    unfold putM
    rw [if_neg fun hk => h (by rw [hk]; exact List.mem_cons_self), putM_new fun hm => h (List.mem_cons_of_mem _ hm)]
    rfl
theorem canonT_self {l : List Term} (h : CanonI l) : canonT l = (l, true) := by
  have hm : ∀ (l : List Term) (m : TMap), (∀ t ∈ l, CanonS t.set_) → (l.map (·.path)).Nodup → (∀ t ∈ l, t.path ∉ m.map (·.1)) → l.foldl mergeT1 m = m ++ l.map fun t => (t.path, t) := by
    intro l
    induction l with
    | nil => intro m _ _ _; simp
    | cons t l ih =>
      intro m hs hn hno
      have hn' := List.nodup_cons.1 hn
      have hnt := hno t List.mem_cons_self
      have hb : both t t = t := by
        have := (hs t List.mem_cons_self).self
        cases t; simp only [both, Bool.and_self] at this ⊢; simp [this]
      have h1 : mergeT1 m t = m ++ [(t.path, t)] := by
        unfold mergeT1
        rw [getM_none_iff.2 hnt, Option.getD_none, hb, putM_new hnt]
      rw [List.foldl_cons, h1, ih _ (fun u hu => hs u (List.mem_cons_of_mem _ hu)) hn'.2 fun u hu => ?_]
      · simp
      · rw [List.map_append, List.mem_append, not_or]
        refine ⟨hno u (List.mem_cons_of_mem _ hu), fun hc => hn'.1 ?_⟩
        simp only [List.map_cons, List.map_nil, List.mem_singleton] at hc
        show t.path ∈ _
        rw [← hc]; exact List.mem_map_of_mem (f := fun t : Term => t.path) hu
  have hme : mergeT l = l.map fun t => (t.path, t) := by
    have := hm l [] h.sets (strict_nodup h.sorted) (fun _ _ h => nomatch h)
    simpa [mergeT] using this
  have hk : keptT (mergeT l) = l := by
    rw [hme]
    unfold keptT
    rw [List.filter_map, List.map_map]
    have : (l.filter ((fun e : ByteArray × Term => !always e.2) ∘ fun t => (t.path, t))) = l := List.filter_eq_self.2 fun t ht => by simp [h.notAlways t ht]
    rw [this]
    exact List.map_id' l
  have hs : sortT l = l := (sortT_of ⟨List.Perm.refl _, h.sorted.imp fun hab => strLt_asymm hab⟩ (strict_nodup h.sorted)).symm
  unfold canonT
  rw [if_neg, hk, hs]
  rw [hme, List.any_map]
  intro hc
  obtain ⟨t, ht, hn⟩ := List.any_eq_true.1 hc
  have hn : never t = true := hn
  rw [h.notNever t ht] at hn; cases hn
end Go.Mp
namespace Go.Mp
open Go
structure FewR (l : List Requirement) : Prop where
  len : l.length ≤ 20
  each : ∀ q ∈ l, q.path.size ≤ 100 ∧ q.set_.length ≤ 8
structure FewX (x : Index) : Prop where
  len : x.releases.length ≤ 16
  each : ∀ r ∈ x.releases, r.path.size ≤ 100 ∧ FewR r.requirements
theorem forI_some {S R : Type} (m : Nat) (L : Nat → S → Nat → Option R) (I : Nat → S → Prop) (G : R → Prop)
    (stop : ∀ n s i, i = m → I i s → ∃ r, L (n + 1) s i = some r ∧ G r)
    (round : ∀ n s i, i < m → I i s → (∃ r, L (n + 1) s i = some r ∧ G r) ∨ ∃ s', L (n + 1) s i = L n s' (i + 1) ∧ I (i + 1) s') :
    ∀ n s i, i ≤ m → m + 1 ≤ n + i → I i s → ∃ r, L n s i = some r ∧ G r := by
  intro n
  induction n with
  | zero => intro s i h1 h2; omega
  | succ n ih =>
    intro s i h1 h2 hI
    rcases Nat.lt_or_ge i m with hi | hi
    · rcases round n s i hi hI with h | ⟨s', h3, h4⟩
      · exact h
      · rw [h3]; exact ih s' (i + 1) hi (by omega) h4
    · exact stop n s i (by omega) hI
theorem ix_memN {α : Type} [Inhabited α] {xs : List α} {i : Nat} (h : i < xs.length) : ix xs (i : Int) ∈ xs := ix_mem ⟨by omega, by omega⟩
theorem ix_getElem {α : Type} [Inhabited α] {xs : List α} {i : Nat} (h : i < xs.length) : ix xs (i : Int) = xs[i] := ix_nat xs i h
theorem all_ix {α : Type} [Inhabited α] {xs : List α} {P : α → Prop} (h : ∀ i : Nat, i < xs.length → P (ix xs (i : Int))) : ∀ x ∈ xs, P x := fun x hx => by
  obtain ⟨i, hi, rfl⟩ := List.mem_iff_getElem.1 hx
  rw [← ix_getElem hi]; exact h i hi
theorem fewReq_ok (l : List Requirement) : ∃ b, m_modcertref32_FewRequirements l = some b ∧ (b = true → FewR l) := by
  unfold m_modcertref32_FewRequirements
  rw [joinM_eq]
  refine forI_some l.length (fun n (_ : Unit) i => m_modcertref32_FewRequirements_L2 l (fun _ => some (decide ((l.length : Int) ≤ 20))) n i) (fun i _ => ∀ j : Nat, j < i → (ix l (j : Int)).path.size ≤ 100 ∧ (ix l (j : Int)).set_.length ≤ 8) (fun b => b = true → FewR l) ?_ ?_ _ () 0 (Nat.zero_le _) (by omega) (fun j h => by omega)
  · intro n s i hi hI
    subst hi
    refine ⟨decide ((l.length : Int) ≤ 20), by rw [m_modcertref32_FewRequirements_L2, decide_eq_false (by omega), cond_false], fun hb => ⟨by have := of_decide_eq_true hb; omega, all_ix hI⟩⟩
  · intro n s i hi hI
    have hi' : (i : Int) < (l.length : Int) := by omega
    simp only [m_modcertref32_FewRequirements_L2]
    rw [decide_eq_true hi', cond_true, chk_ok (fun _ => ⟨by omega, hi'⟩)]
    by_cases hc : ((decide (100 < ((ix l (i : Int)).path.size : Int))) || (decide (8 < ((ix l (i : Int)).set_.length : Int)))) = true
    · rw [hc, cond_true]
      exact .inl ⟨false, rfl, fun h => by cases h⟩
    · rw [Bool.not_eq_true] at hc
      rw [hc, cond_false]
      simp only [Bool.or_eq_false_iff, decide_eq_false_iff_not] at hc
      refine .inr ⟨(), rfl, fun j hj => ?_⟩
      rcases Nat.lt_or_ge j i with h | h
      · exact hI j h
      · have : j = i := by omega
        subst this; omega
theorem fewRel_ok (l : List Release) (m : Int) : ∃ b, m_modcertref32_FewReleases l m = some b ∧ (b = true → (l.length : Int) ≤ m ∧ ∀ r ∈ l, r.path.size ≤ 100 ∧ FewR r.requirements) := by
  unfold m_modcertref32_FewReleases
  rw [joinM_eq]
  refine forI_some l.length (fun n (_ : Unit) i => m_modcertref32_FewReleases_L2 l (fun _ => some (decide ((l.length : Int) ≤ m))) n i) (fun i _ => ∀ j : Nat, j < i → (ix l (j : Int)).path.size ≤ 100 ∧ FewR (ix l (j : Int)).requirements) (fun b => b = true → (l.length : Int) ≤ m ∧ ∀ r ∈ l, r.path.size ≤ 100 ∧ FewR r.requirements) ?_ ?_ _ () 0 (Nat.zero_le _) (by omega) (fun j h => by omega)
  · intro n s i hi hI
    subst hi
    refine ⟨decide ((l.length : Int) ≤ m), by rw [m_modcertref32_FewReleases_L2, decide_eq_false (by omega), cond_false], fun hb => ⟨of_decide_eq_true hb, all_ix hI⟩⟩
  · intro n s i hi hI
    have hi' : (i : Int) < (l.length : Int) := by omega
    simp only [m_modcertref32_FewReleases_L2]
    rw [decide_eq_true hi', cond_true, chk_ok (fun _ => ⟨by omega, hi'⟩), chk_ok (fun _ => ⟨by omega, hi'⟩), chk_ok (fun _ => ⟨by omega, hi'⟩), chk_ok (fun _ => ⟨by omega, hi'⟩)]
    obtain ⟨b, hb1, hb2⟩ := fewReq_ok (ix l (i : Int)).requirements
    cases hc : (((decide (100 < ((ix l (i : Int)).path.size : Int))) || (decide (100 < ((ix l (i : Int)).archive.size : Int)))) || (decide (100 < ((ix l (i : Int)).interface.size : Int)))) || (decide (100 < ((ix l (i : Int)).certificate.size : Int))) with
    | true =>
      rw [gd_no (by simp), bnd_ok]
      simp only [Bool.true_or, cond_true]
      exact .inl ⟨false, rfl, fun h => by cases h⟩
    | false =>
      rw [gd_ok rfl, hb1, bnd_ok]
      simp only [Bool.false_or]
      cases b with
      | false => exact .inl ⟨false, rfl, fun h => by cases h⟩
      | true =>
        simp only [Bool.or_eq_false_iff, decide_eq_false_iff_not] at hc
        refine .inr ⟨(), rfl, fun j hj => ?_⟩
        rcases Nat.lt_or_ge j i with h | h
        · exact hI j h
        · have : j = i := by omega
          subst this
          exact ⟨by omega, hb2 rfl⟩
theorem few_ok (x : Index) (roots : List Requirement) : ∃ b, m_modcertref36_Few x roots = some b ∧ (b = true → FewX x ∧ FewR roots) := by
  unfold m_modcertref36_Few
  obtain ⟨b, h1, h2⟩ := fewRel_ok x.releases 16
  obtain ⟨c, h3, h4⟩ := fewReq_ok roots
  rw [h1, bnd_ok]
  cases b with
  | false => rw [gd_no (by simp), bnd_ok]; exact ⟨_, rfl, fun h => by simp at h⟩
  | true =>
    rw [gd_ok rfl, h3, bnd_ok]
    refine ⟨_, rfl, fun h => ?_⟩
    simp only [Bool.true_and] at h
    have := h2 rfl
    exact ⟨⟨by omega, this.2⟩, h4 h⟩
structure ValidR (l : List Requirement) : Prop where
  len : l.length ≤ 16
  each : ∀ q ∈ l, (lineOf q.path).2.2 = 0 ∧ CanonS q.set_ ∧ q.set_ ≠ []
  sorted : l.Pairwise fun a b => strLt a.path b.path = true
theorem pairwise_ix {α : Type} [Inhabited α] {R : α → α → Prop} (tr : ∀ a b c, R a b → R b c → R a c) {l : List α} (h : ∀ i : Nat, i + 1 < l.length → R (ix l (i : Int)) (ix l ((i + 1 : Nat) : Int))) : l.Pairwise R := by
  induction l with
  | nil => exact List.Pairwise.nil
  | cons a l ih =>
    have ih := ih fun i hi => by
      have := h (i + 1) (by simp; omega)
      rw [ix_getElem (by simp; omega), ix_getElem (by simp; omega)] at this
      rw [ix_getElem (by omega), ix_getElem hi]
      simpa using this
    refine List.pairwise_cons.2 ⟨?_, ih⟩
    cases l with
    | nil => exact fun _ h => nomatch h
    | cons b l =>
      have hab : R a b := by simpa [ix] using h 0 (by simp)
      intro c hc
      rcases List.mem_cons.1 hc with rfl | hc
      · exact hab
      · exact tr _ _ _ hab ((List.pairwise_cons.1 ih).1 c hc)
theorem checkRequirement_ok {q : Requirement} (hq : q.path.size ≤ 100 ∧ q.set_.length ≤ 8) (b : Option Requirement) : ∃ c, m_index_checkRequirement q b = some c ∧ (c = 0 → (lineOf q.path).2.2 = 0 ∧ q.set_ ≠ [] ∧ q.set_ = canon q.set_ ∧ ∀ p, b = some p → strLt p.path q.path = true) := by
  unfold m_index_checkRequirement
  rw [chk_ok (by omega)]
  by_cases h1 : (lineOf q.path).2.2 = 0
  · rw [decide_eq_false (by simpa using h1), cond_false, chk_ok (fun _ => by omega)]
    by_cases h2 : q.set_ = []
    · rw [decide_eq_true (by simp [h2]), gd_no (by simp), bnd_ok]
      simp only [Bool.true_or, cond_true]
      exact ⟨1, rfl, fun h => by omega⟩
    · rw [decide_eq_false (by simp; exact h2), gd_ok rfl, EQ_Set_Span, bnd_ok]
      simp only [Bool.false_or]
      by_cases h3 : q.set_ = canon q.set_
      · rw [decide_eq_true h3]
        simp only [Bool.not_true, Bool.false_or]
        cases b with
        | none => exact ⟨0, rfl, fun _ => ⟨h1, h2, h3, fun p hp => by cases hp⟩⟩
        | some p =>
          simp only [Option.isSome_some, Bool.true_and, Option.getD_some]
          cases h4 : (strLt q.path p.path || decide (q.path = p.path)) with
          | true => exact ⟨1, rfl, fun h => by omega⟩
          | false =>
            refine ⟨0, rfl, fun _ => ⟨h1, h2, h3, fun p' hp' => ?_⟩⟩
            cases hp'
            simp only [Bool.or_eq_false_iff, decide_eq_false_iff_not] at h4
            cases h5 : strLt p.path q.path with
            | true => rfl
            | false => exact absurd (strLt_tri h4.1 h5) h4.2
      · rw [decide_eq_false h3]
        simp only [Bool.not_false, Bool.true_or, cond_true]
        exact ⟨1, rfl, fun h => by omega⟩
  · rw [decide_eq_true (by simpa using h1), cond_true]
    exact ⟨4, rfl, fun h => by omega⟩
theorem checkReqs_ok {l : List Requirement} (hl : FewR l) : ∃ c, m_index_CheckRequirements l = some c ∧ (c = 0 → ValidR l) := by
  unfold m_index_CheckRequirements
  by_cases h16 : 16 < (l.length : Int)
  · rw [decide_eq_true h16, cond_true]; exact ⟨7, rfl, fun h => by omega⟩
  rw [decide_eq_false h16, cond_false, joinM_eq]
  refine forI_some l.length (fun n p i => m_index_CheckRequirements_L2 l (fun _ => some 0) n p i)
    (fun i p => (∀ j : Nat, j < i → (lineOf (ix l (j : Int)).path).2.2 = 0 ∧ CanonS (ix l (j : Int)).set_ ∧ (ix l (j : Int)).set_ ≠ []) ∧ (∀ j : Nat, j + 1 < i → strLt (ix l (j : Int)).path (ix l ((j + 1 : Nat) : Int)).path = true) ∧ (∀ j : Nat, j + 1 = i → p = some (ix l (j : Int)))) (fun c => c = 0 → ValidR l) ?_ ?_ _ none 0 (Nat.zero_le _) (by omega) ⟨fun j h => by omega, fun j h => by omega, fun j h => by omega⟩
  · rintro n s i rfl ⟨h1, h2, _⟩
    refine ⟨0, by rw [m_index_CheckRequirements_L2, decide_eq_false (by omega), cond_false], fun _ => ⟨by omega, all_ix h1, pairwise_ix (R := fun a b : Requirement => strLt a.path b.path = true) (fun a b c => strLt_trans) h2⟩⟩
  · rintro n p i hi ⟨h1, h2, h3⟩
    have hi' : (i : Int) < (l.length : Int) := by omega
    simp only [m_index_CheckRequirements_L2]
    obtain ⟨c, hc1, hc2⟩ := checkRequirement_ok (hl.each _ (ix_memN hi)) p
    rw [decide_eq_true hi', cond_true, hc1, bnd_ok]
    by_cases hc : c = 0
    · rw [decide_eq_false (by simpa using hc), cond_false]
      obtain ⟨k1, k2, k3, k4⟩ := hc2 hc
      refine .inr ⟨_, rfl, fun j hj => ?_, fun j hj => ?_, fun j hj => by have : j = i := by omega
                                                                          rw [this]⟩
      · rcases Nat.lt_or_ge j i with h | h
        · exact h1 j h
        · have : j = i := by omega
          subst this
          exact ⟨k1, by rw [k3]; exact canonS_canon _, k2⟩
      · rcases Nat.lt_or_ge (j + 1) i with h | h
        · exact h2 j h
        · have h5 : j + 1 = i := by omega
          have := k4 _ (h3 j h5)
          rw [h5]; exact this
    · rw [decide_eq_true (by simpa using hc), cond_true]
      exact .inl ⟨c, rfl, fun h => absurd h hc⟩
def verLt (a b : Version) : Prop := a.major < b.major ∨ (a.major = b.major ∧ (a.minor < b.minor ∨ (a.minor = b.minor ∧ a.patch < b.patch)))
def relLt (a b : Release) : Prop := strLt a.path b.path = true ∨ (a.path = b.path ∧ verLt a.version b.version)
theorem relLt_trans (a b c : Release) (h : relLt a b) (k : relLt b c) : relLt a c := by
  rcases h with h | ⟨h, h'⟩ <;> rcases k with k | ⟨k, k'⟩
  · exact .inl (strLt_trans h k)
  · exact .inl (by rw [← k]; exact h)
  · exact .inl (by rw [h]; exact k)
  · refine .inr ⟨h.trans k, ?_⟩
    unfold verLt at *
    omega
theorem cmpI_cases (x y : Int) : (cmpI x y = -1 ∧ x < y) ∨ (cmpI x y = 0 ∧ x = y) ∨ (cmpI x y = 1 ∧ y < x) := by
  unfold cmpI
  split
  · exact .inl ⟨rfl, by assumption⟩
  · split
    · exact .inr (.inr ⟨rfl, by assumption⟩)
    · exact .inr (.inl ⟨rfl, by omega⟩)
theorem cmpV_cases (a b : Version) : (cmpV a b = -1 ∧ verLt a b) ∨ (cmpV a b = 0 ∧ a = b) ∨ (cmpV a b = 1 ∧ verLt b a) := by
  have e : cmpV a b = if cmpI a.major b.major ≠ 0 then cmpI a.major b.major else if cmpI a.minor b.minor ≠ 0 then cmpI a.minor b.minor else if cmpI a.patch b.patch ≠ 0 then cmpI a.patch b.patch else 0 := rfl
  rw [e]
  unfold verLt
  rcases cmpI_cases a.major b.major with ⟨h1, h2⟩ | ⟨h1, h2⟩ | ⟨h1, h2⟩
  · rw [h1]; exact .inl ⟨rfl, .inl h2⟩
  · rw [h1]
    rcases cmpI_cases a.minor b.minor with ⟨h3, h4⟩ | ⟨h3, h4⟩ | ⟨h3, h4⟩
    · rw [h3]; exact .inl ⟨rfl, .inr ⟨h2, .inl h4⟩⟩
    · rw [h3]
      rcases cmpI_cases a.patch b.patch with ⟨h5, h6⟩ | ⟨h5, h6⟩ | ⟨h5, h6⟩
      · rw [h5]; exact .inl ⟨rfl, .inr ⟨h2, .inr ⟨h4, h6⟩⟩⟩
      · rw [h5]; exact .inr (.inl ⟨rfl, by cases a; cases b; simp only at h2 h4 h6; rw [h2, h4, h6]⟩)
      · rw [h5]; exact .inr (.inr ⟨rfl, .inr ⟨h2.symm, .inr ⟨h4.symm, h6⟩⟩⟩)
    · rw [h3]; exact .inr (.inr ⟨rfl, .inr ⟨h2.symm, .inl h4⟩⟩)
  · rw [h1]; exact .inr (.inr ⟨rfl, .inl h2⟩)
theorem cmpS_cases (s t : ByteArray) : (cmpS s t = -1 ∧ strLt s t = true) ∨ (cmpS s t = 0 ∧ s = t) ∨ (cmpS s t = 1 ∧ strLt t s = true) := by
  unfold cmpS
  cases h1 : strLt s t with
  | true => exact .inl ⟨rfl, rfl⟩
  | false =>
    by_cases h2 : s = t
    · simp [h2]
    · have : strLt t s = true := by
        cases h3 : strLt t s with
        | true => rfl
        | false => exact absurd (strLt_tri h1 h3) h2
      simp [h2, this]
def cmpR (a b : Release) : Int := firstNZ [cmpS a.path b.path, cmpV a.version b.version]
theorem cmpR_cases (a b : Release) : (cmpR a b = -1 ∧ relLt a b) ∨ (cmpR a b = 0 ∧ a.path = b.path ∧ a.version = b.version) ∨ (cmpR a b = 1 ∧ relLt b a) := by
  have e : cmpR a b = if cmpS a.path b.path ≠ 0 then cmpS a.path b.path else if cmpV a.version b.version ≠ 0 then cmpV a.version b.version else 0 := rfl
  rw [e]
  unfold relLt
  rcases cmpS_cases a.path b.path with ⟨h1, h2⟩ | ⟨h1, h2⟩ | ⟨h1, h2⟩
  · rw [h1]; exact .inl ⟨rfl, .inl h2⟩
  · rw [h1]
    rcases cmpV_cases a.version b.version with ⟨h3, h4⟩ | ⟨h3, h4⟩ | ⟨h3, h4⟩
    · rw [h3]; exact .inl ⟨rfl, .inr ⟨h2, h4⟩⟩
    · rw [h3]; exact .inr (.inl ⟨rfl, h2, h4⟩)
    · rw [h3]; exact .inr (.inr ⟨rfl, .inr ⟨h2.symm, h4⟩⟩)
  · rw [h1]; exact .inr (.inr ⟨rfl, .inl h2⟩)
structure ValidRel (r : Release) : Prop where
  line : (lineOf r.path).2.2 = 0
  ver : validV r.version = true
  major : r.version.major = (lineOf r.path).2.1
  reqs : ValidR r.requirements
structure ValidX (x : Index) : Prop where
  each : ∀ r ∈ x.releases, ValidRel r
  sorted : x.releases.Pairwise relLt
theorem checkRelease_ok {r : Release} (hr : r.path.size ≤ 100 ∧ FewR r.requirements) : ∃ c, m_index_checkRelease r = some c ∧ (c = 0 → ValidRel r) := by
  unfold m_index_checkRelease
  rw [chk_ok (by omega)]
  by_cases h1 : (lineOf r.path).2.2 = 0
  · rw [decide_eq_false (by simpa using h1), cond_false]
    cases h2 : ((!(validV r.version)) || (decide (r.version.major ≠ (lineOf r.path).2.1))) with
    | true => rw [cond_true]; exact ⟨2, rfl, fun h => by omega⟩
    | false =>
      rw [cond_false]
      simp only [Bool.or_eq_false_iff, Bool.not_eq_false', decide_eq_false_iff_not, ne_eq, Decidable.not_not] at h2
      obtain ⟨c, hc1, hc2⟩ := checkReqs_ok hr.2
      rw [hc1, bnd_ok]
      by_cases hc : c = 0
      · rw [decide_eq_false (by simpa using hc), cond_false, joinM_eq]
        refine forI_some 3 (fun n (_ : Unit) i => m_index_checkRelease_L2 r (fun _ => some 0) n i) (fun _ _ => True) (fun c => c = 0 → ValidRel r) ?_ ?_ _ () 0 (by omega) (by simp) trivial
        · rintro n s i rfl _
          exact ⟨0, by rw [m_index_checkRelease_L2, decide_eq_false (by simp), cond_false], fun _ => ⟨h1, h2.1, h2.2, hc2 hc⟩⟩
        · intro n s i hi _
          simp only [m_index_checkRelease_L2]
          rw [decide_eq_true (by simp; omega), cond_true]
          cases ((decide (((ix (([r.archive, r.interface, r.certificate] : (List ByteArray))) (i : Int)).size : Int) ≠ 0)) && (decide (((ix (([r.archive, r.interface, r.certificate] : (List ByteArray))) (i : Int)).size : Int) ≠ 32))) with
          | true => exact .inl ⟨1, rfl, fun h => by omega⟩
          | false => exact .inr ⟨(), rfl, trivial⟩
      · rw [decide_eq_true (by simpa using hc), cond_true]
        exact ⟨c, rfl, fun h => absurd h hc⟩
  · rw [decide_eq_true (by simpa using h1), cond_true]
    exact ⟨4, rfl, fun h => by omega⟩
theorem check_ok {x : Index} (hx : FewX x) : ∃ c, m_index_Check x = some c ∧ (c = 0 → ValidX x) := by
  unfold m_index_Check
  rw [decide_eq_false (by have := hx.len; omega), cond_false, joinM_eq]
  refine forI_some x.releases.length (fun n (_ : Unit) i => m_index_Check_L2 x (fun _ => some 0) n i)
    (fun i _ => (∀ j : Nat, j < i → ValidRel (ix x.releases (j : Int))) ∧ ∀ j : Nat, j + 1 < i → relLt (ix x.releases (j : Int)) (ix x.releases ((j + 1 : Nat) : Int))) (fun c => c = 0 → ValidX x) ?_ ?_ _ () 0 (Nat.zero_le _) (by omega) ⟨fun j h => by omega, fun j h => by omega⟩
  · rintro n s i rfl ⟨h1, h2⟩
    exact ⟨0, by rw [m_index_Check_L2, decide_eq_false (by omega), cond_false], fun _ => ⟨all_ix h1, pairwise_ix relLt_trans h2⟩⟩
  · rintro n p i hi ⟨h1, h2⟩
    have hi' : (i : Int) < (x.releases.length : Int) := by omega
    simp only [m_index_Check_L2]
    obtain ⟨c, hc1, hc2⟩ := checkRelease_ok (hx.each _ (ix_memN hi))
    rw [decide_eq_true hi', cond_true, hc1, bnd_ok]
    by_cases hc : c = 0
    · rw [decide_eq_false (by simpa using hc), cond_false]
      by_cases h0 : i = 0
      · rw [decide_eq_true (by simp [h0]), cond_true]
        refine .inr ⟨(), rfl, fun j hj => ?_, fun j hj => by omega⟩
        have : j = i := by omega
        rw [this]; exact hc2 hc
      · have hlen := hx.len
        rw [decide_eq_false (by simp; exact h0), cond_false, chk_ok (by omega), chk_ok (by omega)]
        simp only [m_index_key, bnd_ok, m_index_compare]
        have hj : ((i : Int) - 1) = ((i - 1 : Nat) : Int) := by omega
        rw [hj]
        by_cases hk : (⟨(ix x.releases ((i - 1 : Nat) : Int)).path, (ix x.releases ((i - 1 : Nat) : Int)).version⟩ : Selected) = ⟨(ix x.releases (i : Int)).path, (ix x.releases (i : Int)).version⟩
        · rw [decide_eq_true hk, cond_true]
          exact .inl ⟨5, rfl, fun h => by omega⟩
        · rw [decide_eq_false hk, cond_false]
          rcases cmpR_cases (ix x.releases ((i - 1 : Nat) : Int)) (ix x.releases (i : Int)) with ⟨k1, k2⟩ | ⟨k1, k2, k3⟩ | ⟨k1, k2⟩
          · have k1 : firstNZ [cmpS (ix x.releases ((i - 1 : Nat) : Int)).path (ix x.releases (i : Int)).path, cmpV (ix x.releases ((i - 1 : Nat) : Int)).version (ix x.releases (i : Int)).version] = -1 := k1
            rw [k1, decide_eq_false (by omega), cond_false]
            refine .inr ⟨(), rfl, fun j hj => ?_, fun j hj => ?_⟩
            · rcases Nat.lt_or_ge j i with h | h
              · exact h1 j h
              · have : j = i := by omega
                rw [this]; exact hc2 hc
            · rcases Nat.lt_or_ge (j + 1) i with h | h
              · exact h2 j h
              · have h5 : j + 1 = i := by omega
                have h6 : i - 1 = j := by omega
                rw [h6] at k2
                rw [h5]; exact k2
          · exact absurd (by rw [k2, k3]) hk
          · have k1 : firstNZ [cmpS (ix x.releases ((i - 1 : Nat) : Int)).path (ix x.releases (i : Int)).path, cmpV (ix x.releases ((i - 1 : Nat) : Int)).version (ix x.releases (i : Int)).version] = 1 := k1
            rw [k1, decide_eq_true (by omega), cond_true]
            exact .inl ⟨1, rfl, fun h => by omega⟩
    · rw [decide_eq_true (by simpa using hc), cond_true]
      exact .inl ⟨c, rfl, fun h => absurd h hc⟩
end Go.Mp
namespace Go.Mp
open Go
theorem take_ix {α : Type} [Inhabited α] {xs : List α} {i : Nat} (h : i < xs.length) : xs.take (i + 1) = xs.take i ++ [ix xs (i : Int)] := by
  rw [ix_getElem h, List.take_add_one, List.getElem?_eq_getElem h]; rfl
def keyR (r : Release) : Selected := ⟨r.path, r.version⟩
def findK (x : Index) (k : Selected) : Option Release := x.releases.find? fun r => decide (keyR r = k)
def ofPath (x : Index) (p : ByteArray) : List Release := x.releases.filter fun r => decide (r.path = p)
theorem relLt_key {a b : Release} (h : relLt a b) : keyR a ≠ keyR b := fun e => by
  have e1 : a.path = b.path := congrArg Selected.path e
  have e2 : a.version = b.version := congrArg Selected.version e
  rcases h with h | ⟨_, h⟩
  · rw [e1, strLt_irrefl] at h; cases h
  · unfold verLt at h; rw [e2] at h; omega
theorem keys_inj {l : List Release} (h : l.Pairwise relLt) : ∀ a ∈ l, ∀ b ∈ l, keyR a = keyR b → a = b := by
  have hn : (l.map keyR).Nodup := by
    rw [List.Nodup, List.pairwise_map]
    exact h.imp fun h => relLt_key h
  exact inj_of_nodup keyR hn
structure TabOK (x : Index) (t : Table) : Prop where
  rel : ∀ k, getM t.releases k = findK x k
  paths : ∀ p, (getM t.paths p).getD [] = ofPath x p
theorem newTable_ok {x : Index} (hx : FewX x) : ∃ t c, m_index_newTable x = some (t, c) ∧ (c ≠ 0 → t = ⟨[], []⟩) ∧ (c = 0 → ValidX x ∧ TabOK x t) := by
  unfold m_index_newTable
  obtain ⟨c, hc1, hc2⟩ := check_ok hx
  rw [hc1, bnd_ok]
  by_cases hc : c = 0
  · have hv := hc2 hc
    rw [decide_eq_false (by simpa using hc), cond_false, joinM_eq]
    refine Exists.elim (forI_some x.releases.length (fun n (s : List (ByteArray × List Release) × List (Selected × Release)) i => m_index_newTable_L2 x (fun mm1 mm2 => some ((⟨mm2, mm1⟩ : Table), (0 : Int))) n s.1 s.2 i)
      (fun i s => (∀ k, getM s.2 k = (x.releases.take i).find? fun r => decide (keyR r = k)) ∧ ∀ p, (getM s.1 p).getD [] = (x.releases.take i).filter fun r => decide (r.path = p)) (fun r => r.2 = 0 ∧ TabOK x r.1) ?_ ?_ (x.releases.length + 1) ([], []) 0 (Nat.zero_le _) (by omega) ⟨fun k => rfl, fun p => rfl⟩) ?_
    · rintro n s i rfl ⟨h1, h2⟩
      refine ⟨_, by simp only [m_index_newTable_L2]; rw [decide_eq_false (by omega), cond_false], rfl, fun k => ?_, fun p => ?_⟩
      · rw [h1, List.take_length]; rfl
      · rw [h2, List.take_length]; rfl
    · rintro n s i hi ⟨h1, h2⟩
      have hi' : (i : Int) < (x.releases.length : Int) := by omega
      have hlen := hx.len
      simp only [m_index_newTable_L2, m_index_key, bnd_ok]
      rw [decide_eq_true hi', cond_true, chk_ok (by
        rw [h2]
        have := List.length_filter_le (fun r : Release => decide (r.path = (ix x.releases (i : Int)).path)) (x.releases.take i)
        rw [List.length_take] at this
        simp only [List.length_singleton]; omega)]
      refine .inr ⟨(_, _), rfl, fun k => ?_, fun p => ?_⟩
      · rw [getM_put, take_ix hi, List.find?_append, ← h1]
        show (if k = keyR (ix x.releases (i : Int)) then _ else _) = _
        by_cases hk : k = keyR (ix x.releases (i : Int))
        · rw [if_pos hk]
          have hno : getM s.2 k = none := by
            rw [h1, List.find?_eq_none]
            intro r hr hd
            have hd : keyR r = k := by simpa using hd
            obtain ⟨j, hj, rfl⟩ := List.mem_iff_getElem.1 hr
            rw [List.length_take] at hj
            have hlt := List.pairwise_iff_getElem.1 hv.sorted j i (by omega) hi (by omega)
            rw [List.getElem_take] at hd
            exact relLt_key hlt (by rw [hd, hk, ix_getElem hi])
          rw [hno]
          simp [hk]
        · rw [if_neg hk]
          have : List.find? (fun r => decide (keyR r = k)) [ix x.releases (i : Int)] = none := by
            simp only [List.find?_eq_none, List.mem_singleton, decide_eq_true_eq]
            rintro r rfl e; exact hk e.symm
          rw [this, Option.or_none]
      · rw [getM_put, take_ix hi, List.filter_append]
        by_cases hp : p = (ix x.releases (i : Int)).path
        · rw [if_pos hp, Option.getD_some, h2]
          simp [hp]
        · rw [if_neg hp, h2]
          have : List.filter (fun r : Release => decide (r.path = p)) [ix x.releases (i : Int)] = [] := by
            simp only [List.filter_eq_nil_iff, List.mem_singleton, decide_eq_true_eq]
            rintro r rfl e; exact hp e.symm
          rw [this, List.append_nil]
    · rintro r ⟨h1, h2, h3⟩
      exact ⟨r.1, r.2, h1, fun h => absurd h2 h, fun _ => ⟨hv, h3⟩⟩
  · rw [decide_eq_true (by simpa using hc), cond_true]
    exact ⟨_, c, rfl, fun _ => rfl, fun h => absurd h hc⟩
def smallRel (r : Release) : Prop := r.requirements.length ≤ 1000 ∧ ∀ q ∈ r.requirements, q.set_.length ≤ 1000
theorem clone_ok {r : Release} (hr : smallRel r) : m_index_clone r = some r := by
  unfold m_index_clone
  rw [joinM_eq]
  refine Exists.elim (forI_some r.requirements.length (fun n (l : List Requirement) i => m_index_clone_L3 r (fun l1 => some (⟨r.path, r.version, l1, r.archive, r.interface, r.certificate, r.yanked⟩ : Release)) n l i)
    (fun i l => l = r.requirements.take i) (fun r' => r' = r) ?_ ?_ (r.requirements.length + 1) [] 0 (Nat.zero_le _) (by omega) rfl) ?_
  · rintro n l i rfl rfl
    refine ⟨_, by simp only [m_index_clone_L3]; rw [decide_eq_false (by omega), cond_false], by rw [List.take_length]⟩
  · rintro n l i hi rfl
    have hi' : (i : Int) < (r.requirements.length : Int) := by omega
    have h1 := hr.1
    have h2 := hr.2 _ (ix_memN hi)
    simp only [m_index_clone_L3, m_slices_Clone_Set_Span]
    rw [decide_eq_true hi', cond_true, chk_ok (by omega), bnd_ok, chk_ok (by rw [List.length_take]; simp only [List.length_singleton]; omega)]
    exact .inr ⟨_, rfl, by rw [take_ix hi]⟩
  · rintro r' ⟨h1, h2⟩
    rw [h1, h2]
theorem FewX.small {x : Index} (hx : FewX x) : ∀ r ∈ x.releases, smallRel r := fun r hr => by
  have := (hx.each r hr).2
  exact ⟨by have := this.len; omega, fun q hq => by have := this.each q hq; omega⟩
theorem findK_mem {x : Index} {k : Selected} {r : Release} (h : findK x k = some r) : r ∈ x.releases ∧ keyR r = k := by
  have := List.find?_some h
  exact ⟨List.mem_of_find?_eq_some h, by simpa using this⟩
def OKX (x : Index) : Prop := m_index_Check x = some 0
theorem OKX.valid {x : Index} (h : OKX x) (hx : FewX x) : ValidX x := by
  obtain ⟨c, h1, h2⟩ := check_ok hx
  rw [h] at h1; cases h1
  exact h2 rfl
theorem table_ok {x : Index} (hx : FewX x) (hv : OKX x) : ∃ t, m_index_newTable x = some (t, 0) ∧ TabOK x t := by
  obtain ⟨t, c, h1, h2, h3⟩ := newTable_ok hx
  have hc : c = 0 := by
    by_cases hc : c = 0
    · exact hc
    · exfalso
      unfold m_index_newTable at h1
      rw [hv, bnd_ok, decide_eq_false (by simp), cond_false, joinM_eq] at h1
      revert h1
      have hL : ∀ n a b i, m_index_newTable_L2 x (fun mm1 mm2 => some ((⟨mm2, mm1⟩ : Table), (0 : Int))) n a b i ≠ some (t, c) := by
        intro n
        induction n with
        | zero => intro a b i h; cases h
        | succ n ih =>
          intro a b i h
          simp only [m_index_newTable_L2, m_index_key, bnd_ok] at h
          by_cases hi : (i : Int) < (x.releases.length : Int)
          · rw [decide_eq_true hi, cond_true] at h
            obtain ⟨_, h⟩ := chk_some h
            exact ih _ _ _ h
          · rw [decide_eq_false hi, cond_false] at h
            cases h; exact hc rfl
      exact hL _ _ _ _
  subst hc
  exact ⟨t, h1, (h3 rfl).2⟩
theorem newTable_bad {x : Index} {c : Int} (h : m_index_Check x = some c) (hc : c ≠ 0) : m_index_newTable x = some (⟨[], []⟩, c) := by
  unfold m_index_newTable
  rw [h, bnd_ok, decide_eq_true (by simpa using hc), cond_true]
theorem find_ok {x : Index} (hx : FewX x) (hv : OKX x) (p : ByteArray) (v : Version) : m_index_Find x p v = some ((findK x ⟨p, v⟩).getD zRelease, (findK x ⟨p, v⟩).isSome) := by
  unfold m_index_Find
  obtain ⟨t, h1, ht⟩ := table_ok hx hv
  rw [h1, bnd_ok]
  simp only [ht.rel]
  cases hf : findK x ⟨p, v⟩ with
  | none =>
    rw [Option.getD_none, clone_ok (r := zRelease) ⟨by decide, fun q hq => by cases hq⟩, bnd_ok]
  | some r =>
    rw [Option.getD_some, clone_ok (hx.small r (findK_mem hf).1), bnd_ok]
def availR (x : Index) (p : ByteArray) : List Release := (ofPath x p).filter fun r => !r.yanked
def spanR (r : Release) : Span := ⟨(placeOf r.version).1, (placeOf r.version).1 + 1⟩
def availS (x : Index) (p : ByteArray) : List Span := canon ((availR x p).map spanR)
theorem placeOf_bound (v : Version) : 0 ≤ (placeOf v).1 ∧ (placeOf v).1 < 1000000 := by
  unfold placeOf
  split
  · exact ⟨by decide, by decide⟩
  · rename_i h
    have hv : validV v = true := by simpa using h
    have := validV_ok hv
    simp only
    omega
theorem available_ok {x : Index} (hx : FewX x) (hv : OKX x) (p : ByteArray) : m_index_Available x p = some (availS x p) := by
  unfold m_index_Available
  obtain ⟨t, h1, ht⟩ := table_ok hx hv
  rw [h1, bnd_ok, joinM_eq]
  have hl : (ofPath x p).length ≤ 16 := Nat.le_trans (List.length_filter_le _ _) hx.len
  have hp : (getM t.paths p).getD [] = ofPath x p := ht.paths p
  refine Exists.elim (forI_some (ofPath x p).length (fun n (l : List Span) i => m_index_Available_L3 (t, (0 : Int)) p (fun l1 => chk (l1.length ≤ 1000000000) <| some (canon l1)) n l i)
    (fun i l => l = (((ofPath x p).take i).filter fun r => !r.yanked).map spanR) (fun r => r = availS x p) ?_ ?_ ((ofPath x p).length + 1) [] 0 (Nat.zero_le _) (by omega) rfl) ?_
  · rintro n l i rfl rfl
    refine ⟨_, by
      simp only [m_index_Available_L3, hp]
      rw [decide_eq_false (by omega), cond_false, chk_ok (by
        rw [List.length_map]
        have := List.length_filter_le (fun r : Release => !r.yanked) ((ofPath x p).take (ofPath x p).length)
        rw [List.length_take] at this
        omega)], by rw [List.take_length]; rfl⟩
  · rintro n l i hi rfl
    have hi' : (i : Int) < ((ofPath x p).length : Int) := by omega
    simp only [m_index_Available_L3, hp, m_index_place, bnd_ok]
    rw [decide_eq_true hi', cond_true]
    cases hy : (ix (ofPath x p) (i : Int)).yanked with
    | true =>
      simp only [Bool.not_true, cond_false]
      refine .inr ⟨_, rfl, ?_⟩
      rw [take_ix hi, List.filter_append]
      have : List.filter (fun r : Release => !r.yanked) [ix (ofPath x p) (i : Int)] = [] := by simp [hy]
      rw [this, List.append_nil]
    | false =>
      have hb := placeOf_bound (ix (ofPath x p) (i : Int)).version
      simp only [Bool.not_false, cond_true]
      rw [chk_ok (by omega), chk_ok (by
        rw [List.length_map]
        have := List.length_filter_le (fun r : Release => !r.yanked) ((ofPath x p).take i)
        rw [List.length_take] at this
        simp only [List.length_singleton]; omega)]
      refine .inr ⟨_, rfl, ?_⟩
      rw [take_ix hi, List.filter_append]
      have : List.filter (fun r : Release => !r.yanked) [ix (ofPath x p) (i : Int)] = [ix (ofPath x p) (i : Int)] := by simp [hy]
      rw [this, List.map_append]
      rfl
  · rintro r ⟨h3, h4⟩
    have h3' : m_index_Available_L3 (t, (0 : Int)) p (fun l1 => chk (l1.length ≤ 1000000000) <| some (canon l1)) ((ofPath x p).length + 1) [] 0 = some r := h3
    rw [hp, h3', h4]
theorem availS_cov {x : Index} {p : ByteArray} {q : Int} : Cov (availS x p) q ↔ ∃ r ∈ x.releases, r.path = p ∧ r.yanked = false ∧ (placeOf r.version).1 = q := by
  unfold availS
  rw [canon_cov]
  unfold Cov availR ofPath
  simp only [List.mem_map, List.mem_filter, decide_eq_true_eq, Bool.not_eq_true']
  constructor
  · rintro ⟨⟨s, ⟨r, ⟨⟨h1, h2⟩, h3⟩, rfl⟩, h4, h5⟩, _⟩
    simp only [spanR] at h4 h5
    exact ⟨r, h1, h2, h3, by omega⟩
  · rintro ⟨r, h1, h2, h3, rfl⟩
    have := placeOf_bound r.version
    exact ⟨⟨spanR r, ⟨r, ⟨⟨h1, h2⟩, h3⟩, rfl⟩, by simp only [spanR]; omega, by simp only [spanR]; omega⟩, this⟩
end Go.Mp
namespace Go.Mp
open Go
abbrev Incr (s : List Selected) : Prop := s.Pairwise fun a b => strLt a.path b.path = true
def relOf (x : Index) (y : Selected) : Release := (findK x y).getD zRelease
def atPath (s : List Selected) (p : ByteArray) : Option Selected := s.find? fun y => decide (y.path = p)
def SatBy (q : Requirement) (s : List Selected) : Prop := ∃ y ∈ s, y.path = q.path ∧ has q.set_ (placeOf y.version).1 = true
theorem Incr.nodup {s : List Selected} (h : Incr s) : (s.map (·.path)).Nodup := by
  rw [List.Nodup, List.pairwise_map]
  exact h.imp fun {a b} hab he => by rw [he, strLt_irrefl] at hab; cases hab
theorem atPath_mem {s : List Selected} {p : ByteArray} {y : Selected} (h : atPath s p = some y) : y ∈ s ∧ y.path = p :=
  ⟨List.mem_of_find?_eq_some h, by have := List.find?_some h; simpa using this⟩
theorem atPath_of {s : List Selected} (h : (s.map (·.path)).Nodup) {y : Selected} (hy : y ∈ s) : atPath s y.path = some y := by
  cases e : atPath s y.path with
  | none =>
    have := List.find?_eq_none.1 e y hy
    simp at this
  | some z =>
    have := atPath_mem e
    rw [inj_of_nodup (fun y : Selected => y.path) h z this.1 y hy this.2]
theorem atPath_none {s : List Selected} {p : ByteArray} : atPath s p = none ↔ ∀ y ∈ s, y.path ≠ p := by
  unfold atPath
  rw [List.find?_eq_none]
  simp
theorem incr_ok {s : List Selected} (hs : s.length ≤ 1000) : ∃ b, m_proof_increasing s = some b ∧ (b = true ↔ Incr s) := by
  unfold m_proof_increasing
  rw [joinM_eq]
  refine Exists.elim (forI_some (max s.length 1) (fun n (_ : Unit) i => m_proof_increasing_L2 s (fun _ => some true) n i) (fun i _ => 1 ≤ i ∧ ∀ j : Nat, j + 1 < i → strLt (ix s (j : Int)).path (ix s ((j + 1 : Nat) : Int)).path = true) (fun b => b = true ↔ Incr s) ?_ ?_ (s.length + 1) () 1 (by omega) (by omega) ⟨Nat.le_refl _, fun j h => by omega⟩) fun b h => ⟨b, h⟩
  · rintro n u i hi ⟨_, hI⟩
    refine ⟨true, by simp only [m_proof_increasing_L2]; rw [decide_eq_false (by omega), cond_false], iff_of_true rfl ?_⟩
    exact pairwise_ix (R := fun a b : Selected => strLt a.path b.path = true) (fun a b c => strLt_trans) fun j hj => hI j (by omega)
  · rintro n u i hi ⟨h1, hI⟩
    have hi' : (i : Int) < (s.length : Int) := by omega
    have hj : ((i : Int) - 1) = ((i - 1 : Nat) : Int) := by omega
    simp only [m_proof_increasing_L2]
    rw [decide_eq_true hi', cond_true, chk_ok (by omega), chk_ok (by omega), hj]
    cases hc : strLt (ix s ((i - 1 : Nat) : Int)).path (ix s (i : Int)).path with
    | true =>
      simp only [Bool.not_true, cond_false]
      refine .inr ⟨(), by trivial, by omega, fun j hj => ?_⟩
      rcases Nat.lt_or_ge (j + 1) i with h | h
      · exact hI j h
      · have h5 : j + 1 = i := by omega
        have h6 : i - 1 = j := by omega
        rw [h6] at hc
        rw [h5]; exact hc
    | false =>
      simp only [Bool.not_false, cond_true]
      refine .inl ⟨false, rfl, iff_of_false (by simp) fun h => ?_⟩
      have := List.pairwise_iff_getElem.1 h (i - 1) i (by omega) (by omega) (by omega)
      rw [ix_getElem (by omega), ix_getElem (by omega)] at hc
      rw [hc] at this; cases this
theorem selected_ok {x : Index} {t : Table} (ht : TabOK x t) {s : List Selected} (hs : s.length ≤ 1000) : ∃ l e, m_index_table_selected t s = some (l, e) ∧ (e = 0 → Incr s ∧ (∀ y ∈ s, (findK x y).isSome = true) ∧ l = s.map (relOf x)) := by
  unfold m_index_table_selected
  rw [joinM_eq]
  suffices h : ∃ r, m_index_table_selected_L5 s (fun _ => joinM (fun (l1 : (List Release)) => some (l1, (0 : Int))) fun K2 => m_index_table_selected_L4 s t K2 (s.length + 1) [] 0) (s.length + 1) 1 = some r ∧ (r.2 = 0 → Incr s ∧ (∀ y ∈ s, (findK x y).isSome = true) ∧ r.1 = s.map (relOf x)) by
    obtain ⟨r, h1, h2⟩ := h
    exact ⟨r.1, r.2, h1, h2⟩
  refine forI_some (max s.length 1) (fun n (_ : Unit) i => m_index_table_selected_L5 s (fun _ => joinM (fun (l1 : (List Release)) => some (l1, (0 : Int))) fun K2 => m_index_table_selected_L4 s t K2 (s.length + 1) [] 0) n i) (fun i _ => 1 ≤ i ∧ ∀ j : Nat, j + 1 < i → strLt (ix s (j : Int)).path (ix s ((j + 1 : Nat) : Int)).path = true) _ ?_ ?_ (s.length + 1) () 1 (by omega) (by omega) ⟨Nat.le_refl _, fun j h => by omega⟩
  · rintro n u i hi ⟨_, hI⟩
    have hin : Incr s := pairwise_ix (R := fun a b : Selected => strLt a.path b.path = true) (fun a b c => strLt_trans) fun j hj => hI j (by omega)
    simp only [m_index_table_selected_L5]
    rw [decide_eq_false (by omega), cond_false, joinM_eq]
    refine forI_some s.length (fun n (l : List Release) i => m_index_table_selected_L4 s t (fun l1 => some (l1, (0 : Int))) n l i)
      (fun i l => (∀ j : Nat, j < i → (findK x (ix s (j : Int))).isSome = true) ∧ l = (s.take i).map (relOf x)) _ ?_ ?_ (s.length + 1) [] 0 (Nat.zero_le _) (by omega) ⟨fun j h => by omega, rfl⟩
    · rintro n l i rfl ⟨h1, rfl⟩
      refine ⟨_, by simp only [m_index_table_selected_L4]; rw [decide_eq_false (by omega), cond_false], fun _ => ⟨hin, all_ix h1, by rw [List.take_length]⟩⟩
    · rintro n l i hi ⟨h1, rfl⟩
      have hi' : (i : Int) < (s.length : Int) := by omega
      simp only [m_index_table_selected_L4, ht.rel]
      rw [decide_eq_true hi', cond_true]
      cases hf : (findK x (ix s (i : Int))).isSome with
      | false =>
        simp only [Bool.not_false, cond_true]
        exact .inl ⟨_, rfl, fun h => by simp at h⟩
      | true =>
        simp only [Bool.not_true, cond_false]
        rw [chk_ok (by rw [List.length_map, List.length_take]; simp only [List.length_singleton]; omega)]
        refine .inr ⟨_, rfl, fun j hj => ?_, by rw [take_ix hi, List.map_append]; rfl⟩
        rcases Nat.lt_or_ge j i with h | h
        · exact h1 j h
        · have : j = i := by omega
          rw [this]; exact hf
  · rintro n u i hi ⟨h1, hI⟩
    have hi' : (i : Int) < (s.length : Int) := by omega
    have hj : ((i : Int) - 1) = ((i - 1 : Nat) : Int) := by omega
    simp only [m_index_table_selected_L5]
    rw [decide_eq_true hi', cond_true, chk_ok (by omega), chk_ok (by omega), hj]
    cases hc : strLt (ix s ((i - 1 : Nat) : Int)).path (ix s (i : Int)).path with
    | true =>
      simp only [Bool.not_true, cond_false]
      refine .inr ⟨(), by trivial, by omega, fun j hj => ?_⟩
      rcases Nat.lt_or_ge (j + 1) i with h | h
      · exact hI j h
      · have h5 : j + 1 = i := by omega
        have h6 : i - 1 = j := by omega
        rw [h6] at hc
        rw [h5]; exact hc
    | false =>
      simp only [Bool.not_false, cond_true]
      exact .inl ⟨_, rfl, fun h => by simp at h⟩
def brokenB (s : List Selected) (q : Requirement) : Bool := match atPath s q.path with
  | none => true
  | some y => !(has q.set_ (placeOf y.version).1)
theorem broken_sat {s : List Selected} (q : Requirement) (h : brokenB s q = false) : SatBy q s := by
  unfold brokenB at h
  cases e : atPath s q.path with
  | none => rw [e] at h; cases h
  | some y =>
    rw [e] at h
    have := atPath_mem e
    exact ⟨y, this.1, this.2, by simpa using h⟩
structure SolvesP (x : Index) (roots : List Requirement) (s : List Selected) : Prop where
  okx : OKX x
  incr : Incr s
  found : ∀ y ∈ s, (findK x y).isSome = true
  sat : ∀ q ∈ roots, SatBy q s
  satR : ∀ y ∈ s, ∀ q ∈ (relOf x y).requirements, SatBy q s
  reach : ∀ C : ByteArray → Prop, (∀ q ∈ roots, C q.path) → (∀ y ∈ s, C y.path → ∀ q ∈ (relOf x y).requirements, C q.path) → ∀ y ∈ s, C y.path
structure ByPath (x : Index) (s : List Selected) (m : List (ByteArray × Release)) : Prop where
  get : ∀ p, getM m p = (atPath s p).map (relOf x)
theorem relOf_key {x : Index} {y : Selected} (h : (findK x y).isSome = true) : (relOf x y).path = y.path ∧ (relOf x y).version = y.version := by
  unfold relOf
  cases e : findK x y with
  | none => rw [e] at h; cases h
  | some r =>
    have := (findK_mem e).2
    subst this
    exact ⟨rfl, rfl⟩
theorem relOf_mem {x : Index} {y : Selected} (h : (findK x y).isSome = true) : relOf x y ∈ x.releases := by
  unfold relOf
  cases e : findK x y with
  | none => rw [e] at h; cases h
  | some r => exact (findK_mem e).1
theorem solves1_ok {x : Index} {s : List Selected} {m : List (ByteArray × Release)} (hm : ByPath x s m) (hf : ∀ y ∈ s, (findK x y).isSome = true) (q : Requirement) : m_index_Solves_1 q m = some (brokenB s q) := by
  unfold m_index_Solves_1 brokenB
  rw [hm.get]
  cases e : atPath s q.path with
  | none => simp only [Option.map_none, Option.isSome_none, Bool.not_false]; rw [gd_no (by simp), bnd_ok]; rfl
  | some y =>
    simp only [Option.map_some, Option.isSome_some, Bool.not_true, m_index_place, Option.getD_some]
    rw [gd_ok trivial, bnd_ok, (relOf_key (hf y (atPath_mem e).1)).2]
    rfl
theorem nodup_le {α : Type} [DecidableEq α] : ∀ {a b : List α}, a.Nodup → (∀ z ∈ a, z ∈ b) → a.length ≤ b.length
  | [], _, _, _ => Nat.zero_le _
  | z :: a, b, h, hs => by
    have h' := List.nodup_cons.1 h
    have hz := hs z List.mem_cons_self
    have := nodup_le (b := b.erase z) h'.2 fun w hw => (List.mem_erase_of_ne (by rintro rfl; exact h'.1 hw)).2 (hs w (List.mem_cons_of_mem _ hw))
    rw [List.length_erase_of_mem hz] at this
    have : 0 < b.length := List.length_pos_of_mem hz
    simp only [List.length_cons]; omega
theorem nodup_all {α : Type} [DecidableEq α] {a b : List α} (h : a.Nodup) (hs : ∀ z ∈ a, z ∈ b) (hl : b.length ≤ a.length) : ∀ z ∈ b, z ∈ a := fun z hz => Classical.byContradiction fun hn => by
  have := nodup_le (a := z :: a) (b := b) (List.nodup_cons.2 ⟨hn, h⟩) fun w hw => by
    rcases List.mem_cons.1 hw with rfl | hw
    · exact hz
    · exact hs w hw
  simp only [List.length_cons] at this; omega
def potN (x : Index) (m : List (ByteArray × Bool)) : List Selected → Nat
  | [] => 0
  | y :: s => (if getM m y.path = some true then 0 else (relOf x y).requirements.length) + potN x m s
theorem potN_put (x : Index) (m : List (ByteArray × Bool)) (p : ByteArray) (hp : getM m p ≠ some true) : ∀ s : List Selected, (s.map (·.path)).Nodup →
    potN x (putM p true m) s + (match atPath s p with | some y => (relOf x y).requirements.length | none => 0) = potN x m s
  | [], _ => rfl
  | y :: s, h => by
    have h' := List.nodup_cons.1 h
    have ih := potN_put x m p hp s h'.2
    have ha : atPath (y :: s) p = if y.path = p then some y else atPath s p := by
      unfold atPath
      rw [List.find?_cons]
      by_cases h : y.path = p <;> simp [h]
    simp only [potN, getM_put]
    rw [ha]
    by_cases hy : y.path = p
    · have hno : atPath s p = none := atPath_none.2 fun z hz e => h'.1 (by show y.path ∈ _; rw [hy, ← e]; exact List.mem_map_of_mem (f := fun y : Selected => y.path) hz)
      rw [hno] at ih
      rw [if_pos hy, if_pos hy, if_pos rfl]
      rw [hy, if_neg hp]
      simp only at ih ⊢
      omega
    · rw [if_neg hy, if_neg hy]
      omega
theorem potN_le (x : Index) (m : List (ByteArray × Bool)) (N : Nat) : ∀ s : List Selected, (∀ y ∈ s, (relOf x y).requirements.length ≤ N) → potN x m s ≤ N * s.length
  | [], _ => Nat.zero_le _
  | y :: s, h => by
    have ih := potN_le x m N s fun z hz => h z (List.mem_cons_of_mem _ hz)
    have := h y List.mem_cons_self
    simp only [potN, List.length_cons, Nat.mul_add, Nat.mul_one]
    split <;> omega
theorem solves_ok {x : Index} (hx : FewX x) {roots : List Requirement} (hr : FewR roots) {s : List Selected} (hs : s.length ≤ 1000) : ∃ c, m_index_Solves x roots s = some c ∧ (c = 0 → SolvesP x roots s) := by
  unfold m_index_Solves
  obtain ⟨t, c, h1, h2, h3⟩ := newTable_ok hx
  rw [h1, bnd_ok]
  by_cases hc : c = 0
  · have hokx : OKX x := by
      obtain ⟨c', k1, k2⟩ := check_ok hx
      by_cases hc' : c' = 0
      · rw [hc'] at k1; exact k1
      · have := newTable_bad k1 hc'
        rw [h1] at this
        cases this
        exact absurd hc hc'
    obtain ⟨hvx, ht⟩ := h3 hc
    simp only
    rw [decide_eq_false (by simpa using hc), cond_false]
    obtain ⟨l, e, h4, h5⟩ := selected_ok ht hs
    rw [h4, bnd_ok]
    by_cases he : e = 0
    · obtain ⟨hin, hf, rfl⟩ := h5 he
      simp only
      rw [decide_eq_false (by simpa using he), cond_false, joinM_eq]
      have hnd := hin.nodup
      -- the releases by path
      refine forI_some s.length (fun n (m : List (ByteArray × Release)) i => m_index_Solves_L6 (s.map (relOf x), e) _ n m i)
        (fun i m => ∀ p, getM m p = (atPath (s.take i) p).map (relOf x)) _ ?_ ?_ _ [] 0 (Nat.zero_le _) (by simp) (fun p => rfl)
      · rintro n m i rfl hI
        simp only [m_index_Solves_L6]
        rw [List.length_map, decide_eq_false (by omega), cond_false, joinM_eq]
        have hm : ByPath x s m := ⟨fun p => by rw [hI, List.take_length]⟩
        refine forI_some s.length (fun n (_ : Unit) i => m_index_Solves_L5 (s.map (relOf x), e) m _ n i)
          (fun i _ => ∀ j : Nat, j < i → ∀ q ∈ (relOf x (ix s (j : Int))).requirements, brokenB s q = false) _ ?_ ?_ _ () 0 (Nat.zero_le _) (by simp) (fun j h => by omega)
        · rintro n u i rfl hB
          simp only [m_index_Solves_L5]
          rw [List.length_map, decide_eq_false (by omega), cond_false]
          rw [CF_Requirement_Requirement (p := brokenB s) fun q _ => solves1_ok hm hf q, bnd_ok]
          cases hb : roots.any (brokenB s) with
          | true => exact ⟨17, rfl, fun h => by omega⟩
          | false =>
            rw [cond_false]
            have hroots : ∀ q ∈ roots, brokenB s q = false := fun q hq => by
              cases h : brokenB s q with
              | false => rfl
              | true => exact absurd (List.any_eq_true.2 ⟨q, hq, h⟩) (by simp [hb])
            have hsatR : ∀ y ∈ s, ∀ q ∈ (relOf x y).requirements, SatBy q s := fun y hy q hq => broken_sat q (all_ix (P := fun y => ∀ q ∈ (relOf x y).requirements, brokenB s q = false) hB y hy q hq)
            have hsat : ∀ q ∈ roots, SatBy q s := fun q hq => broken_sat q (hroots q hq)
            simp only [m_slices_Clone_Requirement_Requirement]
            rw [chk_ok (by have := hr.len; omega), bnd_ok, joinM_eq]
            have hreq : ∀ y ∈ s, (relOf x y).requirements.length ≤ 20 := fun y hy => (hx.each _ (relOf_mem (hf y hy))).2.len
            -- what is needed
            have loop : ∀ n (m3 : List (ByteArray × Bool)) (v : List Requirement), v.length + potN x m3 s < n → v.length + potN x m3 s ≤ 30000 →
                (m3.map (·.1)).Nodup → (∀ e ∈ m3, e.2 = true) → (∀ e ∈ m3, e.1 ∈ s.map (·.path)) → (∀ q ∈ v, q.path ∈ s.map (·.path)) →
                (∀ C : ByteArray → Prop, (∀ q ∈ roots, C q.path) → (∀ y ∈ s, C y.path → ∀ q ∈ (relOf x y).requirements, C q.path) → (∀ e ∈ m3, C e.1) ∧ ∀ q ∈ v, C q.path) →
                ∃ c, m_index_Solves_L4 m (fun mm2 => bif decide ((mm2.length : Int) < (s.length : Int)) then some 8 else some 0) n m3 v = some c ∧ (c = 0 → SolvesP x roots s) := by
              intro n
              induction n with
              | zero => intro m3 v h; omega
              | succ n ih =>
                intro m3 v hlt hle k1 k2 k3 k4 k5
                simp only [m_index_Solves_L4]
                cases v with
                | nil =>
                  rw [decide_eq_false (by simp), cond_false]
                  by_cases hlen : ((m3.length : Int) < (s.length : Int))
                  · rw [decide_eq_true hlen, cond_true]; exact ⟨8, rfl, fun h => by omega⟩
                  · rw [decide_eq_false hlen, cond_false]
                    refine ⟨0, rfl, fun _ => ⟨hokx, hin, hf, hsat, hsatR, fun C hC1 hC2 y hy => ?_⟩⟩
                    have hall := nodup_all (a := m3.map (·.1)) (b := s.map (·.path)) k1 (fun z hz => by
                      obtain ⟨e, he, rfl⟩ := List.mem_map.1 hz
                      exact k3 e he) (by rw [List.length_map, List.length_map]; omega)
                    obtain ⟨e, he, hey⟩ := List.mem_map.1 (hall y.path (List.mem_map_of_mem (f := fun y : Selected => y.path) hy))
                    rw [← hey]; exact (k5 C hC1 hC2).1 e he
                | cons q v =>
                  have hq : ix (q :: v) (0 : Int) = q := rfl
                  have hd : (q :: v).drop (1 : Int).toNat = v := rfl
                  rw [decide_eq_true (by simp only [List.length_cons]; omega), cond_true, chk_ok (by simp only [List.length_cons]; omega), hq, hd]
                  have hqs := k4 q List.mem_cons_self
                  by_cases hg : getM m3 q.path = some true
                  · rw [hg]
                    simp only [Option.getD_some, Bool.not_true, cond_false]
                    refine ih m3 v (by simp only [List.length_cons] at hlt; omega) (by simp only [List.length_cons] at hle; omega) k1 k2 k3 (fun z hz => k4 z (List.mem_cons_of_mem _ hz)) fun C hC1 hC2 => ⟨(k5 C hC1 hC2).1, fun z hz => (k5 C hC1 hC2).2 z (List.mem_cons_of_mem _ hz)⟩
                  · have hgd : (getM m3 q.path).getD false = false := by
                      cases h : getM m3 q.path with
                      | none => rfl
                      | some b =>
                        cases b with
                        | false => rfl
                        | true => exact absurd h hg
                    have hpot := potN_put x m3 q.path hg s hnd
                    obtain ⟨y, hy, hyp⟩ := List.mem_map.1 hqs
                    have hyp : y.path = q.path := hyp
                    have hat : atPath s q.path = some y := by rw [← hyp]; exact atPath_of hnd hy
                    rw [hat] at hpot
                    simp only at hpot
                    have hget : (getM m q.path).getD zRelease = relOf x y := by rw [hm.get, hat]; rfl
                    rw [hgd, hget]
                    simp only [Bool.not_false, cond_true]
                    have hy20 := hreq y hy
                    simp only [List.length_cons] at hlt hle
                    rw [chk_ok (by omega)]
                    refine ih _ _ (by rw [List.length_append]; omega) (by rw [List.length_append]; omega) (putM_keys _ _ _ k1) (fun e he => ?_) (fun e he => ?_) (fun z hz => ?_) fun C hC1 hC2 => ⟨fun e he => ?_, fun z hz => ?_⟩
                    · rcases putM_mem he with rfl | he
                      · rfl
                      · exact k2 e he
                    · rcases putM_mem he with rfl | he
                      · exact hqs
                      · exact k3 e he
                    · rcases List.mem_append.1 hz with hz | hz
                      · exact k4 z (List.mem_cons_of_mem _ hz)
                      · obtain ⟨w, hw, hwp, _⟩ := hsatR y hy z hz
                        exact List.mem_map.2 ⟨w, hw, hwp⟩
                    · rcases putM_mem he with rfl | he
                      · exact (k5 C hC1 hC2).2 q List.mem_cons_self
                      · exact (k5 C hC1 hC2).1 e he
                    · rcases List.mem_append.1 hz with hz | hz
                      · exact (k5 C hC1 hC2).2 z (List.mem_cons_of_mem _ hz)
                      · exact hC2 y hy (by rw [hyp]; exact (k5 C hC1 hC2).2 q List.mem_cons_self) z hz
            have hp0 := potN_le x [] 20 s hreq
            have hrl := hr.len
            obtain ⟨N, hN⟩ : ∃ N : Nat, N = 100000 := ⟨_, rfl⟩
            rw [← hN]
            exact loop N [] roots (by omega) (by omega) List.nodup_nil (fun _ h => nomatch h) (fun _ h => nomatch h) (fun q hq => by
              obtain ⟨w, hw, hwp, _⟩ := hsat q hq
              exact List.mem_map.2 ⟨w, hw, hwp⟩) fun C hC1 _ => ⟨fun _ h => (nomatch h), hC1⟩
        · rintro n u i hi hB
          have hi' : (i : Int) < ((s.map (relOf x)).length : Int) := by rw [List.length_map]; omega
          have hix : ix (s.map (relOf x)) (i : Int) = relOf x (ix s (i : Int)) := by
            rw [ix_getElem (by rw [List.length_map]; exact hi), ix_getElem hi, List.getElem_map]
          simp only [m_index_Solves_L5]
          rw [decide_eq_true hi', cond_true, hix, CF_Requirement_Requirement (p := brokenB s) fun q _ => solves1_ok hm hf q, bnd_ok]
          cases hb : (relOf x (ix s (i : Int))).requirements.any (brokenB s) with
          | true => exact .inl ⟨17, rfl, fun h => by omega⟩
          | false =>
            refine .inr ⟨(), rfl, fun j hj => ?_⟩
            rcases Nat.lt_or_ge j i with h | h
            · exact hB j h
            · have : j = i := by omega
              subst this
              intro q hq
              cases h : brokenB s q with
              | false => rfl
              | true => exact absurd (List.any_eq_true.2 ⟨q, hq, h⟩) (by simp [hb])
      · rintro n m i hi hI
        have hi' : (i : Int) < ((s.map (relOf x)).length : Int) := by rw [List.length_map]; omega
        have hix : ix (s.map (relOf x)) (i : Int) = relOf x (ix s (i : Int)) := by
          rw [ix_getElem (by rw [List.length_map]; exact hi), ix_getElem hi, List.getElem_map]
        simp only [m_index_Solves_L6]
        rw [decide_eq_true hi', cond_true, hix]
        refine .inr ⟨_, rfl, fun p => ?_⟩
        have hk := relOf_key (hf _ (ix_memN hi))
        rw [getM_put, hk.1, hI, take_ix hi]
        unfold atPath
        rw [List.find?_append]
        by_cases hp : p = (ix s (i : Int)).path
        · rw [if_pos hp]
          have hno : List.find? (fun y => decide (y.path = p)) (s.take i) = none := by
            rw [List.find?_eq_none]
            intro y hy hd
            have hd : y.path = p := by simpa using hd
            obtain ⟨j, hj, rfl⟩ := List.mem_iff_getElem.1 hy
            rw [List.length_take] at hj
            have hlt := List.pairwise_iff_getElem.1 hin j i (by omega) hi (by omega)
            rw [List.getElem_take] at hd
            rw [hd, hp, ix_getElem hi, strLt_irrefl] at hlt; cases hlt
          rw [hno]
          simp [hp]
        · rw [if_neg hp]
          have : List.find? (fun y : Selected => decide (y.path = p)) [ix s (i : Int)] = none := by
            simp only [List.find?_eq_none, List.mem_singleton, decide_eq_true_eq]
            rintro y rfl e; exact hp e.symm
          rw [this, Option.or_none]
    · simp only
      rw [decide_eq_true (by simpa using he), cond_true]
      exact ⟨e, rfl, fun h => absurd h he⟩
  · simp only
    rw [decide_eq_true (by simpa using hc), cond_true]
    exact ⟨1, rfl, fun h => by omega⟩
end Go.Mp
namespace Go.Mp
open Go
theorem idx_cases {α : Type} [Inhabited α] (s : List α) (p : α → Bool) : (idx s p = -1 ∧ s.find? p = none) ∨ (0 ≤ idx s p ∧ idx s p < s.length ∧ s.find? p = some (ix s (idx s p))) := by
  unfold idx
  cases h : s.findIdx? p with
  | none =>
    left
    refine ⟨rfl, ?_⟩
    rw [List.find?_eq_none]
    exact fun a ha => by have := List.findIdx?_eq_none_iff.1 h a ha; simp [this]
  | some i =>
    right
    obtain ⟨hi, h1, h2⟩ := List.findIdx?_eq_some_iff_getElem.1 h
    refine ⟨by simp, by simpa using hi, ?_⟩
    show s.find? p = some (ix s (i : Int))
    rw [ix_getElem hi]
    exact List.find?_eq_some_iff_getElem.2 ⟨h1, i, hi, rfl, fun j hj => by have := h2 j hj; simpa using this⟩
def splitS (a : List Term) (p : ByteArray) : Option (Term × List Term) :=
  if idx a (fun t => decide (t.path = p)) < 0 then none
  else some (ix a (idx a fun t => decide (t.path = p)), a.take (idx a fun t => decide (t.path = p)).toNat ++ a.drop (idx a (fun t => decide (t.path = p)) + 1).toNat)
def resolveS (a b : List Term) (p : ByteArray) : Option (List Term) :=
  match splitS a p, splitS b p with
  | some (t, rest), some (u, more) => if (canonT ((rest ++ more) ++ [either t u])).2 then some (canonT ((rest ++ more) ++ [either t u])).1 else none
  | _, _ => none
theorem CanonS.len {s : List Span} (h : CanonS s) : s.length ≤ 1000000 := by
  have := canonL_len s 0 h.1 h.2 (by omega)
  omega
theorem CanonI.tok {l : List Term} (h : CanonI l) : ∀ t ∈ l, TOK t := fun t ht => (h.sets t ht).len
structure DOK (U : List ByteArray) (y : List Term) : Prop where
  canon : CanonI y
  paths : ∀ t ∈ y, t.path ∈ U
theorem DOK.len {U : List ByteArray} {y : List Term} (h : DOK U y) : y.length ≤ U.length := by
  have := nodup_le (a := y.map (·.path)) (b := U) (strict_nodup h.canon.sorted) fun z hz => by
    obtain ⟨t, ht, rfl⟩ := List.mem_map.1 hz
    exact h.paths t ht
  rwa [List.length_map] at this
theorem split_ok {U : List ByteArray} {y : List Term} (h : DOK U y) (hU : U.length ≤ 1000) (p : ByteArray) :
    m_term_split y p = some (match splitS y p with | some (t, rest) => (t, rest, true) | none => ((⟨ByteArray.empty, false, []⟩ : Term), [], false)) := by
  have hl := h.len
  unfold m_term_split
  rw [chk_ok h.canon.tok, chk_ok (by omega), canonT_self h.canon]
  simp only
  rw [IF_Incompatibility_Term (f := fun z0 => m_term_split_1 z0 p) (p := fun t => decide (t.path = p)) fun z _ => rfl, bnd_ok]
  unfold splitS
  rcases idx_cases y (fun t => decide (t.path = p)) with ⟨h1, _⟩ | ⟨h1, h2, _⟩
  · rw [h1]
    simp
  · have hlt : ¬ idx y (fun t => decide (t.path = p)) < 0 := by omega
    rw [if_neg hlt, decide_eq_false hlt]
    simp only [Bool.not_true, Bool.or_self, cond_false, m_slices_Clone_Incompatibility_Term, m_slices_Delete_Incompatibility_Term]
    rw [chk_ok ⟨h1, h2⟩, chk_ok (by omega), bnd_ok, chk_ok (by omega), chk_ok (by omega), bnd_ok]
theorem splitS_some {y : List Term} {p : ByteArray} {t : Term} {rest : List Term} (h : splitS y p = some (t, rest)) : t ∈ y ∧ t.path = p ∧ (∀ u, u ∈ y ↔ u = t ∨ u ∈ rest) ∧ rest.length + 1 = y.length := by
  unfold splitS at h
  split at h
  · cases h
  · rename_i hlt
    rcases idx_cases y (fun t => decide (t.path = p)) with ⟨h1, _⟩ | ⟨h1, h2, h3⟩
    · omega
    · cases h
      have h4 := List.find?_some h3
      obtain ⟨k, hk⟩ : ∃ k : Nat, idx y (fun t => decide (t.path = p)) = k := ⟨_, (Int.toNat_of_nonneg h1).symm⟩
      rw [hk] at h2 h4 h1 ⊢
      have hkl : k < y.length := by omega
      have e : y = y.take k ++ ix y (k : Int) :: y.drop (k + 1) := by
        rw [ix_getElem hkl, ← List.drop_eq_getElem_cons hkl, List.take_append_drop]
      refine ⟨ix_memN hkl, by simpa using h4, fun u => ?_, ?_⟩
      · have : ((k : Int) + 1).toNat = k + 1 := by omega
        rw [this, Int.toNat_natCast]
        conv => lhs; rw [e]
        simp only [List.mem_append, List.mem_cons]
        constructor
        · rintro (h | h | h)
          · exact .inr (.inl h)
          · exact .inl h
          · exact .inr (.inr h)
        · rintro (h | h | h)
          · exact .inr (.inl h)
          · exact .inl h
          · exact .inr (.inr h)
      · have : ((k : Int) + 1).toNat = k + 1 := by omega
        rw [this, Int.toNat_natCast, List.length_append, List.length_take, List.length_drop]; omega
theorem resolve_ok {U : List ByteArray} {a b : List Term} (ha : DOK U a) (hb : DOK U b) (hU : U.length ≤ 1000) (p : ByteArray) :
    ∃ o e, m_term_Resolve a b p = some (o, e) ∧ (match resolveS a b p with | some out => o = out ∧ e = 0 | none => e ≠ 0) := by
  unfold m_term_Resolve
  rw [split_ok ha hU, bnd_ok, split_ok hb hU, bnd_ok]
  unfold resolveS
  cases h1 : splitS a p with
  | none => exact ⟨[], 1, rfl, by simp⟩
  | some q =>
    obtain ⟨t, rest⟩ := q
    cases h2 : splitS b p with
    | none => exact ⟨[], 1, rfl, by simp⟩
    | some q =>
      obtain ⟨u, more⟩ := q
      have k1 := splitS_some h1
      have k2 := splitS_some h2
      have l1 := ha.len
      have l2 := hb.len
      have t1 : t.set_.length ≤ 1000000 := ha.canon.tok t k1.1
      have t2 : u.set_.length ≤ 1000000 := hb.canon.tok u k2.1
      simp only [Bool.not_true, Bool.or_self, cond_false]
      rw [chk_ok (by omega), chk_ok t1, chk_ok t2, chk_ok (by simp only [List.length_append, List.length_singleton]; omega), chk_ok (fun z hz => by
        rcases List.mem_append.1 hz with hz | hz
        · rcases List.mem_append.1 hz with hz | hz
          · exact ha.canon.tok z ((k1.2.2.1 z).2 (.inr hz))
          · exact hb.canon.tok z ((k2.2.2.1 z).2 (.inr hz))
        · rw [List.mem_singleton.1 hz]; exact either_ok _ _), chk_ok (by simp only [List.length_append, List.length_singleton]; omega)]
      cases (canonT ((rest ++ more) ++ [either t u])).2 with
      | true => exact ⟨_, 0, rfl, rfl, rfl⟩
      | false => exact ⟨[], 8, rfl, by simp⟩
theorem resolveS_dok {U : List ByteArray} {a b : List Term} (ha : DOK U a) (hb : DOK U b) {p : ByteArray} {out : List Term} (h : resolveS a b p = some out) : DOK U out := by
  unfold resolveS at h
  split at h
  · rename_i t rest u more h1 h2
    split at h
    · cases h
      have k1 := splitS_some h1
      have k2 := splitS_some h2
      refine ⟨canonT_form _, fun z hz => ?_⟩
      obtain ⟨w, hw, hp⟩ := canonT_paths _ z hz
      rw [← hp]
      rcases List.mem_append.1 hw with hw | hw
      · rcases List.mem_append.1 hw with hw | hw
        · exact ha.paths w ((k1.2.2.1 w).2 (.inr hw))
        · exact hb.paths w ((k2.2.2.1 w).2 (.inr hw))
      · rw [List.mem_singleton.1 hw]; exact ha.paths t k1.1
    · cases h
  · cases h
def relAt (x : Index) (p : ByteArray) (pl : Int) : Option Release := x.releases.find? fun r => decide (r.path = p) && decide ((placeOf r.version).1 = pl)
def inferS (x : Index) (roots : List Requirement) (d : List (List Term)) (i : Inference) : Option (List Term) :=
  if i.kind = 0 then (if i = ⟨0, ByteArray.empty, 0, i.number, 0, 0⟩ ∧ 0 ≤ i.number ∧ i.number < roots.length then some (rootI (ix roots i.number)) else none)
  else if i.kind = 1 then (if i = ⟨1, i.path, i.place, i.number, 0, 0⟩ then
    (match relAt x i.path i.place with
     | some r => if (0 ≤ i.number ∧ i.number < r.requirements.length) ∧ requiresI i.path i.place (ix r.requirements i.number) ≠ [] then some (requiresI i.path i.place (ix r.requirements i.number)) else none
     | none => none) else none)
  else if i.kind = 2 then (if i = ⟨2, i.path, 0, 0, 0, 0⟩ ∧ noneI i.path (availS x i.path) ≠ [] then some (noneI i.path (availS x i.path)) else none)
  else if i.kind = 3 then (if i = ⟨3, i.path, 0, 0, i.left, i.right⟩ ∧ (0 ≤ i.left ∧ i.left < d.length) ∧ 0 ≤ i.right ∧ i.right < d.length then resolveS (ix d i.left) (ix d i.right) i.path else none)
  else none
def derFrom (x : Index) (roots : List Requirement) : List (List Term) → List Inference → Option (List (List Term))
  | d, [] => some d
  | d, i :: l => match inferS x roots d i with
    | some t => derFrom x roots (d ++ [t]) l
    | none => none
def univ (x : Index) (roots : List Requirement) (l : List Inference) : List ByteArray := roots.map (·.path) ++ x.releases.flatMap (fun r => r.requirements.map (·.path)) ++ l.map (·.path)
theorem flatMap_len {α β : Type} (f : α → List β) (N : Nat) : ∀ l : List α, (∀ z ∈ l, (f z).length ≤ N) → (l.flatMap f).length ≤ N * l.length
  | [], _ => Nat.zero_le _
  | z :: l, h => by
    have := flatMap_len f N l fun w hw => h w (List.mem_cons_of_mem _ hw)
    have := h z List.mem_cons_self
    rw [List.flatMap_cons, List.length_append, List.length_cons, Nat.mul_add, Nat.mul_one]; omega
theorem univ_len {x : Index} (hx : FewX x) {roots : List Requirement} (hr : FewR roots) {l : List Inference} (hl : l.length ≤ 401) : (univ x roots l).length ≤ 1000 := by
  unfold univ
  have h1 := flatMap_len (fun r : Release => r.requirements.map (·.path)) 20 x.releases fun r hr => by rw [List.length_map]; exact (hx.each r hr).2.len
  have h2 := hx.len
  have h3 := hr.len
  simp only [List.length_append, List.length_map]
  omega
theorem ofT_form (l : List Term) : CanonI (ofT l) := canonT_form l
theorem infer_dok {x : Index} {roots : List Requirement} {l : List Inference} {d : List (List Term)} (hd : ∀ y ∈ d, DOK (univ x roots l) y) {i : Inference} (hi : i ∈ l) {t : List Term} (h : inferS x roots d i = some t) : DOK (univ x roots l) t := by
  have hip : i.path ∈ univ x roots l := List.mem_append.2 (.inr (List.mem_map_of_mem (f := fun i : Inference => i.path) hi))
  unfold inferS at h
  split at h
  · split at h
    · rename_i hc
      cases h
      refine ⟨ofT_form _, fun z hz => ?_⟩
      obtain ⟨w, hw, hp⟩ := canonT_paths _ z hz
      rw [← hp, List.mem_singleton.1 hw]
      exact List.mem_append.2 (.inl (List.mem_append.2 (.inl (List.mem_map_of_mem (f := fun q : Requirement => q.path) (ix_mem ⟨hc.2.1, hc.2.2⟩)))))
    · cases h
  · split at h
    · split at h
      · split at h
        · rename_i r hr
          split at h
          · rename_i hc
            cases h
            refine ⟨ofT_form _, fun z hz => ?_⟩
            obtain ⟨w, hw, hp⟩ := canonT_paths _ z hz
            rw [← hp]
            rcases List.mem_cons.1 hw with rfl | hw
            · exact hip
            · rw [List.mem_singleton.1 hw]
              exact List.mem_append.2 (.inl (List.mem_append.2 (.inr (List.mem_flatMap.2 ⟨r, List.mem_of_find?_eq_some hr, List.mem_map_of_mem (f := fun q : Requirement => q.path) (ix_mem hc.1)⟩))))
          · cases h
        · cases h
      · cases h
    · split at h
      · split at h
        · cases h
          refine ⟨ofT_form _, fun z hz => ?_⟩
          obtain ⟨w, hw, hp⟩ := canonT_paths _ z hz
          rw [← hp, List.mem_singleton.1 hw]
          exact hip
        · cases h
      · split at h
        · split at h
          · rename_i hc
            exact resolveS_dok (hd _ (ix_mem hc.2.1)) (hd _ (ix_mem hc.2.2)) h
          · cases h
        · cases h
theorem release_ok (c : Checker) (p : ByteArray) (pl : Int) : ∃ r b, m_proof_checker_release c p pl = some (r, b) ∧ (match relAt c.index_ p pl with | some r' => r = r' ∧ b = true | none => b = false) := by
  unfold m_proof_checker_release relAt
  rw [joinM_eq]
  have h := forK_eq c.index_.releases (fun (_ : Unit) r k => if (decide (r.path = p) && decide ((placeOf r.version).1 = pl)) then some (r, true) else k ()) (fun _ => some ((⟨ByteArray.empty, zVersion, [], ByteArray.empty, ByteArray.empty, ByteArray.empty, false⟩ : Release), false)) (fun n _ i => m_proof_checker_release_L2 c p pl (fun _ => some ((⟨ByteArray.empty, zVersion, [], ByteArray.empty, ByteArray.empty, ByteArray.empty, false⟩ : Release), false)) n i) (fun n _ i => by
    simp only [m_proof_checker_release_L2]
    cases decide ((i : Int) < (c.index_.releases.length : Int)) with
    | false => rfl
    | true =>
      simp only [cond_true]
      cases (decide ((ix c.index_.releases (i : Int)).path = p) && decide ((placeOf (ix c.index_.releases (i : Int)).version).1 = pl)) <;> rfl) (c.index_.releases.length + 1) () 0 (Nat.zero_le _) (by omega)
  have h : m_proof_checker_release_L2 c p pl (fun _ => some ((⟨ByteArray.empty, zVersion, [], ByteArray.empty, ByteArray.empty, ByteArray.empty, false⟩ : Release), false)) (c.index_.releases.length + 1) 0 = _ := h
  rw [h, List.drop_zero, forK_find (fun r : Release => decide (r.path = p) && decide ((placeOf r.version).1 = pl)) (fun r => (r, true)) fun r _ s k => rfl]
  cases hf : c.index_.releases.find? fun r => decide (r.path = p) && decide ((placeOf r.version).1 = pl) with
  | none => exact ⟨_, _, rfl, rfl⟩
  | some r => exact ⟨r, true, rfl, rfl, rfl⟩
theorem add_ok {x : Index} (hx : FewX x) (hv : OKX x) {roots : List Requirement} (hr : FewR roots) {l : List Inference} (hl : l.length ≤ 401) {d : List (List Term)} (hd : ∀ y ∈ d, DOK (univ x roots l) y) (hdl : d.length ≤ 401) (i : Inference) :
    ∃ b c, m_proof_checker_add ⟨x, roots, d⟩ i = some (b, c) ∧ (match inferS x roots d i with | some t => b = true ∧ c = ⟨x, roots, d ++ [t]⟩ | none => b = false) := by
  have hU := univ_len hx hr hl
  unfold m_proof_checker_add inferS
  by_cases hk : i.kind < 0 ∨ 3 < i.kind
  · rw [show ((decide (i.kind < 0)) || (decide (3 < i.kind))) = true by simpa using hk, cond_true]
    refine ⟨false, _, rfl, ?_⟩
    rw [if_neg (by omega), if_neg (by omega), if_neg (by omega), if_neg (by omega)]
  rw [show ((decide (i.kind < 0)) || (decide (3 < i.kind))) = false by simp only [Bool.or_eq_false_iff, decide_eq_false_iff_not]; omega, cond_false]
  have happ : ∀ t : List Term, d.length + [t].length ≤ 4294967296 := fun t => by simp only [List.length_singleton]; omega
  by_cases h0 : i.kind = 0
  · rw [decide_eq_true h0, cond_true, if_pos h0]
    simp only [m_proof_kinds, bnd_ok, m_proof_kinds_1]
    by_cases hb : i = ⟨0, ByteArray.empty, 0, i.number, 0, 0⟩
    · have : (⟨i.kind, i.path, i.place, 0, i.left, i.right⟩ : Inference) = ⟨i.kind, ByteArray.empty, 0, 0, 0, 0⟩ := by rw [hb]
      rw [decide_eq_false (by simpa using this), cond_false]
      unfold m_proof_checker_root
      by_cases hn : 0 ≤ i.number ∧ i.number < roots.length
      · rw [show ((decide (i.number < 0)) || (decide ((roots.length : Int) ≤ i.number))) = false by simp only [Bool.or_eq_false_iff, decide_eq_false_iff_not]; omega, cond_false, chk_ok hn, chk_ok (Nat.le_trans (hr.each _ (ix_mem hn)).2 (by omega)), bnd_ok, chk_ok (happ _), if_pos ⟨hb, hn⟩]
        exact ⟨true, _, rfl, rfl, rfl⟩
      · rw [show ((decide (i.number < 0)) || (decide ((roots.length : Int) ≤ i.number))) = true by simp only [Bool.or_eq_true, decide_eq_true_eq]; omega, cond_true, bnd_ok, chk_ok (happ _), if_neg (fun h => hn h.2)]
        exact ⟨false, _, rfl, rfl⟩
    · have : (⟨i.kind, i.path, i.place, 0, i.left, i.right⟩ : Inference) ≠ ⟨i.kind, ByteArray.empty, 0, 0, 0, 0⟩ := fun h => hb (by
        cases i; simp only [Inference.mk.injEq] at h h0 ⊢; simp_all)
      rw [decide_eq_true (by simpa using this), cond_true, if_neg (fun h => hb h.1)]
      exact ⟨false, _, rfl, rfl⟩
  rw [decide_eq_false h0, cond_false, if_neg h0]
  by_cases h1 : i.kind = 1
  · rw [decide_eq_true h1, cond_true, if_pos h1]
    simp only [m_proof_kinds, bnd_ok, m_proof_kinds_2]
    by_cases hb : i = ⟨1, i.path, i.place, i.number, 0, 0⟩
    · have : (⟨i.kind, (⟨#[]⟩ : ByteArray), 0, 0, i.left, i.right⟩ : Inference) = ⟨i.kind, ByteArray.empty, 0, 0, 0, 0⟩ := by rw [hb]; rfl
      rw [decide_eq_false (by simpa using this), cond_false, if_pos hb]
      unfold m_proof_checker_requires
      obtain ⟨r, b, hq1, hq2⟩ := release_ok ⟨x, roots, d⟩ i.path i.place
      rw [hq1, bnd_ok]
      have hq2 : (match relAt x i.path i.place with | some r' => r = r' ∧ b = true | none => b = false) := hq2
      cases hra : relAt x i.path i.place with
      | none =>
        rw [hra] at hq2
        have hq2 : b = false := hq2
        subst hq2
        simp only [Bool.not_false, Bool.true_or, cond_true, bnd_ok]
        rw [chk_ok (happ _)]
        exact ⟨false, _, rfl, rfl⟩
      | some r' =>
        rw [hra] at hq2
        obtain ⟨rfl, rfl⟩ := hq2
        have hrm : r ∈ x.releases := List.mem_of_find?_eq_some hra
        have hpl : (placeOf r.version).1 = i.place := by have := List.find?_some hra; simp only [Bool.and_eq_true, decide_eq_true_eq] at this; exact this.2
        have hbd := placeOf_bound r.version
        by_cases hn : 0 ≤ i.number ∧ i.number < r.requirements.length
        · have hs := ((hx.each r hrm).2.each _ (ix_mem hn)).2
          rw [show (((!true) || (decide (i.number < 0))) || (decide ((r.requirements.length : Int) ≤ i.number))) = false by simp only [Bool.not_true, Bool.false_or, Bool.or_eq_false_iff, decide_eq_false_iff_not]; omega, cond_false, chk_ok hn, chk_ok (Nat.le_trans hs (by omega)), chk_ok (by omega), bnd_ok, chk_ok (happ _)]
          simp only
          by_cases hne : requiresI i.path i.place (ix r.requirements i.number) ≠ []
          · rw [if_pos ⟨hn, hne⟩]
            have : 0 < (requiresI i.path i.place (ix r.requirements i.number)).length := List.length_pos_iff.2 hne
            exact ⟨true, _, by rw [decide_eq_true (by omega)], rfl, rfl⟩
          · rw [if_neg (fun h => hne h.2)]
            simp only [ne_eq, Decidable.not_not] at hne
            rw [hne]
            exact ⟨false, _, rfl, rfl⟩
        · rw [show (((!true) || (decide (i.number < 0))) || (decide ((r.requirements.length : Int) ≤ i.number))) = true by simp only [Bool.not_true, Bool.false_or, Bool.or_eq_true, decide_eq_true_eq]; omega, cond_true, bnd_ok, chk_ok (happ _)]
          simp only
          rw [if_neg (fun h => hn h.1)]
          exact ⟨false, _, rfl, rfl⟩
    · have : (⟨i.kind, (⟨#[]⟩ : ByteArray), 0, 0, i.left, i.right⟩ : Inference) ≠ ⟨i.kind, ByteArray.empty, 0, 0, 0, 0⟩ := fun h => hb (by
        cases i; simp only [Inference.mk.injEq] at h h1 ⊢; simp_all)
      rw [decide_eq_true (by simpa using this), cond_true, if_neg hb]
      exact ⟨false, _, rfl, rfl⟩
  rw [decide_eq_false h1, cond_false, if_neg h1]
  by_cases h2 : i.kind = 2
  · rw [decide_eq_true h2, cond_true, if_pos h2]
    simp only [m_proof_kinds, bnd_ok, m_proof_kinds_3]
    by_cases hb : i = ⟨2, i.path, 0, 0, 0, 0⟩
    · have : (⟨i.kind, (⟨#[]⟩ : ByteArray), i.place, i.number, i.left, i.right⟩ : Inference) = ⟨i.kind, ByteArray.empty, 0, 0, 0, 0⟩ := by rw [hb]; rfl
      rw [decide_eq_false (by simpa using this), cond_false]
      unfold m_proof_checker_none
      rw [available_ok hx hv, bnd_ok, chk_ok (show (availS x i.path).length ≤ 1000000 from canon_len2 _), bnd_ok, chk_ok (happ _)]
      simp only
      by_cases hne : noneI i.path (availS x i.path) ≠ []
      · rw [if_pos ⟨hb, hne⟩]
        have : 0 < (noneI i.path (availS x i.path)).length := List.length_pos_iff.2 hne
        exact ⟨true, _, by rw [decide_eq_true (by omega)], rfl, rfl⟩
      · rw [if_neg (fun h => hne h.2)]
        simp only [ne_eq, Decidable.not_not] at hne
        rw [hne]
        exact ⟨false, _, rfl, rfl⟩
    · have : (⟨i.kind, (⟨#[]⟩ : ByteArray), i.place, i.number, i.left, i.right⟩ : Inference) ≠ ⟨i.kind, ByteArray.empty, 0, 0, 0, 0⟩ := fun h => hb (by
        cases i; simp only [Inference.mk.injEq] at h h2 ⊢; simp_all)
      rw [decide_eq_true (by simpa using this), cond_true, if_neg (fun h => hb h.1)]
      exact ⟨false, _, rfl, rfl⟩
  have h3 : i.kind = 3 := by omega
  rw [decide_eq_false h2, cond_false, if_neg h2, chk_ok h3, if_pos h3]
  simp only [m_proof_kinds, bnd_ok, m_proof_kinds_4]
  by_cases hb : i = ⟨3, i.path, 0, 0, i.left, i.right⟩
  · have : (⟨i.kind, (⟨#[]⟩ : ByteArray), i.place, i.number, 0, 0⟩ : Inference) = ⟨i.kind, ByteArray.empty, 0, 0, 0, 0⟩ := by rw [hb]; rfl
    rw [decide_eq_false (by simpa using this), cond_false]
    unfold m_proof_checker_resolve
    by_cases hn : (0 ≤ i.left ∧ i.left < d.length) ∧ 0 ≤ i.right ∧ i.right < d.length
    · rw [show ((((decide (i.left < 0)) || (decide ((d.length : Int) ≤ i.left))) || (decide (i.right < 0))) || (decide ((d.length : Int) ≤ i.right))) = false by simp only [Bool.or_eq_false_iff, decide_eq_false_iff_not]; omega, cond_false, chk_ok hn.1, chk_ok hn.2, if_pos ⟨hb, hn⟩]
      obtain ⟨o, e, hq1, hq2⟩ := resolve_ok (hd _ (ix_mem hn.1)) (hd _ (ix_mem hn.2)) hU i.path
      have hq1 : m_term_Resolve (ix d i.left) (ix d i.right) i.path = some (o, e) := hq1
      simp only
      rw [hq1, bnd_ok, bnd_ok, chk_ok (happ _)]
      cases hrs : resolveS (ix d i.left) (ix d i.right) i.path with
      | none =>
        rw [hrs] at hq2
        exact ⟨false, _, by rw [decide_eq_false hq2], rfl⟩
      | some out =>
        rw [hrs] at hq2
        obtain ⟨rfl, rfl⟩ := hq2
        exact ⟨true, _, rfl, rfl, rfl⟩
    · rw [show ((((decide (i.left < 0)) || (decide ((d.length : Int) ≤ i.left))) || (decide (i.right < 0))) || (decide ((d.length : Int) ≤ i.right))) = true by simp only [Bool.or_eq_true, decide_eq_true_eq]; omega, cond_true, bnd_ok, chk_ok (happ _), if_neg (fun h => hn h.2)]
      exact ⟨false, _, rfl, rfl⟩
  · have : (⟨i.kind, (⟨#[]⟩ : ByteArray), i.place, i.number, 0, 0⟩ : Inference) ≠ ⟨i.kind, ByteArray.empty, 0, 0, 0, 0⟩ := fun h => hb (by
      cases i; simp only [Inference.mk.injEq] at h h3 ⊢; simp_all)
    rw [decide_eq_true (by simpa using this), cond_true, if_neg (fun h => hb h.1)]
    exact ⟨false, _, rfl, rfl⟩
end Go.Mp
namespace Go.Mp
open Go
theorem newChecker_L {x : Index} (hx : FewX x) (hv : OKX x) {roots : List Requirement} (hr : FewR roots) {l : List Inference} (hl : l.length ≤ 401) (K : List (List Term) → List Release → RawSl → List Requirement → Option (Option Checker × Int)) :
    ∀ n i (d : List (List Term)), i ≤ l.length → l.length - i < n → d.length = i → (∀ y ∈ d, DOK (univ x roots l) y) →
      m_proof_newChecker_L3 l K n d x.releases x.interfaces roots i = match derFrom x roots d (l.drop i) with | some d' => K d' x.releases x.interfaces roots | none => some (none, 18) := by
  intro n
  induction n with
  | zero => intro i d _ h; omega
  | succ n ih =>
    intro i d hi hn hdl hd
    simp only [m_proof_newChecker_L3]
    by_cases hlt : i < l.length
    · rw [decide_eq_true (by omega), cond_true, List.drop_eq_getElem_cons hlt, ix_getElem hlt]
      obtain ⟨b, c, h1, h2⟩ := add_ok hx hv hr hl hd (by omega) l[i]
      have h1 : m_proof_checker_add ⟨⟨x.releases, x.interfaces⟩, roots, d⟩ l[i] = some (b, c) := h1
      rw [h1, bnd_ok]
      simp only [derFrom]
      cases hi : inferS x roots d l[i] with
      | none =>
        rw [hi] at h2
        have h2 : b = false := h2
        subst h2
        rfl
      | some t =>
        rw [hi] at h2
        obtain ⟨rfl, rfl⟩ := h2
        simp only [Bool.not_true, cond_false]
        refine ih (i + 1) (d ++ [t]) hlt (by omega) (by simp [hdl]) fun y hy => ?_
        rcases List.mem_append.1 hy with hy | hy
        · exact hd y hy
        · rw [List.mem_singleton.1 hy]
          exact infer_dok hd (List.getElem_mem hlt) hi
    · rw [decide_eq_false (by omega), cond_false, List.drop_eq_nil_of_le (by omega)]
      rfl
def Okin (x : Index) (roots : List Requirement) : Prop := OKX x ∧ m_index_CheckRequirements roots = some 0
theorem newChecker_ok {x : Index} (hx : FewX x) {roots : List Requirement} (hr : FewR roots) {l : List Inference} (hl : l.length ≤ 401) :
    (¬ Okin x roots ∧ m_proof_newChecker x roots l = some (none, 1)) ∨
    (Okin x roots ∧ m_proof_newChecker x roots l = some (match derFrom x roots [] l with | some d => (some ⟨x, roots, d⟩, 0) | none => (none, 18))) := by
  unfold m_proof_newChecker
  obtain ⟨c, hc, _⟩ := check_ok hx
  obtain ⟨e, he, _⟩ := checkReqs_ok hr
  rw [hc, bnd_ok]
  by_cases h0 : c = 0
  · subst h0
    rw [gd_ok (by decide), he, bnd_ok]
    by_cases h1 : e = 0
    · subst h1
      right
      refine ⟨⟨hc, he⟩, ?_⟩
      rw [show ((decide ((0 : Int) ≠ 0)) || (decide ((0 : Int) ≠ 0))) = false by decide, cond_false, decide_eq_false (by omega), cond_false, joinM_eq]
      rw [newChecker_L hx hc hr hl _ (l.length + 1) 0 [] (Nat.zero_le _) (by omega) rfl (fun _ h => (nomatch h)), List.drop_zero]
      cases derFrom x roots [] l <;> rfl
    · left
      refine ⟨fun h => h1 (by have := h.2; rw [he] at this; cases this; rfl), ?_⟩
      rw [show ((decide ((0 : Int) ≠ 0)) || (decide (e ≠ 0))) = true by simpa using h1, cond_true]
  · left
    refine ⟨fun h => h0 (by have : m_index_Check x = some 0 := h.1; rw [hc] at this; cases this; rfl), ?_⟩
    rw [gd_no (by simpa using h0), bnd_ok, show (decide (c ≠ 0)) = true by simpa using h0, Bool.true_or, cond_true]
def refB (d : List (List Term)) : Bool := match d.getLast? with
  | some t => t.isEmpty
  | none => false
theorem refuted_ok (x : Index) (roots : List Requirement) (d : List (List Term)) (hd : d.length ≤ 1000) : m_proof_checker_refuted ⟨x, roots, d⟩ = some (refB d) := by
  unfold m_proof_checker_refuted refB
  simp only
  by_cases h : d = []
  · subst h; rfl
  · have hp := List.length_pos_iff.2 h
    have hl : d.getLast? = some (ix d ((d.length : Int) - 1)) := by
      rw [List.getLast?_eq_getElem?, ← ix_some (m := (d.length : Int) - 1) (by omega)]
      congr 1
      omega
    rw [chk_ok (by omega), chk_ok (by omega), hl, decide_eq_true (by omega), Bool.true_and]
    cases ix d ((d.length : Int) - 1) with
    | nil => rfl
    | cons a b => simp only [List.isEmpty_cons, List.length_cons]; rw [decide_eq_false (by omega)]
def valS (s : List Selected) (p : ByteArray) : Option Int := (atPath s p).map fun y => (placeOf y.version).1
theorem valS_inR (s : List Selected) : InR (valS s) := fun q p h => by
  unfold valS at h
  cases e : atPath s q with
  | none => rw [e] at h; cases h
  | some y => rw [e] at h; cases h; exact placeOf_bound _
def Vers (s : List Selected) : Prop := ∀ y ∈ s, validV y.version = true
theorem placeOf_ok {v : Version} (h : validV v = true) : placeOf v = (1000 * v.minor + v.patch, 0) := by
  unfold placeOf; rw [h]; rfl
def tB (t : Term) : Option Int → Bool
  | none => t.absent
  | some p => has t.set_ p
theorem tB_iff (t : Term) (σ : Option Int) : tB t σ = true ↔ tHolds t σ := by cases σ <;> rfl
def vB (s : List Selected) (l : List Term) : Bool := l.all fun t => tB t (valS s t.path)
theorem vB_iff (s : List Selected) (l : List Term) : vB s l = true ↔ lHolds l (valS s) := by
  unfold vB lHolds
  rw [List.all_eq_true]
  exact forall_congr' fun t => by rw [tB_iff]
theorem Holds_ok {s : List Selected} (hs : Vers s) (t : Term) : m_term_Holds t s = some (tB t (valS s t.path)) := by
  unfold m_term_Holds valS
  rw [IF_Selected_Selected (f := fun z0 => m_term_Holds_1 z0 t) (p := fun y => decide (y.path = t.path)) fun z _ => rfl, bnd_ok]
  rcases idx_cases s (fun y => decide (y.path = t.path)) with ⟨h1, h2⟩ | ⟨h1, h2, h3⟩
  · rw [h1]
    have : atPath s t.path = none := h2
    rw [this]
    rfl
  · have : atPath s t.path = some _ := h3
    rw [this]
    simp only [Option.map_some, tB]
    rw [decide_eq_false (by omega), cond_false, chk_ok ⟨h1, h2⟩, placeOf_ok (hs _ (ix_mem ⟨h1, h2⟩))]
    rfl
theorem Violated_ok {s : List Selected} (hs : Vers s) (l : List Term) : m_term_Violated l s = some (vB s l) := by
  unfold m_term_Violated
  rw [joinM_eq]
  have h := forK_eq l (fun (_ : Unit) t k => if (!(tB t (valS s t.path))) then some false else k ()) (fun _ => some true) (fun n _ i => m_term_Violated_L2 l s (fun _ => some true) n i) (fun n _ i => by
    simp only [m_term_Violated_L2, Holds_ok hs, bnd_ok]
    cases decide ((i : Int) < (l.length : Int)) with
    | false => rfl
    | true =>
      simp only [cond_true]
      cases (tB (ix l (i : Int)) (valS s (ix l (i : Int)).path)) <;> rfl) (l.length + 1) () 0 (Nat.zero_le _) (by omega)
  have h : m_term_Violated_L2 l s (fun _ => some true) (l.length + 1) 0 = _ := h
  rw [h, List.drop_zero, forK_find (fun t : Term => !(tB t (valS s t.path))) (fun _ => false) fun r _ s k => rfl]
  cases hf : l.find? fun t : Term => !(tB t (valS s t.path)) with
  | none =>
    rw [List.find?_eq_none] at hf
    have : vB s l = true := List.all_eq_true.2 fun t ht => by have := hf t ht; simpa using this
    rw [this]
  | some t =>
    have h1 := List.find?_some hf
    have h2 := List.mem_of_find?_eq_some hf
    have : vB s l = false := List.all_eq_false.2 ⟨t, h2, by simpa using h1⟩
    rw [this]
structure Good (x : Index) (roots : List Requirement) (s : List Selected) : Prop extends SolvesP x roots s where
  free : ∀ y ∈ s, (relOf x y).yanked = false
theorem SolvesP.vers {x : Index} {roots : List Requirement} {s : List Selected} (hx : FewX x) (h : SolvesP x roots s) : Vers s := fun y hy => by
  have h1 := relOf_key (h.found y hy)
  have := ((h.okx.valid hx).each _ (relOf_mem (h.found y hy))).ver
  rwa [h1.2] at this
theorem canonT_no {l : List Term} (h : (canonT l).2 = false) : (canonT l).1 = [] := by
  unfold canonT at h ⊢
  split at h
  · rename_i hn
    rw [if_pos hn]
  · cases h
theorem holds_of_ofT {l : List Term} {f : ByteArray → Option Int} (hf : InR f) (h2 : (canonT l).2 = true) (h : lHolds (ofT l) f) : lHolds l f := (canonT_holds hf).2 ⟨h2, h⟩
theorem ofT_ne {l : List Term} (h : ofT l ≠ []) : (canonT l).2 = true := by
  cases e : (canonT l).2 with
  | true => rfl
  | false => exact absurd (canonT_no e) h
theorem rootI_ok (q : Requirement) : (canonT [rootT q]).2 = true :=
  ((canonT_holds (l := [rootT q]) (f := fun _ => none) fun _ _ h => (nomatch h)).1 fun t ht => by rw [List.mem_singleton.1 ht]; rfl).1
theorem SatBy.root {q : Requirement} {s : List Selected} (hn : (s.map (·.path)).Nodup) (h : SatBy q s) : ¬ tHolds (rootT q) (valS s q.path) := by
  obtain ⟨y, hy, hp, hh⟩ := h
  unfold valS
  rw [← hp, atPath_of hn hy]
  intro h
  have h : has (complement q.set_) (placeOf y.version).1 = true := h
  rw [has_cov] at h hh
  exact ((complement_cov _ _).1 h.2).2 hh.2
theorem verExt {a b : Version} (h1 : a.major = b.major) (h2 : a.minor = b.minor) (h3 : a.patch = b.patch) : a = b := by
  cases a; cases b; simp only at h1 h2 h3; rw [h1, h2, h3]
theorem rel_at {x : Index} (hv : ValidX x) {r r' : Release} (hr : r ∈ x.releases) (hr' : r' ∈ x.releases) (hp : r.path = r'.path) (hq : (placeOf r.version).1 = (placeOf r'.version).1) : r = r' := by
  have v := hv.each r hr
  have v' := hv.each r' hr'
  have w := validV_ok v.ver
  have w' := validV_ok v'.ver
  refine keys_inj hv.sorted r hr r' hr' ?_
  rw [placeOf_ok v.ver, placeOf_ok v'.ver] at hq
  simp only at hq
  have hm := v.major
  have hm' := v'.major
  rw [← hp] at hm'
  have e : r.version = r'.version := verExt (by omega) (by omega) (by omega)
  unfold keyR
  rw [hp, e]
theorem infer_sound {x : Index} (hx : FewX x) {roots : List Requirement} {s : List Selected} (hg : Good x roots s) {d : List (List Term)} (hd : ∀ y ∈ d, ¬ lHolds y (valS s)) {i : Inference} {t : List Term} (h : inferS x roots d i = some t) : ¬ lHolds t (valS s) := by
  have hf := valS_inR s
  have hn := hg.incr.nodup
  have hv := hg.okx.valid hx
  unfold inferS at h
  split at h
  · split at h
    · rename_i hc
      cases h
      intro hl
      have := holds_of_ofT hf (rootI_ok _) hl (rootT (ix roots i.number)) List.mem_cons_self
      exact (hg.sat _ (ix_mem ⟨hc.2.1, hc.2.2⟩)).root hn this
    · cases h
  · split at h
    · split at h
      · split at h
        · rename_i r hr
          split at h
          · rename_i hc
            cases h
            intro hl
            have hl := holds_of_ofT hf (ofT_ne hc.2) hl
            have h1 := hl _ List.mem_cons_self
            have h2 := hl _ (List.mem_cons_of_mem _ List.mem_cons_self)
            have hrm : r ∈ x.releases := List.mem_of_find?_eq_some hr
            have hrk := List.find?_some hr
            simp only [Bool.and_eq_true, decide_eq_true_eq] at hrk
            unfold valS at h1
            simp only at h1
            cases e : atPath s i.path with
            | none => rw [e] at h1; cases h1
            | some y =>
              rw [e] at h1
              have h1 : has [⟨i.place, i.place + 1⟩] (placeOf y.version).1 = true := h1
              rw [has_cov] at h1
              obtain ⟨_, w, hw, h3⟩ := h1
              rw [List.mem_singleton.1 hw] at h3
              simp only at h3
              obtain ⟨hy, hyp⟩ := atPath_mem e
              have hk := relOf_key (hg.found y hy)
              have he : relOf x y = r := rel_at hv (relOf_mem (hg.found y hy)) hrm (by rw [hk.1, hyp, hrk.1]) (by rw [hk.2, hrk.2]; omega)
              refine (hg.satR y hy (ix r.requirements i.number) ?_).root hn h2
              rw [he]; exact ix_mem hc.1
          · cases h
        · cases h
      · cases h
    · split at h
      · split at h
        · rename_i hc
          cases h
          intro hl
          have h1 := holds_of_ofT hf (ofT_ne hc.2) hl _ List.mem_cons_self
          unfold valS at h1
          simp only at h1
          cases e : atPath s i.path with
          | none => rw [e] at h1; cases h1
          | some y =>
            rw [e] at h1
            have h1 : has (complement (availS x i.path)) (placeOf y.version).1 = true := h1
            obtain ⟨hy, hyp⟩ := atPath_mem e
            have hk := relOf_key (hg.found y hy)
            refine ((complement_cov _ _).1 ((has_cov _ _).1 h1).2).2 (availS_cov.2 ⟨relOf x y, relOf_mem (hg.found y hy), by rw [hk.1, hyp], hg.free y hy, by rw [hk.2]⟩)
        · cases h
      · split at h
        · split at h
          · rename_i hc
            have ha := hd _ (ix_mem hc.2.1)
            have hb := hd _ (ix_mem hc.2.2)
            unfold resolveS at h
            split at h
            · rename_i t rest u more h1 h2
              split at h
              · rename_i hok
                cases h
                intro hl
                have hl := holds_of_ofT hf hok hl
                have k1 := splitS_some h1
                have k2 := splitS_some h2
                have he := hl (either t u) (List.mem_append.2 (.inr List.mem_cons_self))
                have hp : (either t u).path = t.path := rfl
                rw [hp] at he
                rcases (either_holds t u _).1 he with he | he
                · refine ha fun z hz => ?_
                  rcases (k1.2.2.1 z).1 hz with rfl | hz
                  · exact he
                  · exact hl z (List.mem_append.2 (.inl (List.mem_append.2 (.inl hz))))
                · refine hb fun z hz => ?_
                  rcases (k2.2.2.1 z).1 hz with rfl | hz
                  · rw [k2.2.1, ← k1.2.1]; exact he
                  · exact hl z (List.mem_append.2 (.inl (List.mem_append.2 (.inr hz))))
              · cases h
            · cases h
          · cases h
        · cases h
theorem der_sound {x : Index} (hx : FewX x) {roots : List Requirement} {s : List Selected} (hg : Good x roots s) : ∀ (l : List Inference) (d d' : List (List Term)), (∀ y ∈ d, ¬ lHolds y (valS s)) → derFrom x roots d l = some d' → ∀ y ∈ d', ¬ lHolds y (valS s)
  | [], d, d', hd, h => by cases h; exact hd
  | i :: l, d, d', hd, h => by
    simp only [derFrom] at h
    split at h
    · rename_i t ht
      refine der_sound hx hg l _ d' (fun y hy => ?_) h
      rcases List.mem_append.1 hy with hy | hy
      · exact hd y hy
      · rw [List.mem_singleton.1 hy]; exact infer_sound hx hg hd ht
    · cases h
end Go.Mp
set_option maxRecDepth 1000000
namespace Go.Mp
open Go
theorem awake_ok : m_modcertlaw36_awake = some true := by decide +kernel
end Go.Mp
namespace Go.Mp
open Go
theorem available1_ok {x : Index} (hx : FewX x) {roots : List Requirement} (hr : FewR roots) {s : List Selected} (hs : s.length ≤ 1000) : ∃ b, m_modcertlaw36_available x roots s = some b ∧ (b = true → Good x roots s) := by
  unfold m_modcertlaw36_available
  obtain ⟨c, h1, h2⟩ := solves_ok hx hr hs
  rw [h1, bnd_ok]
  by_cases hc : c = 0
  · have hS := h2 hc
    rw [gd_ok (by simpa using hc), CF_Selected_Selected (f := fun z0 => m_modcertlaw36_available_1 z0 x) (p := fun y => (!(findK x y).isSome) || (relOf x y).yanked) fun z _ => by
      simp only [m_modcertlaw36_available_1]; rw [find_ok hx hS.okx, bnd_ok]; rfl, bnd_ok]
    refine ⟨_, rfl, fun h => ⟨hS, fun y hy => ?_⟩⟩
    simp only [Bool.and_eq_true, Bool.not_eq_true', List.any_eq_false, Bool.or_eq_true, not_or] at h
    have := (h.2 y hy).2
    simpa using this
  · rw [gd_no (by simpa using hc), bnd_ok]
    exact ⟨_, rfl, fun h => by simp [hc] at h⟩
end Go.Mp
namespace Go.Mp
open Go
def hasP (l1 : List Selected) (p : ByteArray) : Bool := l1.any fun y => decide (y.path = p)
theorem hasP_iff {l1 : List Selected} {p : ByteArray} : hasP l1 p = true ↔ ∃ y ∈ l1, y.path = p := by
  unfold hasP; rw [List.any_eq_true]; simp
def stepP (l1 : List Selected) (acc : ByteArray × Bool) (q : Requirement) : ByteArray × Bool :=
  if (!hasP l1 q.path) && (!acc.2 || strLt q.path acc.1) then (q.path, true) else acc
def nextP (l1 : List Selected) (l2 : List Requirement) : ByteArray × Bool := l2.foldl (stepP l1) ((⟨#[]⟩ : ByteArray), false)
theorem foldP_spec (l1 : List Selected) : ∀ (l2 : List Requirement) (acc : ByteArray × Bool),
    ((l2.foldl (stepP l1) acc).2 = false → acc.2 = false ∧ ∀ q ∈ l2, hasP l1 q.path = true) ∧
    ((l2.foldl (stepP l1) acc).2 = true → (acc.2 = true ∧ l2.foldl (stepP l1) acc = acc) ∨ ∃ q ∈ l2, q.path = (l2.foldl (stepP l1) acc).1 ∧ hasP l1 q.path = false)
  | [], acc => ⟨fun h => ⟨h, fun _ h => (nomatch h)⟩, fun h => .inl ⟨h, rfl⟩⟩
  | q :: l2, acc => by
    obtain ⟨h1, h2⟩ := foldP_spec l1 l2 (stepP l1 acc q)
    simp only [List.foldl_cons]
    refine ⟨fun h => ?_, fun h => ?_⟩
    · obtain ⟨k1, k2⟩ := h1 h
      unfold stepP at k1
      split at k1
      · cases k1
      · rename_i hc
        rw [k1] at hc
        simp only [Bool.not_false, Bool.true_or, Bool.and_true, Bool.not_eq_true, Bool.not_eq_false'] at hc
        refine ⟨k1, fun z hz => ?_⟩
        rcases List.mem_cons.1 hz with rfl | hz
        · exact hc
        · exact k2 z hz
    · rcases h2 h with ⟨k1, k2⟩ | ⟨z, hz, k1, k2⟩
      · rw [k2]
        by_cases hc : ((!hasP l1 q.path) && (!acc.2 || strLt q.path acc.1)) = true
        · have e : stepP l1 acc q = (q.path, true) := if_pos hc
          rw [e]
          simp only [Bool.and_eq_true, Bool.not_eq_true'] at hc
          exact .inr ⟨q, List.mem_cons_self, rfl, hc.1⟩
        · have e : stepP l1 acc q = acc := if_neg hc
          rw [e] at k1 ⊢
          exact .inl ⟨k1, rfl⟩
      · exact .inr ⟨z, List.mem_cons_of_mem _ hz, k1, k2⟩
theorem nextP_done {l1 : List Selected} {l2 : List Requirement} (h : (nextP l1 l2).2 = false) : ∀ q ∈ l2, hasP l1 q.path = true := ((foldP_spec l1 l2 _).1 h).2
theorem nextP_some {l1 : List Selected} {l2 : List Requirement} (h : (nextP l1 l2).2 = true) : ∃ q ∈ l2, q.path = (nextP l1 l2).1 ∧ hasP l1 (nextP l1 l2).1 = false := by
  rcases (foldP_spec l1 l2 _).2 h with ⟨h1, _⟩ | ⟨q, h1, h2, h3⟩
  · cases h1
  · exact ⟨q, h1, h2, by unfold nextP; rw [← h2]; exact h3⟩
inductive Steps (x : Index) (sel : List Selected) : List Selected → List Requirement → List Selected → Prop
  | done {l1 l2} : (nextP l1 l2).2 = false → Steps x sel l1 l2 []
  | step {l1 l2 y ys} : (nextP l1 l2).2 = true → atPath sel (nextP l1 l2).1 = some y → Steps x sel (l1 ++ [y]) (l2 ++ (relOf x y).requirements) ys → Steps x sel l1 l2 (y :: ys)
structure Inv (x : Index) (roots : List Requirement) (sel : List Selected) (l1 : List Selected) (l2 : List Requirement) : Prop where
  sub : ∀ y ∈ l1, y ∈ sel
  nodup : (l1.map (·.path)).Nodup
  sat : ∀ q ∈ l2, SatBy q sel
  roots : ∀ q ∈ roots, q ∈ l2
  reqs : ∀ y ∈ l1, ∀ q ∈ (relOf x y).requirements, q ∈ l2
  small : l2.length ≤ 1000 + 20 * l1.length
theorem Inv.len {x : Index} {roots : List Requirement} {sel l1 : List Selected} {l2 : List Requirement} (h : Inv x roots sel l1 l2) : l1.length ≤ sel.length := by
  have := nodup_le (a := l1.map (·.path)) (b := sel.map (·.path)) h.nodup fun z hz => by
    obtain ⟨y, hy, rfl⟩ := List.mem_map.1 hz
    exact List.mem_map_of_mem (f := fun y : Selected => y.path) (h.sub y hy)
  simpa using this
theorem Inv.start {x : Index} {roots : List Requirement} {sel : List Selected} (hr : FewR roots) (hs : SolvesP x roots sel) : Inv x roots sel [] roots :=
  ⟨fun _ h => (nomatch h), List.nodup_nil, hs.sat, fun _ h => h, fun _ h => (nomatch h), by have := hr.len; omega⟩
theorem Inv.next {x : Index} (hx : FewX x) {roots : List Requirement} {sel l1 : List Selected} {l2 : List Requirement} (hs : SolvesP x roots sel) (h : Inv x roots sel l1 l2) (hn : (nextP l1 l2).2 = true) :
    ∃ y, atPath sel (nextP l1 l2).1 = some y ∧ y ∈ sel ∧ y.path = (nextP l1 l2).1 ∧ Inv x roots sel (l1 ++ [y]) (l2 ++ (relOf x y).requirements) := by
  obtain ⟨q, hq, hp, hno⟩ := nextP_some hn
  obtain ⟨y, hy, hyp, _⟩ := h.sat q hq
  have e : atPath sel (nextP l1 l2).1 = some y := by rw [← hp, ← hyp]; exact atPath_of hs.incr.nodup hy
  have hyp' : y.path = (nextP l1 l2).1 := by rw [hyp, hp]
  refine ⟨y, e, hy, hyp', ⟨fun z hz => ?_, ?_, fun z hz => ?_, fun z hz => List.mem_append.2 (.inl (h.roots z hz)), fun z hz r hr => ?_, ?_⟩⟩
  · rcases List.mem_append.1 hz with hz | hz
    · exact h.sub z hz
    · rw [List.mem_singleton.1 hz]; exact hy
  · rw [List.map_append, List.nodup_append]
    refine ⟨h.nodup, by simp, fun a ha b hb => ?_⟩
    rw [List.map_singleton, List.mem_singleton] at hb
    rintro rfl
    obtain ⟨z, hz, he⟩ := List.mem_map.1 ha
    have he : z.path = a := he
    have : hasP l1 (nextP l1 l2).1 = true := hasP_iff.2 ⟨z, hz, by rw [he, hb]; exact hyp'⟩
    rw [hno] at this; cases this
  · rcases List.mem_append.1 hz with hz | hz
    · exact h.sat z hz
    · exact hs.satR y hy z hz
  · rcases List.mem_append.1 hz with hz | hz
    · exact List.mem_append.2 (.inl (h.reqs z hz r hr))
    · rw [List.mem_singleton.1 hz] at hr; exact List.mem_append.2 (.inr hr)
  · have := (hx.each _ (relOf_mem (hs.found y hy))).2.len
    have := h.small
    rw [List.length_append, List.length_append, List.length_singleton]; omega
theorem Inv.all {x : Index} {roots : List Requirement} {sel l1 : List Selected} {l2 : List Requirement} (hs : SolvesP x roots sel) (h : Inv x roots sel l1 l2) (hn : (nextP l1 l2).2 = false) : ∀ y ∈ sel, y ∈ l1 := by
  have hd := nextP_done hn
  have key : ∀ y ∈ sel, hasP l1 y.path = true → y ∈ l1 := fun y hy hp => by
    obtain ⟨z, hz, hzp⟩ := hasP_iff.1 hp
    have : z = y := inj_of_nodup (fun y : Selected => y.path) hs.incr.nodup z (h.sub z hz) y hy hzp
    rw [← this]; exact hz
  have := hs.reach (fun p => hasP l1 p = true) (fun q hq => hd q (h.roots q hq)) fun y hy hp q hq => hd q (h.reqs y (key y hy hp) q hq)
  exact fun y hy => key y hy (this y hy)
theorem steps_ex {x : Index} (hx : FewX x) {roots : List Requirement} {sel : List Selected} (hs : SolvesP x roots sel) : ∀ (n : Nat) (l1 : List Selected) (l2 : List Requirement), Inv x roots sel l1 l2 → sel.length ≤ n + l1.length →
    ∃ ys, Steps x sel l1 l2 ys ∧ (∀ y ∈ sel, y ∈ l1 ++ ys) ∧ Inv x roots sel (l1 ++ ys) (l2 ++ ys.flatMap fun y => (relOf x y).requirements)
  | n, l1, l2, h, hn => by
    cases hc : (nextP l1 l2).2 with
    | false => exact ⟨[], .done hc, fun y hy => by rw [List.append_nil]; exact h.all hs hc y hy, by simpa using h⟩
    | true =>
      obtain ⟨y, h1, h2, h3, h4⟩ := h.next hx hs hc
      cases n with
      | zero =>
        have := h4.len
        rw [List.length_append, List.length_singleton] at this; omega
      | succ n =>
        obtain ⟨ys, k1, k2, k3⟩ := steps_ex hx hs n _ _ h4 (by rw [List.length_append, List.length_singleton]; omega)
        exact ⟨y :: ys, .step hc h1 k1, fun z hz => by have := k2 z hz; simpa using this, by simpa using k3⟩
theorem next_ok (l1 : List Selected) (l2 : List Requirement) (K : ByteArray → Bool → Option (Bool × List ByteArray)) : m_proof_checker_decide_proof_Decisions_1_L9 l2 l1 K (l2.length + 1) (⟨#[]⟩ : ByteArray) false 0 = K (nextP l1 l2).1 (nextP l1 l2).2 := by
  have h := forK_eq l2 (fun (s : ByteArray × Bool) q k => k (stepP l1 s q)) (fun s => K s.1 s.2) (fun n s i => m_proof_checker_decide_proof_Decisions_1_L9 l2 l1 K n s.1 s.2 i) (fun n s i => by
    simp only [m_proof_checker_decide_proof_Decisions_1_L9]
    cases decide ((i : Int) < (l2.length : Int)) with
    | false => rfl
    | true =>
      simp only [cond_true]
      rw [CF_Selected_Selected (f := fun z0 => m_proof_checker_decide_1 z0 (ix l2 (i : Int))) (p := fun y => decide (y.path = (ix l2 (i : Int)).path)) fun z _ => rfl, bnd_ok]
      unfold stepP hasP
      cases ((!(l1.any fun y => decide (y.path = (ix l2 (i : Int)).path))) && (!s.2 || strLt (ix l2 (i : Int)).path s.1)) <;> rfl) (l2.length + 1) ((⟨#[]⟩ : ByteArray), false) 0 (Nat.zero_le _) (by omega)
  rw [List.drop_zero, forK_fold (stepP l1) fun s q _ k => rfl] at h
  exact h
theorem nextC_ok (l1 : List Selected) (l2 : List Requirement) (K : ByteArray → Bool → Option (Bool × List Skip × Bool)) : m_proof_checker_decide_proof_Check_1_L9 l2 l1 K (l2.length + 1) (⟨#[]⟩ : ByteArray) false 0 = K (nextP l1 l2).1 (nextP l1 l2).2 := by
  have h := forK_eq l2 (fun (s : ByteArray × Bool) q k => k (stepP l1 s q)) (fun s => K s.1 s.2) (fun n s i => m_proof_checker_decide_proof_Check_1_L9 l2 l1 K n s.1 s.2 i) (fun n s i => by
    simp only [m_proof_checker_decide_proof_Check_1_L9]
    cases decide ((i : Int) < (l2.length : Int)) with
    | false => rfl
    | true =>
      simp only [cond_true]
      rw [CF_Selected_Selected (f := fun z0 => m_proof_checker_decide_1 z0 (ix l2 (i : Int))) (p := fun y => decide (y.path = (ix l2 (i : Int)).path)) fun z _ => rfl, bnd_ok]
      unfold stepP hasP
      cases ((!(l1.any fun y => decide (y.path = (ix l2 (i : Int)).path))) && (!s.2 || strLt (ix l2 (i : Int)).path s.1)) <;> rfl) (l2.length + 1) ((⟨#[]⟩ : ByteArray), false) 0 (Nat.zero_le _) (by omega)
  rw [List.drop_zero, forK_fold (stepP l1) fun s q _ k => rfl] at h
  exact h
theorem at_idx {sel : List Selected} {p : ByteArray} {y : Selected} (h : atPath sel p = some y) : 0 ≤ idx sel (fun z => decide (z.path = p)) ∧ idx sel (fun z => decide (z.path = p)) < sel.length ∧ ix sel (idx sel fun z => decide (z.path = p)) = y := by
  rcases idx_cases sel (fun z => decide (z.path = p)) with ⟨_, h2⟩ | ⟨h1, h2, h3⟩
  · have h : sel.find? (fun z => decide (z.path = p)) = some y := h
    rw [h2] at h; cases h
  · have h : sel.find? (fun z => decide (z.path = p)) = some y := h
    rw [h3] at h
    exact ⟨h1, h2, Option.some.inj h⟩
theorem found_of {x : Index} {y : Selected} (h : (findK x y).isSome = true) : (findK x ⟨y.path, y.version⟩).getD zRelease = relOf x y ∧ (findK x ⟨y.path, y.version⟩).isSome = true := ⟨rfl, h⟩
theorem decD_ok {x : Index} (hx : FewX x) {roots : List Requirement} {sel : List Selected} (hsl : sel.length ≤ 1000) (hs : SolvesP x roots sel) (D : List (List Term)) {l1 : List Selected} {l2 : List Requirement} {ys : List Selected} (h : Steps x sel l1 l2 ys) :
    ∀ (n : Nat) (l3 : List ByteArray), Inv x roots sel l1 l2 → ys.length < n → l3.length ≤ l1.length → m_proof_checker_decide_proof_Decisions_1_L7 sel ⟨x, roots, D⟩ n l1 l2 l3 = some (true, l3 ++ ys.map (·.path)) := by
  induction h with
  | done hc =>
    intro n l3 hI hn _
    cases n with
    | zero => omega
    | succ n =>
      simp only [m_proof_checker_decide_proof_Decisions_1_L7]
      rw [joinM_eq, next_ok, hc]
      simp
  | @step l1 l2 y ys hc ha _ ih =>
    intro n l3 hI hn h3
    cases n with
    | zero => omega
    | succ n =>
      obtain ⟨y', k1, k2, k3, k4⟩ := hI.next hx hs hc
      rw [ha] at k1
      cases k1
      obtain ⟨i1, i2, i3⟩ := at_idx ha
      obtain ⟨f1, f2⟩ := found_of (hs.found y k2)
      have hl1 := hI.len
      have hl2 := k4.small
      have hl4 := k4.len
      simp only [List.length_append, List.length_singleton] at hl2 hl4
      simp only [m_proof_checker_decide_proof_Decisions_1_L7]
      rw [joinM_eq, next_ok, hc]
      simp only [Bool.not_true, cond_false]
      rw [IF_Selected_Selected (f := fun z0 => m_proof_checker_decide_2 z0 (nextP l1 l2).1) (p := fun z => decide (z.path = (nextP l1 l2).1)) fun z _ => rfl, bnd_ok, decide_eq_false (by omega), cond_false, chk_ok ⟨i1, i2⟩, chk_ok ⟨i1, i2⟩, i3, find_ok hx hs.okx, bnd_ok, f1, f2]
      simp only [Bool.not_true, cond_false, m_proof_Decisions_1]
      rw [chk_ok (by simp only [List.length_singleton]; omega), bnd_ok, chk_ok ⟨i1, i2⟩, chk_ok (by simp only [List.length_singleton]; omega), chk_ok (by omega)]
      rw [ih n _ k4 (by simp only [List.length_cons] at hn; omega) (by simp only [List.length_append, List.length_singleton]; omega)]
      have hp : (relOf x y).path = y.path := (relOf_key (hs.found y k2)).1
      rw [hp, List.map_cons, List.append_assoc]
      rfl
theorem Decisions_ok {x : Index} (hx : FewX x) {roots : List Requirement} (hr : FewR roots) (hin : Okin x roots) {sel : List Selected} (hsl : sel.length ≤ 1000) (hs : SolvesP x roots sel) :
    ∃ ys, Steps x sel [] roots ys ∧ (∀ y ∈ sel, y ∈ ys) ∧ (∀ y ∈ ys, y ∈ sel) ∧ (ys.map (·.path)).Nodup ∧ m_proof_Decisions x roots sel = some (ys.map (·.path), 0) := by
  obtain ⟨ys, h1, h2, h3⟩ := steps_ex hx hs sel.length [] roots (Inv.start hr hs) (by simp)
  simp only [List.nil_append] at h2 h3
  refine ⟨ys, h1, h2, h3.sub, h3.nodup, ?_⟩
  have hyl : ys.length ≤ sel.length := h3.len
  unfold m_proof_Decisions
  rcases newChecker_ok hx hr (l := []) (by simp) with ⟨h, _⟩ | ⟨_, h⟩
  · exact absurd hin h
  have h : m_proof_newChecker x roots [] = some (some ⟨x, roots, []⟩, 0) := h
  rw [h, bnd_ok]
  simp only
  rw [gd_ok (by simp)]
  obtain ⟨b, hb1, hb2⟩ := incr_ok hsl
  rw [hb1, hb2.2 hs.incr, bnd_ok]
  rw [show ((decide ((0 : Int) ≠ 0)) || (!true)) = false from rfl, cond_false, chk_ok (by rfl)]
  simp only [Option.getD_some, m_proof_checker_decide_proof_Decisions_1, m_slices_Clone_Requirement_Requirement]
  rw [chk_ok (by have := hr.len; omega), bnd_ok]
  obtain ⟨N, hN⟩ : ∃ N : Nat, N = 100000 := ⟨_, rfl⟩
  rw [← hN, decD_ok hx hsl hs [] h1 N [] (Inv.start hr hs) (by omega) (by simp), bnd_ok]
  rfl
end Go.Mp
namespace Go.Mp
open Go
theorem der_len0 {x : Index} {roots : List Requirement} : ∀ (l : List Inference) (d d' : List (List Term)), derFrom x roots d l = some d' → d'.length = d.length + l.length
  | [], d, d', h => by cases h; rfl
  | i :: l, d, d', h => by
    simp only [derFrom] at h
    split at h
    · have := der_len0 l _ _ h
      simp only [List.length_append, List.length_cons, List.length_nil] at this ⊢; omega
    · cases h
def entB (s : List Selected) (t : List Term) : Bool := vB s t && !(t.any fun z => !(hasP s z.path))
theorem Entailed_ok {s : List Selected} (hs : Vers s) (t : List Term) : m_term_Entailed t s = some (entB s t) := by
  unfold m_term_Entailed entB
  rw [Violated_ok hs, bnd_ok]
  cases vB s t with
  | false => rw [gd_no (by simp), bnd_ok]; rfl
  | true =>
    rw [gd_ok rfl, CF_Incompatibility_Term (f := fun z0 => m_term_Entailed_1 z0 s) (p := fun z => !(hasP s z.path)) fun z _ => by
      simp only [m_term_Entailed_1]
      rw [CF_Selected_Selected (f := fun z0 => m_term_Entailed_1_1 z0 z) (p := fun y => decide (y.path = z.path)) fun y _ => rfl, bnd_ok]
      rfl, bnd_ok]
abbrev plR (r : Release) : Int := (placeOf r.version).1
def condR (l2 : List Requirement) (r0 r : Release) : Bool := !((decide (r.path ≠ r0.path) || r.yanked) || decide (plR r0 ≤ plR r)) && !(l2.any fun q => decide (q.path = r0.path) && !(has q.set_ (plR r)))
def goodS (d : List (List Term)) (l1 : List Selected) (r0 r : Release) (s : Skip) : Bool :=
  !(((decide (s.path ≠ r0.path) || decide (s.place ≠ plR r)) || decide (s.inference < 0)) || decide ((d.length : Int) ≤ s.inference)) && entB (l1 ++ [keyR r]) (ix d s.inference)
def skipF (d : List (List Term)) (l1 : List Selected) (l2 : List Requirement) (r0 : Release) : List Skip → List Release → Option (List Skip)
  | v, [] => some v
  | v, r :: rs => if condR l2 r0 r then (match v with
    | [] => none
    | s :: v' => if goodS d l1 r0 r s then skipF d l1 l2 r0 v' rs else none) else skipF d l1 l2 r0 v rs
def skipBody (d : List (List Term)) (l1 : List Selected) (l2 : List Requirement) (r0 : Release) (v : List Skip) (r : Release) (k : List Skip → Option (List Skip × Bool)) : Option (List Skip × Bool) :=
  if condR l2 r0 r then (match v with
    | [] => some ([], false)
    | s :: v' => if goodS d l1 r0 r s then k v' else some ([], false)) else k v
theorem skipF_for (d : List (List Term)) (l1 : List Selected) (l2 : List Requirement) (r0 : Release) (K : List Skip → Option (List Skip × Bool)) : ∀ (rs : List Release) (v : List Skip),
    forK (skipBody d l1 l2 r0) K rs v = match skipF d l1 l2 r0 v rs with | some v' => K v' | none => some ([], false)
  | [], v => rfl
  | r :: rs, v => by
    show skipBody d l1 l2 r0 v r (forK (skipBody d l1 l2 r0) K rs) = _
    unfold skipBody
    simp only [skipF]
    split
    · cases v with
      | nil => rfl
      | cons s v' =>
        simp only
        split
        · exact skipF_for d l1 l2 r0 K rs v'
        · rfl
    · exact skipF_for d l1 l2 r0 K rs v
end Go.Mp
