/- Part 3 of the proof of tampers_ok: plain theorems, kept by a program out of the prover's own texts. No conditions. -/
import Derived.Test.YtbmhkahphmgggaaGreatDoorP02
import Derived.Ground.SlsfProg
import Derived.Shelf.SlSortCmp.WholeK
import Derived.Shelf.SlGeneric
import Derived.Test.YtbmhkahphmgggaaGreatDoorProg
import Derived.Shelf.SlSortCmp.NoneTotal
set_option linter.unusedVariables false
set_option linter.unusedSimpArgs false
set_option linter.unusedSectionVars false
set_option maxRecDepth 100000
set_option maxHeartbeats 4000000
set_option linter.unusedVariables false
set_option linter.unusedSimpArgs false
namespace Go.Mp
open Go Go.Proofs
theorem s_IsName (s : ByteArray) : Fn Tryz.prog 214 [pS s] (pB (lexIsName s)) := by
  refine Spec.mk Tryz.func214 rfl rfl fun B => ?_
  refine TrC.seq ?_
  refine TrC.region rfl ?_
  refine L rfl rfl (PStep.assign rfl Lk.c) ?_
  refine TrL.nil ?_
  refine TrE.seq ?_
  refine TrC.seq ?_
  refine TrC.region rfl ?_
  refine L rfl rfl (PStep.move rfl (Lk.t rfl)) ?_
  refine L rfl rfl (PStep.sneq rfl (Lk.t rfl) Lk.c) ?_
  refine L rfl rfl (PStep.move rfl (Lk.t rfl)) ?_
  refine LW rfl (WStep.guard rfl rfl rfl rfl (fun hg => PStep.move rfl (Lk.t rfl))) ?_
  refine LW rfl (WStep.guard rfl rfl rfl rfl (fun hg => PStep.slen Tryz.runUnderlying9 rfl (Lk.g rfl hg))) ?_
  refine LW rfl (WStep.guard rfl rfl rfl rfl (fun hg => PStep.leq rfl (Lk.g rfl hg) Lk.c)) ?_
  refine L rfl rfl (PStep.pickAnd rfl (Lk.t rfl) (fun hq => Lk.g rfl hq)) ?_
  refine L rfl rfl (PStep.move rfl (Lk.t rfl)) ?_
  refine LW rfl (WStep.guard rfl rfl rfl rfl (fun hg => PStep.move rfl (Lk.t rfl))) ?_
  refine LW rfl (WStep.guard rfl rfl rfl rfl (fun hg => PStep.sindex Tryz.runUnderlying9 rfl (Lk.g rfl hg) Lk.c (by have hg_ := hg; simp only [Bool.and_eq_true, decide_eq_true_eq] at hg_; exact ⟨by omega, size_pos hg_.1⟩))) ?_
  refine LW rfl (WStep.guard rfl rfl rfl rfl (fun hg => PStep.call (s_small _) Tryz.call217 rfl (LkAll.cons (Lk.g rfl hg) LkAll.nil))) ?_
  refine L rfl rfl (PStep.pickAnd rfl (Lk.t rfl) (fun hq => Lk.g rfl hq)) ?_
  refine L rfl rfl (PStep.move rfl (Lk.t rfl)) ?_
  refine LW rfl (WStep.guard rfl rfl rfl rfl (fun hg => PStep.move rfl (Lk.t rfl))) ?_
  refine LW rfl (WStep.guard rfl rfl rfl rfl (fun hg => PStep.call (s_all _ _ (by have hg_ := hg; (try simp only [decide_eq_true_eq, decide_eq_false_iff_not, Bool.and_eq_true, Bool.or_eq_true, Bool.not_eq_true', Bool.not_eq_false', Bool.and_eq_false_iff, Bool.or_eq_false_iff] at hg_); omega)) Tryz.call215 rfl (LkAll.cons (Lk.g rfl hg) (LkAll.cons (Lk.fn (fun x => s_word x) Tryz.call243) LkAll.nil)))) ?_
  refine L rfl rfl (PStep.pickAnd rfl (Lk.t rfl) (fun hq => Lk.g rfl hq)) ?_
  refine L rfl rfl (PStep.move rfl (Lk.t rfl)) ?_
  refine LW rfl (WStep.guard rfl rfl rfl rfl (fun hg => PStep.move rfl (Lk.t rfl))) ?_
  refine LW rfl (WStep.guard rfl rfl rfl rfl (fun hg => PStep.call (s_keyword _ (by have hg_ := hg; (try simp only [decide_eq_true_eq, decide_eq_false_iff_not, Bool.and_eq_true, Bool.or_eq_true, Bool.not_eq_true', Bool.not_eq_false', Bool.and_eq_false_iff, Bool.or_eq_false_iff] at hg_); omega)) Tryz.call244 rfl (LkAll.cons (Lk.g rfl hg) LkAll.nil))) ?_
  refine LW rfl (WStep.guard rfl rfl rfl rfl (fun hg => PStep.not rfl (Lk.g rfl hg))) ?_
  refine L rfl rfl (PStep.pickAnd rfl (Lk.t rfl) (fun hq => Lk.g rfl hq)) ?_
  refine L rfl rfl (PStep.assign rfl (Lk.t rfl)) ?_
  refine TrL.nil ?_
  refine TrE.seq ?_
  refine TrC.ret (?_)
  refine TrE.retOK (RetOK.eq (?_ : _ = _) (RetOK.tmp rfl (Lk.t rfl) (List.nil_sublist _)))
  rfl
theorem s_Major (s : ByteArray) (hs : s.size < 4294967281) : Fn Tryz.prog 186 [pS s] (pTup [pI (lexMajor s).1, pI (lexMajor s).2]) := by
  have hp0 := partsOf_pos s
  have hp1 := partsOf_le s
  refine Spec.mk Tryz.func186 rfl rfl fun B => ?_
  refine TrC.seq ?_
  refine TrC.region rfl ?_
  refine L rfl rfl (PStep.assign rfl Lk.c) ?_
  refine L rfl rfl (PStep.assign rfl Lk.c) ?_
  refine TrL.nil ?_
  refine TrE.seq ?_
  refine TrC.seq ?_
  refine TrC.region rfl ?_
  refine L rfl rfl (PStep.move rfl (Lk.t rfl)) ?_
  refine L rfl rfl (PStep.call (s_Parts s (by omega)) Tryz.call212 rfl (LkAll.cons (Lk.t rfl) (LkAll.cons Lk.c LkAll.nil))) ?_
  refine L rfl rfl (PStep.assign rfl (Lk.t rfl)) ?_
  refine TrL.nil ?_
  refine TrE.seq ?_
  refine TrC.seq ?_
  refine TrC.region rfl ?_
  refine L rfl rfl (PStep.move rfl (Lk.t rfl)) ?_
  refine L rfl rfl (PStep.move rfl (Lk.t rfl)) ?_
  refine L rfl rfl (PStep.len (tys := #[]) Tryz.runUnderlying42 rfl (Lk.t rfl)) ?_
  refine L rfl rfl (PStep.sub64 rfl (Lk.t rfl) Lk.c (by change _ ≤ ((partsOf s).length : Int) - 1 ∧ ((partsOf s).length : Int) - 1 ≤ _; omega)) ?_
  refine L rfl rfl (PStep.ixD Tryz.runUnderlying42 Tryz.sizeOf9 rfl (Lk.t rfl) (Lk.t rfl) (by change _ ≤ ((partsOf s).length : Int) - 1 ∧ ((partsOf s).length : Int) - 1 < ((partsOf s).length : Int); omega)) ?_
  refine L rfl rfl (PStep.ldRef Tryz.isAgg9 rfl (Lk.t rfl) rfl) ?_
  refine L rfl rfl (PStep.call (s_lexVersion _) Tryz.call213 rfl (LkAll.cons (Lk.t rfl) LkAll.nil)) ?_
  refine L rfl rfl (PStep.move rfl (Lk.t rfl)) ?_
  refine L rfl rfl (PStep.extract rfl (Lk.t rfl) rfl) ?_
  refine L rfl rfl (PStep.extract rfl (Lk.t rfl) rfl) ?_
  refine L rfl rfl (PStep.assign rfl (Lk.t rfl)) ?_
  refine L rfl rfl (PStep.assign rfl (Lk.t rfl)) ?_
  refine TrL.nil ?_
  refine TrE.seq ?_
  refine TrC.seq ?_
  refine TrC.seq ?_
  refine TrC.region rfl ?_
  refine L rfl rfl (PStep.move rfl (Lk.t rfl)) ?_
  refine L rfl rfl (PStep.not rfl (Lk.t rfl)) ?_
  refine L rfl rfl (PStep.move rfl (Lk.t rfl)) ?_
  refine LW rfl (WStep.guard rfl rfl rfl rfl (fun hg => PStep.move rfl (Lk.t rfl))) ?_
  refine LW rfl (WStep.guard rfl rfl rfl rfl (fun hg => PStep.slen Tryz.runUnderlying9 rfl (Lk.g rfl hg))) ?_
  refine LW rfl (WStep.guard rfl rfl rfl rfl (fun hg => PStep.gtr rfl (Lk.g rfl hg) Lk.c)) ?_
  refine L rfl rfl (PStep.pickOr rfl (Lk.t rfl) (fun hq => Lk.g rfl hq)) ?_
  refine L rfl rfl (PStep.move rfl (Lk.t rfl)) ?_
  refine LW rfl (WStep.guard rfl rfl rfl rfl (fun hg => PStep.move rfl (Lk.t rfl))) ?_
  refine LW rfl (WStep.guard rfl rfl rfl rfl (fun hg => PStep.len (tys := #[]) Tryz.runUnderlying42 rfl (Lk.g rfl hg))) ?_
  refine LW rfl (WStep.guard rfl rfl rfl rfl (fun hg => PStep.lss rfl (Lk.g rfl hg) Lk.c)) ?_
  refine L rfl rfl (PStep.pickOr rfl (Lk.t rfl) (fun hq => Lk.g rfl hq)) ?_
  refine TrL.nil ?_
  refine TrE.seq ?_
  refine TrC.condB (Lk.t rfl) (fun hc1 => ?_) (fun hc1 => ?_)
  · have hs1 := hc1
    try simp only [decide_eq_true_eq, decide_eq_false_iff_not, Bool.and_eq_true, Bool.or_eq_true, Bool.not_eq_true', Bool.not_eq_false', Bool.and_eq_false_iff, Bool.or_eq_false_iff] at hs1
    refine TrC.seq ?_
    refine TrC.region rfl ?_
    refine L rfl rfl (PStep.assign rfl Lk.c) ?_
    refine L rfl rfl (PStep.assign rfl Lk.c) ?_
    refine TrL.nil ?_
    refine TrE.seq ?_
    refine TrC.ret (TrE.thenR <| ?_)
    refine TrE.retOK (RetOK.eq (?_ : _ = _) (RetOK.tmp2 rfl (Lk.t rfl) (Lk.t rfl) (List.nil_sublist _)))
    rw [show lexMajor s = (0, 4) from if_pos hc1]
    all_goals rfl
  · have hs1 := hc1
    try simp only [decide_eq_true_eq, decide_eq_false_iff_not, Bool.and_eq_true, Bool.or_eq_true, Bool.not_eq_true', Bool.not_eq_false', Bool.and_eq_false_iff, Bool.or_eq_false_iff] at hs1
    refine TrC.skip ?_
    refine TrE.seq ?_
    refine TrC.seq ?_
    refine TrC.seq ?_
    refine TrC.region rfl ?_
    refine L rfl rfl (PStep.move rfl (Lk.t rfl)) ?_
    refine L rfl rfl (PStep.len (tys := #[]) Tryz.runUnderlying42 rfl (Lk.t rfl)) ?_
    refine L rfl rfl (PStep.move rfl Lk.c) ?_
    refine TrL.nil ?_
    refine TrE.seq ?_
    refine TrC.block ?_
    refine TrC.loopM (X := Nat) (fun i => i ≤ (partsOf s).length ∧ ((partsOf s).drop i).any badPart = (partsOf s).any badPart) (fun i => [(35, pI i)]) [(2, _), (3, _), (5, _), (33, _), (34, _)] (fun i A => A) (fun i => (partsOf s).length - i) (0) (⟨by omega, rfl⟩) (EnvSub.cons rfl (EnvSub.cons rfl (EnvSub.cons rfl (EnvSub.cons rfl (EnvSub.cons rfl (EnvSub.cons rfl EnvSub.nil)))))) rfl ?_
    rintro i ⟨hi, hI⟩
    have hsz : (Lib.splitB ⟨#[47]⟩ 0 (Lib.countB s ⟨#[47]⟩) s).length ≤ s.size + 1 := hp1
    refine TrC.seq ?_
    refine TrC.region rfl ?_
    refine L rfl rfl (PStep.lss rfl (Lk.t rfl) (Lk.t rfl)) ?_
    refine TrL.nil ?_
    refine TrE.seq ?_
    refine TrC.seq ?_
    refine TrC.condD (Lk.t rfl) (fun hc2 => ?_) (fun hc2 => ?_)
    · refine TrC.skip ?_
      refine TrE.seq ?_
      refine TrC.seq ?_
      refine TrC.block ?_
      refine TrC.seq ?_
      refine TrC.region rfl ?_
      refine L rfl rfl (PStep.ixD Tryz.runUnderlying42 Tryz.sizeOf9 rfl (Lk.t rfl) (Lk.t rfl) (by omega)) ?_
      refine L rfl rfl (PStep.ldRef Tryz.isAgg9 rfl (Lk.t rfl) rfl) ?_
      refine L rfl rfl (PStep.assign rfl (Lk.t rfl)) ?_
      refine TrL.nil ?_
      refine TrE.seq ?_
      refine TrC.seq ?_
      refine TrC.region rfl ?_
      refine L rfl rfl (PStep.move rfl (Lk.t rfl)) ?_
      refine L rfl rfl (PStep.call (s_IsName _) Tryz.call214 rfl (LkAll.cons (Lk.t rfl) LkAll.nil)) ?_
      refine L rfl rfl (PStep.not rfl (Lk.t rfl)) ?_
      refine L rfl rfl (PStep.move rfl (Lk.t rfl)) ?_
      refine LW rfl (WStep.guard rfl rfl rfl rfl (fun hg => PStep.move rfl (Lk.t rfl))) ?_
      refine LW rfl (WStep.guard rfl rfl rfl rfl (fun hg => PStep.call (s_all _ _ (isName_size (by simpa using hg))) Tryz.call215 rfl (LkAll.cons (Lk.g rfl hg) (LkAll.cons (Lk.fn (fun x => s_Major1 x) Tryz.call216) LkAll.nil)))) ?_
      refine LW rfl (WStep.guard rfl rfl rfl rfl (fun hg => PStep.not rfl (Lk.g rfl hg))) ?_
      refine L rfl rfl (PStep.pickOr rfl (Lk.t rfl) (fun hq => Lk.g rfl hq)) ?_
      refine TrL.nil ?_
      refine TrE.seq ?_
      refine TrC.condB (Lk.t rfl) (fun hc3 => ?_) (fun hc3 => ?_)
      · have hs3 := hc3
        try simp only [decide_eq_true_eq, decide_eq_false_iff_not, Bool.and_eq_true, Bool.or_eq_true, Bool.not_eq_true', Bool.not_eq_false', Bool.and_eq_false_iff, Bool.or_eq_false_iff] at hs3
        refine TrC.seq ?_
        refine TrC.region rfl ?_
        refine L rfl rfl (PStep.assign rfl Lk.c) ?_
        refine L rfl rfl (PStep.assign rfl Lk.c) ?_
        refine TrL.nil ?_
        refine TrE.seq ?_
        refine TrC.ret (TrE.blockR <| TrE.thenR <| TrE.thenR <| TrE.blockR <| TrE.thenR <| ?_)
        refine TrE.retOK (RetOK.eq (?_ : _ = _) (RetOK.tmp2 rfl (Lk.t rfl) (Lk.t rfl) (List.nil_sublist _)))
        rw [show lexMajor s = (0, 4) from (if_neg (ne_true_of_eq_false hc1)).trans (if_pos (any_hit (s := partsOf s) hc2 hc3 hI))]
        all_goals rfl
      · have hs3 := hc3
        try simp only [decide_eq_true_eq, decide_eq_false_iff_not, Bool.and_eq_true, Bool.or_eq_true, Bool.not_eq_true', Bool.not_eq_false', Bool.and_eq_false_iff, Bool.or_eq_false_iff] at hs3
        refine TrC.skip ?_
        refine TrE.blockN ?_
        refine TrE.seq ?_
        refine TrC.region rfl ?_
        refine L rfl rfl (PStep.add64 rfl (Lk.t rfl) Lk.c (by omega)) ?_
        refine L rfl rfl (PStep.move rfl (Lk.t rfl)) ?_
        refine TrL.nil ?_
        refine TrE.again (i + 1) (⟨by change (i : Int) < (partsOf s).length at hc2; omega, any_step hc2 (by exact hc3) hI⟩) ((by change (i : Int) < (partsOf s).length at hc2; omega)) (EnvSub.cons rfl (EnvSub.cons rfl (EnvSub.cons rfl (EnvSub.cons rfl (EnvSub.cons rfl (EnvSub.cons rfl EnvSub.nil)))))) rfl
    · refine TrC.exit (TrE.thenX <| TrE.thenX <| TrE.blockHit <| ?_)
      refine TrE.seq ?_
      refine TrC.seq ?_
      refine TrC.region rfl ?_
      refine L rfl rfl (PStep.move rfl (Lk.t rfl)) ?_
      refine L rfl rfl (PStep.assign rfl (Lk.t rfl)) ?_
      refine L rfl rfl (PStep.assign rfl Lk.c) ?_
      refine TrL.nil ?_
      refine TrE.seq ?_
      refine TrC.ret (?_)
      refine TrE.retOK (RetOK.eq (?_ : _ = _) (RetOK.tmp2 rfl (Lk.t rfl) (Lk.t rfl) (List.nil_sublist _)))
      rw [show lexMajor s = ((lexVersion (lastOf s)).1, 0) from (if_neg (ne_true_of_eq_false hc1)).trans (if_neg (ne_true_of_eq_false (any_end (s := partsOf s) hc2 hI)))]; rfl
      all_goals rfl
theorem s_IsPath (s : ByteArray) (hs : s.size < 4294967281) : Fn Tryz.prog 187 [pS s] (pB (lexIsPath s)) := by
  refine Spec.mk Tryz.func187 rfl rfl fun B => ?_
  refine TrC.seq ?_
  refine TrC.region rfl ?_
  refine L rfl rfl (PStep.assign rfl Lk.c) ?_
  refine TrL.nil ?_
  refine TrE.seq ?_
  refine TrC.seq ?_
  refine TrC.region rfl ?_
  refine L rfl rfl (PStep.move rfl (Lk.t rfl)) ?_
  refine L rfl rfl (PStep.call (s_Major _ (by omega)) Tryz.call186 rfl (LkAll.cons (Lk.t rfl) LkAll.nil)) ?_
  refine L rfl rfl (PStep.move rfl (Lk.t rfl)) ?_
  refine L rfl rfl (PStep.extract rfl (Lk.t rfl) rfl) ?_
  refine L rfl rfl (PStep.extract rfl (Lk.t rfl) rfl) ?_
  refine L rfl rfl (PStep.assign rfl (Lk.t rfl)) ?_
  refine L rfl rfl (PStep.assign rfl (Lk.t rfl)) ?_
  refine TrL.nil ?_
  refine TrE.seq ?_
  refine TrC.seq ?_
  refine TrC.region rfl ?_
  refine L rfl rfl (PStep.move rfl (Lk.t rfl)) ?_
  refine L rfl rfl (PStep.eql rfl (Lk.t rfl) Lk.c) ?_
  refine L rfl rfl (PStep.assign rfl (Lk.t rfl)) ?_
  refine TrL.nil ?_
  refine TrE.seq ?_
  refine TrC.ret (?_)
  refine TrE.retOK (RetOK.eq (?_ : _ = _) (RetOK.tmp rfl (Lk.t rfl) (List.nil_sublist _)))
  rfl
end Go.Mp
set_option maxRecDepth 100000
set_option maxHeartbeats 4000000
set_option linter.unusedVariables false
set_option linter.unusedSimpArgs false
namespace Go.Mp
open Go Go.Proofs
theorem s_parts (v : Version) : Fn Tryz.prog 138 [pT v] (pAgg (flat (v3 v))) := by
  refine Spec.mk Tryz.func138 rfl rfl fun B => ?_
  refine TrC.seq ?_
  refine TrC.region rfl ?_
  refine TrL.alloc (AStep.boxK rfl rfl (Lk.t rfl)) rfl (fun b1 => ?_)
  refine TrL.alloc (AStep.alloc Tryz.zeroValue195 rfl (zc195) rfl rfl) rfl (fun b2 => ?_)
  refine TrL.nil ?_
  refine TrE.seq ?_
  refine TrC.seq ?_
  refine TrC.region rfl ?_
  refine L rfl rfl (PStep.faLoc fo57_0 rfl (Lk.t rfl)) ?_
  refine L rfl rfl (PStep.ldLoc 1 Tryz.isAgg3 rfl (Lk.t rfl) rfl rfl) ?_
  refine L rfl rfl (PStep.faLoc fo57_1 rfl (Lk.t rfl)) ?_
  refine L rfl rfl (PStep.ldLoc 1 Tryz.isAgg3 rfl (Lk.t rfl) rfl rfl) ?_
  refine L rfl rfl (PStep.faLoc fo57_2 rfl (Lk.t rfl)) ?_
  refine L rfl rfl (PStep.ldLoc 1 Tryz.isAgg3 rfl (Lk.t rfl) rfl rfl) ?_
  refine L rfl rfl (PStep.buildA (ps := flat (v3 v)) [(0, _), (1, _), (2, _)] arT195 rfl zc195 rfl rfl ⟨⟨rfl, Nat.le_of_ble_eq_true rfl, Lk.cs1 (Lk.t rfl)⟩, ⟨rfl, Nat.le_of_ble_eq_true rfl, Lk.cs1 (Lk.t rfl)⟩, ⟨rfl, Nat.le_of_ble_eq_true rfl, Lk.cs1 (Lk.t rfl)⟩, trivial⟩ rfl) ?_
  refine LS rfl rfl (Step.storeW 0 Tryz.sizeOf195 rfl (Lk.t rfl) (Lk.t rfl) rfl rfl rfl) ?_
  refine TrL.nil ?_
  refine TrE.seq ?_
  refine TrC.ret (?_)
  refine TrE.retOK (RetOK.eq (?_ : _ = _) (RetOK.cell 0 Tryz.isAgg195 Tryz.sizeOf195 rfl (Lk.t rfl) rfl rfl (List.nil_sublist _)))
  rfl
theorem s_Valid (v : Version) : Fn Tryz.prog 100 [pT v] (pB (validV v)) := by
  refine Spec.mk Tryz.func100 rfl rfl fun B => ?_
  refine TrC.seq ?_
  refine TrC.region rfl ?_
  refine TrL.alloc (AStep.boxK rfl rfl (Lk.t rfl)) rfl (fun b1 => ?_)
  refine L rfl rfl (PStep.assign rfl Lk.c) ?_
  refine TrL.nil ?_
  refine TrE.seq ?_
  refine TrC.seq ?_
  refine TrC.seq ?_
  refine TrC.region rfl ?_
  refine L rfl rfl (PStep.ldLocV (α := Version) 0 Tryz.isAgg57 Tryz.sizeOf57 rfl (Lk.t rfl) rfl rfl) ?_
  refine L rfl rfl (PStep.call (s_parts _) Tryz.call138 rfl (LkAll.cons (Lk.t rfl) LkAll.nil)) ?_
  refine L rfl rfl (PStep.move rfl Lk.c) ?_
  refine TrL.nil ?_
  refine TrE.seq ?_
  refine TrC.block ?_
  refine TrC.loopM (X := Nat) (fun i => i ≤ 3 ∧ ((v3 v).drop i).any badNum = (v3 v).any badNum) (fun i => [(7, pI i)]) [(2, _), (6, _)] (fun i A => A) (fun i => 3 - i) (0) (⟨by omega, rfl⟩) (EnvSub.cons rfl (EnvSub.cons rfl (EnvSub.cons rfl EnvSub.nil))) rfl ?_
  rintro i ⟨hi, hI⟩
  refine TrC.seq ?_
  refine TrC.region rfl ?_
  refine L rfl rfl (PStep.lss rfl (Lk.t rfl) Lk.c) ?_
  refine TrL.nil ?_
  refine TrE.seq ?_
  refine TrC.seq ?_
  refine TrC.condD (Lk.t rfl) (fun hc1 => ?_) (fun hc1 => ?_)
  · refine TrC.skip ?_
    refine TrE.seq ?_
    refine TrC.seq ?_
    refine TrC.block ?_
    refine TrC.seq ?_
    refine TrC.region rfl ?_
    refine L rfl rfl (PStep.indexA (xs := v3 v) (pI _) Tryz.runUnderlying195 Tryz.sizeOf3 Tryz.isAgg3 rfl rfl (Lk.t rfl) (Lk.t rfl) (by change 0 ≤ _ ∧ _ < (3 : Int); omega) rfl) ?_
    refine L rfl rfl (PStep.assign rfl (Lk.t rfl)) ?_
    refine TrL.nil ?_
    refine TrE.seq ?_
    refine TrC.seq ?_
    refine TrC.region rfl ?_
    refine L rfl rfl (PStep.move rfl (Lk.t rfl)) ?_
    refine L rfl rfl (PStep.lss rfl (Lk.t rfl) Lk.c) ?_
    refine L rfl rfl (PStep.move rfl (Lk.t rfl)) ?_
    refine LW rfl (WStep.guard rfl rfl rfl rfl (fun hg => PStep.move rfl (Lk.t rfl))) ?_
    refine LW rfl (WStep.guard rfl rfl rfl rfl (fun hg => PStep.gtr rfl (Lk.g rfl hg) Lk.c)) ?_
    refine L rfl rfl (PStep.pickOr rfl (Lk.t rfl) (fun hq => Lk.g rfl hq)) ?_
    refine TrL.nil ?_
    refine TrE.seq ?_
    refine TrC.condB (Lk.t rfl) (fun hc2 => ?_) (fun hc2 => ?_)
    · have hs2 := hc2
      try simp only [decide_eq_true_eq, decide_eq_false_iff_not, Bool.and_eq_true, Bool.or_eq_true, Bool.not_eq_true', Bool.not_eq_false', Bool.and_eq_false_iff, Bool.or_eq_false_iff] at hs2
      refine TrC.seq ?_
      refine TrC.region rfl ?_
      refine L rfl rfl (PStep.assign rfl Lk.c) ?_
      refine TrL.nil ?_
      refine TrE.seq ?_
      refine TrC.ret (TrE.blockR <| TrE.thenR <| TrE.thenR <| TrE.blockR <| TrE.thenR <| ?_)
      refine TrE.retOK (RetOK.eq (?_ : _ = _) (RetOK.tmp rfl (Lk.t rfl) (List.nil_sublist _)))
      exact congrArg (fun b => pB (!b)) (any_hit (s := v3 v) hc1 hc2 hI).symm
    · have hs2 := hc2
      try simp only [decide_eq_true_eq, decide_eq_false_iff_not, Bool.and_eq_true, Bool.or_eq_true, Bool.not_eq_true', Bool.not_eq_false', Bool.and_eq_false_iff, Bool.or_eq_false_iff] at hs2
      refine TrC.skip ?_
      refine TrE.blockN ?_
      refine TrE.seq ?_
      refine TrC.region rfl ?_
      refine L rfl rfl (PStep.add64 rfl (Lk.t rfl) Lk.c (by omega)) ?_
      refine L rfl rfl (PStep.move rfl (Lk.t rfl)) ?_
      refine TrL.nil ?_
      refine TrE.again (i + 1) (⟨by omega, any_step (s := v3 v) hc1 (by exact hc2) hI⟩) (by first | omega | (simp only []; omega)) (EnvSub.cons rfl (EnvSub.cons rfl (EnvSub.cons rfl EnvSub.nil))) rfl
  · refine TrC.exit (TrE.thenX <| TrE.thenX <| TrE.blockHit <| ?_)
    refine TrE.seq ?_
    refine TrC.seq ?_
    refine TrC.region rfl ?_
    refine L rfl rfl (PStep.assign rfl Lk.c) ?_
    refine TrL.nil ?_
    refine TrE.seq ?_
    refine TrC.ret (?_)
    refine TrE.retOK (RetOK.eq (?_ : _ = _) (RetOK.tmp rfl (Lk.t rfl) (List.nil_sublist _)))
    exact congrArg (fun b => pB (!b)) (any_end (s := v3 v) hc1 hI).symm
theorem s_Line (p : ByteArray) (hs : p.size < 4294967281) : Fn Tryz.prog 155 [pS p] (pTup [pS (lineOf p).1, pI (lineOf p).2.1, pI (lineOf p).2.2]) := by
  refine Spec.mk Tryz.func155 rfl rfl fun B => ?_
  refine TrC.seq ?_
  refine TrC.region rfl ?_
  refine L rfl rfl (PStep.assign rfl Lk.c) ?_
  refine L rfl rfl (PStep.assign rfl Lk.c) ?_
  refine L rfl rfl (PStep.assign rfl Lk.c) ?_
  refine TrL.nil ?_
  refine TrE.seq ?_
  refine TrC.seq ?_
  refine TrC.region rfl ?_
  refine L rfl rfl (PStep.move rfl (Lk.t rfl)) ?_
  refine L rfl rfl (PStep.call (s_Major _ (by omega)) Tryz.call186 rfl (LkAll.cons (Lk.t rfl) LkAll.nil)) ?_
  refine L rfl rfl (PStep.move rfl (Lk.t rfl)) ?_
  refine L rfl rfl (PStep.extract rfl (Lk.t rfl) rfl) ?_
  refine L rfl rfl (PStep.extract rfl (Lk.t rfl) rfl) ?_
  refine L rfl rfl (PStep.assign rfl (Lk.t rfl)) ?_
  refine L rfl rfl (PStep.assign rfl (Lk.t rfl)) ?_
  refine TrL.nil ?_
  refine TrE.seq ?_
  refine TrC.seq ?_
  refine TrC.seq ?_
  refine TrC.region rfl ?_
  refine L rfl rfl (PStep.move rfl (Lk.t rfl)) ?_
  refine L rfl rfl (PStep.call (s_IsPath _ (by omega)) Tryz.call187 rfl (LkAll.cons (Lk.t rfl) LkAll.nil)) ?_
  refine L rfl rfl (PStep.not rfl (Lk.t rfl)) ?_
  refine L rfl rfl (PStep.move rfl (Lk.t rfl)) ?_
  refine LW rfl (WStep.guard rfl rfl rfl rfl (fun hg => PStep.move rfl (Lk.t rfl))) ?_
  refine LW rfl (WStep.guard rfl rfl rfl rfl (fun hg => PStep.neq rfl (Lk.g rfl hg) Lk.c)) ?_
  refine L rfl rfl (PStep.pickOr rfl (Lk.t rfl) (fun hq => Lk.g rfl hq)) ?_
  refine TrL.nil ?_
  refine TrE.seq ?_
  refine TrC.condB (Lk.t rfl) (fun hc1 => ?_) (fun hc1 => ?_)
  · have hs1 := hc1
    try simp only [decide_eq_true_eq, decide_eq_false_iff_not, Bool.and_eq_true, Bool.or_eq_true, Bool.not_eq_true', Bool.not_eq_false', Bool.and_eq_false_iff, Bool.or_eq_false_iff] at hs1
    refine TrC.seq ?_
    refine TrC.region rfl ?_
    refine L rfl rfl (PStep.assign rfl Lk.c) ?_
    refine L rfl rfl (PStep.assign rfl Lk.c) ?_
    refine L rfl rfl (PStep.assign rfl Lk.c) ?_
    refine TrL.nil ?_
    refine TrE.seq ?_
    refine TrC.ret (TrE.thenR <| ?_)
    refine TrE.retOK (RetOK.eq (?_ : _ = _) (RetOK.tmp3 rfl (Lk.t rfl) (Lk.t rfl) (Lk.t rfl) (List.nil_sublist _)))
    rw [show lineOf p = (⟨#[]⟩, 0, 4) from if_pos hc1]
    all_goals rfl
  · have hs1 := hc1
    try simp only [decide_eq_true_eq, decide_eq_false_iff_not, Bool.and_eq_true, Bool.or_eq_true, Bool.not_eq_true', Bool.not_eq_false', Bool.and_eq_false_iff, Bool.or_eq_false_iff] at hs1
    refine TrC.skip ?_
    refine TrE.seq ?_
    refine TrC.seq ?_
    refine TrC.region rfl ?_
    refine L rfl rfl (PStep.move rfl (Lk.t rfl)) ?_
    refine L rfl rfl (PStep.move rfl (Lk.t rfl)) ?_
    refine L rfl rfl (PStep.call (s_Slash p (by omega)) Tryz.call188 rfl (LkAll.cons (Lk.t rfl) (LkAll.cons Lk.c LkAll.nil))) ?_
    refine L rfl rfl (PStep.sslI _ _ Tryz.runUnderlying9 rfl (Lk.t rfl) rfl ⟨_, (Lk.t rfl)⟩ (by have := slash_ok p (major_ok p (by simpa using hs1.2)); omega)) ?_
    refine L rfl rfl (PStep.move rfl (Lk.t rfl)) ?_
    refine L rfl rfl (PStep.assign rfl (Lk.t rfl)) ?_
    refine L rfl rfl (PStep.assign rfl (Lk.t rfl)) ?_
    refine L rfl rfl (PStep.assign rfl Lk.c) ?_
    refine TrL.nil ?_
    refine TrE.seq ?_
    refine TrC.ret (?_)
    refine TrE.retOK (RetOK.eq (?_ : _ = _) (RetOK.tmp3 rfl (Lk.t rfl) (Lk.t rfl) (Lk.t rfl) (List.nil_sublist _)))
    rw [show lineOf p = (p.extract 0 (slash p).toNat, (lexMajor p).1, 0) from if_neg (ne_true_of_eq_false hc1)]
    all_goals rfl
theorem s_isNaNs (s : ByteArray) : Fn Tryz.prog 189 [pS s] (pB false) := by
  refine Spec.mk Tryz.func189 rfl rfl fun B => ?_
  refine TrC.seq ?_
  refine TrC.region rfl ?_
  refine L rfl rfl (PStep.assign rfl Lk.c) ?_
  refine TrL.nil ?_
  refine TrE.seq ?_
  refine TrC.seq ?_
  refine TrC.region rfl ?_
  refine L rfl rfl (PStep.move rfl (Lk.t rfl)) ?_
  refine L rfl rfl (PStep.move rfl (Lk.t rfl)) ?_
  refine L rfl rfl (PStep.sneq rfl (Lk.t rfl) (Lk.t rfl)) ?_
  refine L rfl rfl (PStep.assign rfl (Lk.t rfl)) ?_
  refine TrL.nil ?_
  refine TrE.seq ?_
  refine TrC.ret (?_)
  refine TrE.retOK (RetOK.eq (?_ : _ = _) (RetOK.tmp rfl (Lk.t rfl) (List.nil_sublist _)))
  simp
theorem s_isNaNi (s : Int) : Fn Tryz.prog 221 [pI s] (pB false) := by
  refine Spec.mk Tryz.func221 rfl rfl fun B => ?_
  refine TrC.seq ?_
  refine TrC.region rfl ?_
  refine L rfl rfl (PStep.assign rfl Lk.c) ?_
  refine TrL.nil ?_
  refine TrE.seq ?_
  refine TrC.seq ?_
  refine TrC.region rfl ?_
  refine L rfl rfl (PStep.move rfl (Lk.t rfl)) ?_
  refine L rfl rfl (PStep.move rfl (Lk.t rfl)) ?_
  refine L rfl rfl (PStep.neq rfl (Lk.t rfl) (Lk.t rfl)) ?_
  refine L rfl rfl (PStep.assign rfl (Lk.t rfl)) ?_
  refine TrL.nil ?_
  refine TrE.seq ?_
  refine TrC.ret (?_)
  refine TrE.retOK (RetOK.eq (?_ : _ = _) (RetOK.tmp rfl (Lk.t rfl) (List.nil_sublist _)))
  simp
theorem s_cmpS (s t : ByteArray) : Fn Tryz.prog 157 [pS s, pS t] (pI (cmpS s t)) := by
  refine Spec.mk Tryz.func157 rfl rfl fun B => ?_
  refine TrC.seq ?_
  refine TrC.region rfl ?_
  refine L rfl rfl (PStep.assign rfl Lk.c) ?_
  refine TrL.nil ?_
  refine TrE.seq ?_
  refine TrC.seq ?_
  refine TrC.region rfl ?_
  refine L rfl rfl (PStep.move rfl (Lk.t rfl)) ?_
  refine L rfl rfl (PStep.call (s_isNaNs _) Tryz.call189 rfl (LkAll.cons (Lk.t rfl) LkAll.nil)) ?_
  refine L rfl rfl (PStep.assign rfl (Lk.t rfl)) ?_
  refine TrL.nil ?_
  refine TrE.seq ?_
  refine TrC.seq ?_
  refine TrC.region rfl ?_
  refine L rfl rfl (PStep.move rfl (Lk.t rfl)) ?_
  refine L rfl rfl (PStep.call (s_isNaNs _) Tryz.call189 rfl (LkAll.cons (Lk.t rfl) LkAll.nil)) ?_
  refine L rfl rfl (PStep.assign rfl (Lk.t rfl)) ?_
  refine TrL.nil ?_
  refine TrE.seq ?_
  refine TrC.seq ?_
  refine TrC.seq ?_
  refine TrC.region rfl ?_
  refine L rfl rfl (PStep.move rfl (Lk.t rfl)) ?_
  refine TrL.nil ?_
  refine TrE.seq ?_
  refine TrC.condB (Lk.t rfl) (fun hc1 => ?_) (fun hc1 => ?_)
  · have hs1 := hc1
    try simp only [decide_eq_true_eq, decide_eq_false_iff_not, Bool.and_eq_true, Bool.or_eq_true, Bool.not_eq_true', Bool.not_eq_false', Bool.and_eq_false_iff, Bool.or_eq_false_iff] at hs1
    refine TrC.seq ?_
    refine TrC.seq ?_
    refine TrC.region rfl ?_
    refine L rfl rfl (PStep.move rfl (Lk.t rfl)) ?_
    refine TrL.nil ?_
    refine TrE.seq ?_
    refine TrC.condB (Lk.t rfl) (fun hc2 => ?_) (fun hc2 => ?_)
    · have hs2 := hc2
      try simp only [decide_eq_true_eq, decide_eq_false_iff_not, Bool.and_eq_true, Bool.or_eq_true, Bool.not_eq_true', Bool.not_eq_false', Bool.and_eq_false_iff, Bool.or_eq_false_iff] at hs2
      refine TrC.seq ?_
      refine TrC.region rfl ?_
      refine L rfl rfl (PStep.assign rfl Lk.c) ?_
      refine TrL.nil ?_
      refine TrE.seq ?_
      refine TrC.ret (TrE.thenR <| TrE.thenR <| ?_)
      refine TrE.retOK (RetOK.eq (?_ : _ = _) (RetOK.tmp rfl (Lk.t rfl) (List.nil_sublist _)))
      exact absurd hc1 (by decide)
    · have hs2 := hc2
      try simp only [decide_eq_true_eq, decide_eq_false_iff_not, Bool.and_eq_true, Bool.or_eq_true, Bool.not_eq_true', Bool.not_eq_false', Bool.and_eq_false_iff, Bool.or_eq_false_iff] at hs2
      refine TrC.skip ?_
      refine TrE.seq ?_
      refine TrC.seq ?_
      refine TrC.region rfl ?_
      refine L rfl rfl (PStep.assign rfl Lk.c) ?_
      refine TrL.nil ?_
      refine TrE.seq ?_
      refine TrC.ret (TrE.thenR <| ?_)
      refine TrE.retOK (RetOK.eq (?_ : _ = _) (RetOK.tmp rfl (Lk.t rfl) (List.nil_sublist _)))
      exact absurd hc1 (by decide)
  · have hs1 := hc1
    try simp only [decide_eq_true_eq, decide_eq_false_iff_not, Bool.and_eq_true, Bool.or_eq_true, Bool.not_eq_true', Bool.not_eq_false', Bool.and_eq_false_iff, Bool.or_eq_false_iff] at hs1
    refine TrC.skip ?_
    refine TrE.seq ?_
    refine TrC.seq ?_
    refine TrC.seq ?_
    refine TrC.region rfl ?_
    refine L rfl rfl (PStep.move rfl (Lk.t rfl)) ?_
    refine TrL.nil ?_
    refine TrE.seq ?_
    refine TrC.condB (Lk.t rfl) (fun hc3 => ?_) (fun hc3 => ?_)
    · have hs3 := hc3
      try simp only [decide_eq_true_eq, decide_eq_false_iff_not, Bool.and_eq_true, Bool.or_eq_true, Bool.not_eq_true', Bool.not_eq_false', Bool.and_eq_false_iff, Bool.or_eq_false_iff] at hs3
      refine TrC.seq ?_
      refine TrC.region rfl ?_
      refine L rfl rfl (PStep.assign rfl Lk.c) ?_
      refine TrL.nil ?_
      refine TrE.seq ?_
      refine TrC.ret (TrE.thenR <| ?_)
      refine TrE.retOK (RetOK.eq (?_ : _ = _) (RetOK.tmp rfl (Lk.t rfl) (List.nil_sublist _)))
      exact absurd hc3 (by decide)
    · have hs3 := hc3
      try simp only [decide_eq_true_eq, decide_eq_false_iff_not, Bool.and_eq_true, Bool.or_eq_true, Bool.not_eq_true', Bool.not_eq_false', Bool.and_eq_false_iff, Bool.or_eq_false_iff] at hs3
      refine TrC.skip ?_
      refine TrE.seq ?_
      refine TrC.seq ?_
      refine TrC.seq ?_
      refine TrC.region rfl ?_
      refine L rfl rfl (PStep.move rfl (Lk.t rfl)) ?_
      refine L rfl rfl (PStep.move rfl (Lk.t rfl)) ?_
      refine L rfl rfl (PStep.slss rfl (Lk.t rfl) (Lk.t rfl)) ?_
      refine TrL.nil ?_
      refine TrE.seq ?_
      refine TrC.condB (Lk.t rfl) (fun hc4 => ?_) (fun hc4 => ?_)
      · have hs4 := hc4
        try simp only [decide_eq_true_eq, decide_eq_false_iff_not, Bool.and_eq_true, Bool.or_eq_true, Bool.not_eq_true', Bool.not_eq_false', Bool.and_eq_false_iff, Bool.or_eq_false_iff] at hs4
        refine TrC.seq ?_
        refine TrC.region rfl ?_
        refine L rfl rfl (PStep.assign rfl Lk.c) ?_
        refine TrL.nil ?_
        refine TrE.seq ?_
        refine TrC.ret (TrE.thenR <| ?_)
        refine TrE.retOK (RetOK.eq (?_ : _ = _) (RetOK.tmp rfl (Lk.t rfl) (List.nil_sublist _)))
        rw [show cmpS s t = -1 from if_pos hc4]
        all_goals rfl
      · have hs4 := hc4
        try simp only [decide_eq_true_eq, decide_eq_false_iff_not, Bool.and_eq_true, Bool.or_eq_true, Bool.not_eq_true', Bool.not_eq_false', Bool.and_eq_false_iff, Bool.or_eq_false_iff] at hs4
        refine TrC.skip ?_
        refine TrE.seq ?_
        refine TrC.seq ?_
        refine TrC.seq ?_
        refine TrC.region rfl ?_
        refine L rfl rfl (PStep.move rfl (Lk.t rfl)) ?_
        refine L rfl rfl (PStep.move rfl (Lk.t rfl)) ?_
        refine L rfl rfl (PStep.sgtr rfl (Lk.t rfl) (Lk.t rfl)) ?_
        refine TrL.nil ?_
        refine TrE.seq ?_
        refine TrC.condB (Lk.t rfl) (fun hc5 => ?_) (fun hc5 => ?_)
        · have hs5 := hc5
          try simp only [decide_eq_true_eq, decide_eq_false_iff_not, Bool.and_eq_true, Bool.or_eq_true, Bool.not_eq_true', Bool.not_eq_false', Bool.and_eq_false_iff, Bool.or_eq_false_iff] at hs5
          refine TrC.seq ?_
          refine TrC.region rfl ?_
          refine L rfl rfl (PStep.assign rfl Lk.c) ?_
          refine TrL.nil ?_
          refine TrE.seq ?_
          refine TrC.ret (TrE.thenR <| ?_)
          refine TrE.retOK (RetOK.eq (?_ : _ = _) (RetOK.tmp rfl (Lk.t rfl) (List.nil_sublist _)))
          rw [show cmpS s t = 1 from (if_neg (ne_true_of_eq_false hc4)).trans (if_pos hc5)]
          all_goals rfl
        · have hs5 := hc5
          try simp only [decide_eq_true_eq, decide_eq_false_iff_not, Bool.and_eq_true, Bool.or_eq_true, Bool.not_eq_true', Bool.not_eq_false', Bool.and_eq_false_iff, Bool.or_eq_false_iff] at hs5
          refine TrC.skip ?_
          refine TrE.seq ?_
          refine TrC.seq ?_
          refine TrC.region rfl ?_
          refine L rfl rfl (PStep.assign rfl Lk.c) ?_
          refine TrL.nil ?_
          refine TrE.seq ?_
          refine TrC.ret (?_)
          refine TrE.retOK (RetOK.eq (?_ : _ = _) (RetOK.tmp rfl (Lk.t rfl) (List.nil_sublist _)))
          rw [show cmpS s t = 0 from (if_neg (ne_true_of_eq_false hc4)).trans (if_neg (ne_true_of_eq_false hc5))]
          all_goals rfl
theorem s_cmpI (s t : Int) : Fn Tryz.prog 190 [pI s, pI t] (pI (cmpI s t)) := by
  refine Spec.mk Tryz.func190 rfl rfl fun B => ?_
  refine TrC.seq ?_
  refine TrC.region rfl ?_
  refine L rfl rfl (PStep.assign rfl Lk.c) ?_
  refine TrL.nil ?_
  refine TrE.seq ?_
  refine TrC.seq ?_
  refine TrC.region rfl ?_
  refine L rfl rfl (PStep.move rfl (Lk.t rfl)) ?_
  refine L rfl rfl (PStep.call (s_isNaNi _) Tryz.call221 rfl (LkAll.cons (Lk.t rfl) LkAll.nil)) ?_
  refine L rfl rfl (PStep.assign rfl (Lk.t rfl)) ?_
  refine TrL.nil ?_
  refine TrE.seq ?_
  refine TrC.seq ?_
  refine TrC.region rfl ?_
  refine L rfl rfl (PStep.move rfl (Lk.t rfl)) ?_
  refine L rfl rfl (PStep.call (s_isNaNi _) Tryz.call221 rfl (LkAll.cons (Lk.t rfl) LkAll.nil)) ?_
  refine L rfl rfl (PStep.assign rfl (Lk.t rfl)) ?_
  refine TrL.nil ?_
  refine TrE.seq ?_
  refine TrC.seq ?_
  refine TrC.seq ?_
  refine TrC.region rfl ?_
  refine L rfl rfl (PStep.move rfl (Lk.t rfl)) ?_
  refine TrL.nil ?_
  refine TrE.seq ?_
  refine TrC.condB (Lk.t rfl) (fun hc1 => ?_) (fun hc1 => ?_)
  · have hs1 := hc1
    try simp only [decide_eq_true_eq, decide_eq_false_iff_not, Bool.and_eq_true, Bool.or_eq_true, Bool.not_eq_true', Bool.not_eq_false', Bool.and_eq_false_iff, Bool.or_eq_false_iff] at hs1
    refine TrC.seq ?_
    refine TrC.seq ?_
    refine TrC.region rfl ?_
    refine L rfl rfl (PStep.move rfl (Lk.t rfl)) ?_
    refine TrL.nil ?_
    refine TrE.seq ?_
    refine TrC.condB (Lk.t rfl) (fun hc2 => ?_) (fun hc2 => ?_)
    · have hs2 := hc2
      try simp only [decide_eq_true_eq, decide_eq_false_iff_not, Bool.and_eq_true, Bool.or_eq_true, Bool.not_eq_true', Bool.not_eq_false', Bool.and_eq_false_iff, Bool.or_eq_false_iff] at hs2
      refine TrC.seq ?_
      refine TrC.region rfl ?_
      refine L rfl rfl (PStep.assign rfl Lk.c) ?_
      refine TrL.nil ?_
      refine TrE.seq ?_
      refine TrC.ret (TrE.thenR <| TrE.thenR <| ?_)
      refine TrE.retOK (RetOK.eq (?_ : _ = _) (RetOK.tmp rfl (Lk.t rfl) (List.nil_sublist _)))
      exact absurd hc1 (by decide)
    · have hs2 := hc2
      try simp only [decide_eq_true_eq, decide_eq_false_iff_not, Bool.and_eq_true, Bool.or_eq_true, Bool.not_eq_true', Bool.not_eq_false', Bool.and_eq_false_iff, Bool.or_eq_false_iff] at hs2
      refine TrC.skip ?_
      refine TrE.seq ?_
      refine TrC.seq ?_
      refine TrC.region rfl ?_
      refine L rfl rfl (PStep.assign rfl Lk.c) ?_
      refine TrL.nil ?_
      refine TrE.seq ?_
      refine TrC.ret (TrE.thenR <| ?_)
      refine TrE.retOK (RetOK.eq (?_ : _ = _) (RetOK.tmp rfl (Lk.t rfl) (List.nil_sublist _)))
      exact absurd hc1 (by decide)
  · have hs1 := hc1
    try simp only [decide_eq_true_eq, decide_eq_false_iff_not, Bool.and_eq_true, Bool.or_eq_true, Bool.not_eq_true', Bool.not_eq_false', Bool.and_eq_false_iff, Bool.or_eq_false_iff] at hs1
    refine TrC.skip ?_
    refine TrE.seq ?_
    refine TrC.seq ?_
    refine TrC.seq ?_
    refine TrC.region rfl ?_
    refine L rfl rfl (PStep.move rfl (Lk.t rfl)) ?_
    refine TrL.nil ?_
    refine TrE.seq ?_
    refine TrC.condB (Lk.t rfl) (fun hc3 => ?_) (fun hc3 => ?_)
    · have hs3 := hc3
      try simp only [decide_eq_true_eq, decide_eq_false_iff_not, Bool.and_eq_true, Bool.or_eq_true, Bool.not_eq_true', Bool.not_eq_false', Bool.and_eq_false_iff, Bool.or_eq_false_iff] at hs3
      refine TrC.seq ?_
      refine TrC.region rfl ?_
      refine L rfl rfl (PStep.assign rfl Lk.c) ?_
      refine TrL.nil ?_
      refine TrE.seq ?_
      refine TrC.ret (TrE.thenR <| ?_)
      refine TrE.retOK (RetOK.eq (?_ : _ = _) (RetOK.tmp rfl (Lk.t rfl) (List.nil_sublist _)))
      exact absurd hc3 (by decide)
    · have hs3 := hc3
      try simp only [decide_eq_true_eq, decide_eq_false_iff_not, Bool.and_eq_true, Bool.or_eq_true, Bool.not_eq_true', Bool.not_eq_false', Bool.and_eq_false_iff, Bool.or_eq_false_iff] at hs3
      refine TrC.skip ?_
      refine TrE.seq ?_
      refine TrC.seq ?_
      refine TrC.seq ?_
      refine TrC.region rfl ?_
      refine L rfl rfl (PStep.move rfl (Lk.t rfl)) ?_
      refine L rfl rfl (PStep.move rfl (Lk.t rfl)) ?_
      refine L rfl rfl (PStep.lss rfl (Lk.t rfl) (Lk.t rfl)) ?_
      refine TrL.nil ?_
      refine TrE.seq ?_
      refine TrC.condD (Lk.t rfl) (fun hc4 => ?_) (fun hc4 => ?_)
      · refine TrC.seq ?_
        refine TrC.region rfl ?_
        refine L rfl rfl (PStep.assign rfl Lk.c) ?_
        refine TrL.nil ?_
        refine TrE.seq ?_
        refine TrC.ret (TrE.thenR <| ?_)
        refine TrE.retOK (RetOK.eq (?_ : _ = _) (RetOK.tmp rfl (Lk.t rfl) (List.nil_sublist _)))
        rw [show cmpI s t = -1 from if_pos hc4]
        all_goals rfl
      · refine TrC.skip ?_
        refine TrE.seq ?_
        refine TrC.seq ?_
        refine TrC.seq ?_
        refine TrC.region rfl ?_
        refine L rfl rfl (PStep.move rfl (Lk.t rfl)) ?_
        refine L rfl rfl (PStep.move rfl (Lk.t rfl)) ?_
        refine L rfl rfl (PStep.gtr rfl (Lk.t rfl) (Lk.t rfl)) ?_
        refine TrL.nil ?_
        refine TrE.seq ?_
        refine TrC.condD (Lk.t rfl) (fun hc5 => ?_) (fun hc5 => ?_)
        · refine TrC.seq ?_
          refine TrC.region rfl ?_
          refine L rfl rfl (PStep.assign rfl Lk.c) ?_
          refine TrL.nil ?_
          refine TrE.seq ?_
          refine TrC.ret (TrE.thenR <| ?_)
          refine TrE.retOK (RetOK.eq (?_ : _ = _) (RetOK.tmp rfl (Lk.t rfl) (List.nil_sublist _)))
          rw [show cmpI s t = 1 from (if_neg hc4).trans (if_pos hc5)]
          all_goals rfl
        · refine TrC.skip ?_
          refine TrE.seq ?_
          refine TrC.seq ?_
          refine TrC.region rfl ?_
          refine L rfl rfl (PStep.assign rfl Lk.c) ?_
          refine TrL.nil ?_
          refine TrE.seq ?_
          refine TrC.ret (?_)
          refine TrE.retOK (RetOK.eq (?_ : _ = _) (RetOK.tmp rfl (Lk.t rfl) (List.nil_sublist _)))
          rw [show cmpI s t = 0 from (if_neg hc4).trans (if_neg hc5)]
          all_goals rfl
theorem s_Or (l : List Int) : Fn Tryz.prog 156 [pSl l] (pI (firstNZ l)) := by
  refine Spec.mk Tryz.func156 rfl rfl fun B => ?_
  refine TrC.know (Lk.t (t := 0) rfl) pSl.lt fun hl0 => ?_
  refine TrC.seq ?_
  refine TrC.region rfl ?_
  refine L rfl rfl (PStep.assign rfl Lk.c) ?_
  refine TrL.nil ?_
  refine TrE.seq ?_
  refine TrC.seq ?_
  refine TrC.region rfl ?_
  refine L rfl rfl (PStep.assign rfl Lk.c) ?_
  refine TrL.nil ?_
  refine TrE.seq ?_
  refine TrC.seq ?_
  refine TrC.seq ?_
  refine TrC.region rfl ?_
  refine L rfl rfl (PStep.move rfl (Lk.t rfl)) ?_
  refine L rfl rfl (PStep.len (tys := #[]) Tryz.runUnderlying154 rfl (Lk.t rfl)) ?_
  refine L rfl rfl (PStep.move rfl Lk.c) ?_
  refine TrL.nil ?_
  refine TrE.seq ?_
  refine TrC.block ?_
  refine TrC.loopM (X := Nat) (fun i => i ≤ l.length ∧ firstNZ (l.drop i) = firstNZ l) (fun i => [(8, pI i)]) [(2, _), (3, _), (6, _), (7, _)] (fun i A => A) (fun i => l.length - i) (0) (⟨by omega, rfl⟩) (EnvSub.cons rfl (EnvSub.cons rfl (EnvSub.cons rfl (EnvSub.cons rfl (EnvSub.cons rfl EnvSub.nil))))) rfl ?_
  rintro i ⟨hi, hI⟩
  refine TrC.seq ?_
  refine TrC.region rfl ?_
  refine L rfl rfl (PStep.lss rfl (Lk.t rfl) (Lk.t rfl)) ?_
  refine TrL.nil ?_
  refine TrE.seq ?_
  refine TrC.seq ?_
  refine TrC.condD (Lk.t rfl) (fun hc1 => ?_) (fun hc1 => ?_)
  · refine TrC.skip ?_
    refine TrE.seq ?_
    refine TrC.seq ?_
    refine TrC.block ?_
    refine TrC.seq ?_
    refine TrC.region rfl ?_
    refine L rfl rfl (PStep.ixD Tryz.runUnderlying154 Tryz.sizeOf3 rfl (Lk.t rfl) (Lk.t rfl) (by omega)) ?_
    refine L rfl rfl (PStep.ldRef Tryz.isAgg3 rfl (Lk.t rfl) rfl) ?_
    refine L rfl rfl (PStep.assign rfl (Lk.t rfl)) ?_
    refine TrL.nil ?_
    refine TrE.seq ?_
    refine TrC.seq ?_
    refine TrC.region rfl ?_
    refine L rfl rfl (PStep.move rfl (Lk.t rfl)) ?_
    refine L rfl rfl (PStep.move rfl (Lk.t rfl)) ?_
    refine L rfl rfl (PStep.neq rfl (Lk.t rfl) (Lk.t rfl)) ?_
    refine TrL.nil ?_
    refine TrE.seq ?_
    refine TrC.condD (Lk.t rfl) (fun hc2 => ?_) (fun hc2 => ?_)
    · refine TrC.seq ?_
      refine TrC.region rfl ?_
      refine L rfl rfl (PStep.move rfl (Lk.t rfl)) ?_
      refine L rfl rfl (PStep.assign rfl (Lk.t rfl)) ?_
      refine TrL.nil ?_
      refine TrE.seq ?_
      refine TrC.ret (TrE.blockR <| TrE.thenR <| TrE.thenR <| TrE.blockR <| TrE.thenR <| ?_)
      refine TrE.retOK (RetOK.eq (?_ : _ = _) (RetOK.tmp rfl (Lk.t rfl) (List.nil_sublist _)))
      have := list_step hc1 hI; rw [← this, firstNZ, if_pos hc2]
    · refine TrC.skip ?_
      refine TrE.blockN ?_
      refine TrE.seq ?_
      refine TrC.region rfl ?_
      refine L rfl rfl (PStep.add64 rfl (Lk.t rfl) Lk.c (by omega)) ?_
      refine L rfl rfl (PStep.move rfl (Lk.t rfl)) ?_
      refine TrL.nil ?_
      refine TrE.again (i + 1) (⟨by omega, by have := list_step hc1 hI; simpa [firstNZ, hc2] using this⟩) (by first | omega | (simp only []; omega)) (EnvSub.cons rfl (EnvSub.cons rfl (EnvSub.cons rfl (EnvSub.cons rfl (EnvSub.cons rfl EnvSub.nil))))) rfl
  · refine TrC.exit (TrE.thenX <| TrE.thenX <| TrE.blockHit <| ?_)
    refine TrE.seq ?_
    refine TrC.seq ?_
    refine TrC.region rfl ?_
    refine L rfl rfl (PStep.move rfl (Lk.t rfl)) ?_
    refine L rfl rfl (PStep.assign rfl (Lk.t rfl)) ?_
    refine TrL.nil ?_
    refine TrE.seq ?_
    refine TrC.ret (?_)
    refine TrE.retOK (RetOK.eq (?_ : _ = _) (RetOK.tmp rfl (Lk.t rfl) (List.nil_sublist _)))
    have := list_end hc1 hI; rw [← this]; rfl
theorem s_cmpV (a b : Version) : Fn Tryz.prog 158 [pT a, pT b] (pI (cmpV a b)) := by
  refine Spec.mk Tryz.func158 rfl rfl fun B => ?_
  refine TrC.seq ?_
  refine TrC.region rfl ?_
  refine TrL.alloc (AStep.boxK rfl rfl (Lk.t rfl)) rfl (fun b1 => ?_)
  refine TrL.alloc (AStep.boxK rfl rfl (Lk.t rfl)) rfl (fun b2 => ?_)
  refine L rfl rfl (PStep.assign rfl Lk.c) ?_
  refine TrL.nil ?_
  refine TrE.seq ?_
  refine TrC.seq ?_
  refine TrC.flow 6 mixed rfl (by kernel_rfl) (by kernel_rfl) ?_
  refine F rfl rfl (PStep.ldLocV (α := Version) 1 Tryz.isAgg57 Tryz.sizeOf57 rfl (Lk.t rfl) rfl rfl) ?_
  refine F rfl rfl (PStep.call (s_parts _) Tryz.call138 rfl (LkAll.cons (Lk.t rfl) LkAll.nil)) ?_
  refine F rfl rfl (PStep.ldLocV (α := Version) 0 Tryz.isAgg57 Tryz.sizeOf57 rfl (Lk.t rfl) rfl rfl) ?_
  refine F rfl rfl (PStep.call (s_parts _) Tryz.call138 rfl (LkAll.cons (Lk.t rfl) LkAll.nil)) ?_
  refine FA rfl (AStep.alloc Tryz.zeroValue195 rfl (zc195) rfl rfl) ?_
  refine FA rfl (AStep.alloc Tryz.zeroValue195 rfl (zc195) rfl rfl) ?_
  refine FlowH.nil ?_
  refine ⟨rfl, ?_⟩
  refine AllocK.some rfl ?_
  intro b3 b4
  refine LS rfl rfl (Step.storeW 1 Tryz.sizeOf195 rfl (Lk.t rfl) (Lk.t rfl) rfl rfl rfl) ?_
  refine LS rfl rfl (Step.storeW 0 Tryz.sizeOf195 rfl (Lk.t rfl) (Lk.t rfl) rfl rfl rfl) ?_
  refine TrL.nil ?_
  refine TrE.seq ?_
  refine TrC.seq ?_
  refine TrC.seq ?_
  refine TrC.settleC 1 5 rfl rfl ?_
  refine TrC.settleC 0 6 rfl rfl ?_
  refine TrC.region rfl ?_
  refine L rfl rfl (PStep.move rfl Lk.c) ?_
  refine TrL.nil ?_
  refine TrE.seq ?_
  refine TrC.block ?_
  refine TrC.loopM (X := Nat) (fun i => i ≤ 3 ∧ cmpFrom a b i = cmpV a b) (fun i => [(13, pI i)]) [(4, _), (5, _), (6, _)] (fun i A => A) (fun i => 3 - i) (0) (⟨by omega, rfl⟩) (EnvSub.cons rfl (EnvSub.cons rfl (EnvSub.cons rfl (EnvSub.cons rfl EnvSub.nil)))) rfl ?_
  rintro i ⟨hi, hI⟩
  refine TrC.seq ?_
  refine TrC.region rfl ?_
  refine L rfl rfl (PStep.lss rfl (Lk.t rfl) Lk.c) ?_
  refine TrL.nil ?_
  refine TrE.seq ?_
  refine TrC.seq ?_
  refine TrC.condD (Lk.t rfl) (fun hc1 => ?_) (fun hc1 => ?_)
  · refine TrC.skip ?_
    refine TrE.seq ?_
    refine TrC.seq ?_
    refine TrC.block ?_
    refine TrC.seq ?_
    refine TrC.region rfl ?_
    refine L rfl rfl (PStep.move rfl (Lk.t rfl)) ?_
    refine L rfl rfl (PStep.assign rfl (Lk.t rfl)) ?_
    refine TrL.nil ?_
    refine TrE.seq ?_
    refine TrC.seq ?_
    refine TrC.flow 8 mixed rfl (by kernel_rfl) (by kernel_rfl) ?_
    refine F rfl rfl (PStep.move rfl (Lk.t rfl)) ?_
    refine F rfl rfl (PStep.ixArr (xs := v3 a) Tryz.runUnderlying195 Tryz.sizeOf3 rfl rfl (Lk.t rfl) (Lk.t rfl) (by change 0 ≤ _ ∧ _ < (3 : Int); omega)) ?_
    refine F rfl rfl (PStep.ldRef Tryz.isAgg3 rfl (Lk.t rfl) rfl) ?_
    refine F rfl rfl (PStep.move rfl (Lk.t rfl)) ?_
    refine F rfl rfl (PStep.ixArr (xs := v3 b) Tryz.runUnderlying195 Tryz.sizeOf3 rfl rfl (Lk.t rfl) (Lk.t rfl) (by change 0 ≤ _ ∧ _ < (3 : Int); omega)) ?_
    refine F rfl rfl (PStep.ldRef Tryz.isAgg3 rfl (Lk.t rfl) rfl) ?_
    refine F rfl rfl (PStep.call (s_cmpI (ix (v3 a) i) (ix (v3 b) i)) Tryz.call190 rfl (LkAll.cons (Lk.t rfl) (LkAll.cons (Lk.t rfl) LkAll.nil))) ?_
    refine F rfl rfl (PStep.assign rfl (Lk.t rfl)) ?_
    refine FlowH.nil ?_
    refine ⟨rfl, ?_⟩
    refine AllocK.none rfl ?_
    refine TrL.nil ?_
    refine TrE.seq ?_
    refine TrC.seq ?_
    refine TrC.region rfl ?_
    refine L rfl rfl (PStep.move rfl (Lk.t rfl)) ?_
    refine L rfl rfl (PStep.neq rfl (Lk.t rfl) Lk.c) ?_
    refine TrL.nil ?_
    refine TrE.seq ?_
    refine TrC.condD (Lk.t rfl) (fun hc2 => ?_) (fun hc2 => ?_)
    · refine TrC.seq ?_
      refine TrC.region rfl ?_
      refine L rfl rfl (PStep.move rfl (Lk.t rfl)) ?_
      refine L rfl rfl (PStep.assign rfl (Lk.t rfl)) ?_
      refine TrL.nil ?_
      refine TrE.seq ?_
      refine TrC.ret (TrE.blockR <| TrE.thenR <| TrE.thenR <| TrE.blockR <| TrE.thenR <| ?_)
      refine TrE.retOK (RetOK.eq (?_ : _ = _) (RetOK.tmp rfl (Lk.t rfl) (List.nil_sublist _)))
      rw [cmpFrom_step hc1, if_pos (show cmpAt a b i ≠ 0 from hc2)] at hI; rw [← hI]; rfl
      all_goals rfl
    · refine TrC.skip ?_
      refine TrE.blockN ?_
      refine TrE.seq ?_
      refine TrC.region rfl ?_
      refine L rfl rfl (PStep.add64 rfl (Lk.t rfl) Lk.c (by omega)) ?_
      refine L rfl rfl (PStep.move rfl (Lk.t rfl)) ?_
      refine TrL.nil ?_
      refine TrE.again (i + 1) (⟨by omega, by rw [cmpFrom_step hc1, if_neg (show ¬ cmpAt a b i ≠ 0 from hc2)] at hI; exact hI⟩) (by first | omega | (simp only []; omega)) (EnvSub.cons rfl (EnvSub.cons rfl (EnvSub.cons rfl (EnvSub.cons rfl EnvSub.nil)))) rfl
  · refine TrC.exit (TrE.thenX <| TrE.thenX <| TrE.blockHit <| ?_)
    refine TrE.seq ?_
    refine TrC.seq ?_
    refine TrC.region rfl ?_
    refine L rfl rfl (PStep.assign rfl Lk.c) ?_
    refine TrL.nil ?_
    refine TrE.seq ?_
    refine TrC.ret (?_)
    refine TrE.retOK (RetOK.eq (?_ : _ = _) (RetOK.tmp rfl (Lk.t rfl) (List.nil_sublist _)))
    rw [cmpFrom_end hc1] at hI; rw [← hI]
    all_goals rfl
end Go.Mp
namespace Go.Proofs
open Go.Shelf
def Tryz.sortSpan_ren : Go.Shelf.Ren := ⟨fun | 14 => 180 | 20 => 203 | 21 => 204 | 22 => 205 | 23 => 206 | 24 => 207 | 25 => 208 | 26 => 209 | 27 => 210 | 46 => 238 | 47 => 182 | 48 => 183 | 49 => 239 | 50 => 240 | 15 => 105 | 57 => 256 | 28 => 152 | 29 => 153 | n => n, fun | 24 => 118 | 22 => 104 | 3 => 3 | 25 => 200 | 4 => 4 | 0 => 0 | 46 => 203 | 45 => 202 | 50 => 207 | 66 => 225 | 39 => 165 | 55 => 212 | 70 => 229 | 76 => 241 | 77 => 242 | 53 => 210 | 5 => 5 | 9 => 9 | n => n, fun | n => n⟩
theorem Tryz.sortSpan : Go.Proofs.SlLaysF0.n14 Tryz.prog Tryz.sortSpan_ren := {
  mixed := by kernel_rfl
  f14 := ⟨Tryz.f180.name, by decide, Tryz.func180.trans (congrArg some (by kernel_rfl))⟩
  f15 := Tryz.func105.trans (congrArg some (by kernel_rfl))
  f20 := ⟨Tryz.f203.name, by decide, Tryz.func203.trans (congrArg some (by kernel_rfl))⟩
  f21 := ⟨Tryz.f204.name, by decide, Tryz.func204.trans (congrArg some (by kernel_rfl))⟩
  f22 := ⟨Tryz.f205.name, by decide, Tryz.func205.trans (congrArg some (by kernel_rfl))⟩
  f23 := ⟨Tryz.f206.name, by decide, Tryz.func206.trans (congrArg some (by kernel_rfl))⟩
  f24 := ⟨Tryz.f207.name, by decide, Tryz.func207.trans (congrArg some (by kernel_rfl))⟩
  f25 := ⟨Tryz.f208.name, by decide, Tryz.func208.trans (congrArg some (by kernel_rfl))⟩
  f26 := ⟨Tryz.f209.name, by decide, Tryz.func209.trans (congrArg some (by kernel_rfl))⟩
  f27 := ⟨Tryz.f210.name, by decide, Tryz.func210.trans (congrArg some (by kernel_rfl))⟩
  f28 := Tryz.func152.trans (congrArg some (by kernel_rfl))
  f29 := Tryz.func153.trans (congrArg some (by kernel_rfl))
  f46 := ⟨Tryz.f238.name, by decide, Tryz.func238.trans (congrArg some (by kernel_rfl))⟩
  f47 := Tryz.func182.trans (congrArg some (by kernel_rfl))
  f48 := Tryz.func183.trans (congrArg some (by kernel_rfl))
  f49 := ⟨Tryz.f239.name, by decide, Tryz.func239.trans (congrArg some (by kernel_rfl))⟩
  f50 := ⟨Tryz.f240.name, by decide, Tryz.func240.trans (congrArg some (by kernel_rfl))⟩
  f57 := ⟨Tryz.f256.name, by decide, Tryz.func256.trans (congrArg some (by kernel_rfl))⟩
  t0 := Tryz.underlying0
  a0 := Tryz.isAgg0
  z0 := Tryz.sizeOf0
  v0 := Tryz.zeroValue0
  t3 := Tryz.underlying3
  a3 := Tryz.isAgg3
  z3 := Tryz.sizeOf3
  v3 := Tryz.zeroValue3
  t4 := Tryz.underlying4
  a4 := Tryz.isAgg4
  z4 := Tryz.sizeOf4
  v4 := Tryz.zeroValue4
  t5 := Tryz.underlying5
  a5 := Tryz.isAgg5
  z5 := Tryz.sizeOf5
  v5 := Tryz.zeroValue5
  t9 := Tryz.underlying9
  a9 := Tryz.isAgg9
  z9 := Tryz.sizeOf9
  v9 := Tryz.zeroValue9
  t22 := Tryz.underlying104
  a22 := Tryz.isAgg104
  z22 := Tryz.sizeOf104
  v22 := Tryz.zeroValue104
  t25 := Tryz.underlying200
  a25 := Tryz.isAgg200
  z25 := Tryz.sizeOf200
  v25 := Tryz.zeroValue200
  t39 := Tryz.underlying165
  a39 := Tryz.isAgg165
  z39 := Tryz.sizeOf165
  v39 := Tryz.zeroValue165
  t45 := Tryz.underlying202
  a45 := Tryz.isAgg202
  z45 := Tryz.sizeOf202
  v45 := Tryz.zeroValue202
  t46 := Tryz.underlying203
  a46 := Tryz.isAgg203
  z46 := Tryz.sizeOf203
  v46 := Tryz.zeroValue203
  t50 := Tryz.underlying207
  a50 := Tryz.isAgg207
  z50 := Tryz.sizeOf207
  v50 := Tryz.zeroValue207
  t53 := Tryz.underlying210
  a53 := Tryz.isAgg210
  z53 := Tryz.sizeOf210
  v53 := Tryz.zeroValue210
  t55 := Tryz.underlying212
  a55 := Tryz.isAgg212
  z55 := Tryz.sizeOf212
  v55 := Tryz.zeroValue212
  t66 := Tryz.underlying225
  a66 := Tryz.isAgg225
  z66 := Tryz.sizeOf225
  v66 := Tryz.zeroValue225
  t70 := Tryz.underlying229
  a70 := Tryz.isAgg229
  z70 := Tryz.sizeOf229
  v70 := Tryz.zeroValue229
  t76 := Tryz.underlying241
  a76 := Tryz.isAgg241
  z76 := Tryz.sizeOf241
  v76 := Tryz.zeroValue241
  t77 := Tryz.underlying242
  a77 := Tryz.isAgg242
  z77 := Tryz.sizeOf242
  v77 := Tryz.zeroValue242 }
def Tryz.sortTerm_ren : Go.Shelf.Ren := ⟨fun | 14 => 104 | 20 => 144 | 21 => 145 | 22 => 146 | 23 => 147 | 24 => 148 | 25 => 149 | 26 => 150 | 27 => 151 | 46 => 181 | 47 => 182 | 48 => 183 | 49 => 184 | 50 => 185 | 15 => 105 | 57 => 211 | 28 => 152 | 29 => 153 | n => n, fun | 24 => 107 | 22 => 50 | 3 => 3 | 25 => 116 | 4 => 4 | 0 => 0 | 46 => 203 | 45 => 202 | 50 => 207 | 66 => 225 | 39 => 165 | 55 => 212 | 70 => 229 | 76 => 241 | 77 => 242 | 53 => 210 | 5 => 5 | 9 => 9 | n => n, fun | n => n⟩
theorem Tryz.sortTerm : Go.Proofs.SlLaysF0.n14 Tryz.prog Tryz.sortTerm_ren := {
  mixed := by kernel_rfl
  f14 := ⟨Tryz.f104.name, by decide, Tryz.func104.trans (congrArg some (by kernel_rfl))⟩
  f15 := Tryz.func105.trans (congrArg some (by kernel_rfl))
  f20 := ⟨Tryz.f144.name, by decide, Tryz.func144.trans (congrArg some (by kernel_rfl))⟩
  f21 := ⟨Tryz.f145.name, by decide, Tryz.func145.trans (congrArg some (by kernel_rfl))⟩
  f22 := ⟨Tryz.f146.name, by decide, Tryz.func146.trans (congrArg some (by kernel_rfl))⟩
  f23 := ⟨Tryz.f147.name, by decide, Tryz.func147.trans (congrArg some (by kernel_rfl))⟩
  f24 := ⟨Tryz.f148.name, by decide, Tryz.func148.trans (congrArg some (by kernel_rfl))⟩
  f25 := ⟨Tryz.f149.name, by decide, Tryz.func149.trans (congrArg some (by kernel_rfl))⟩
  f26 := ⟨Tryz.f150.name, by decide, Tryz.func150.trans (congrArg some (by kernel_rfl))⟩
  f27 := ⟨Tryz.f151.name, by decide, Tryz.func151.trans (congrArg some (by kernel_rfl))⟩
  f28 := Tryz.func152.trans (congrArg some (by kernel_rfl))
  f29 := Tryz.func153.trans (congrArg some (by kernel_rfl))
  f46 := ⟨Tryz.f181.name, by decide, Tryz.func181.trans (congrArg some (by kernel_rfl))⟩
  f47 := Tryz.func182.trans (congrArg some (by kernel_rfl))
  f48 := Tryz.func183.trans (congrArg some (by kernel_rfl))
  f49 := ⟨Tryz.f184.name, by decide, Tryz.func184.trans (congrArg some (by kernel_rfl))⟩
  f50 := ⟨Tryz.f185.name, by decide, Tryz.func185.trans (congrArg some (by kernel_rfl))⟩
  f57 := ⟨Tryz.f211.name, by decide, Tryz.func211.trans (congrArg some (by kernel_rfl))⟩
  t0 := Tryz.underlying0
  a0 := Tryz.isAgg0
  z0 := Tryz.sizeOf0
  v0 := Tryz.zeroValue0
  t3 := Tryz.underlying3
  a3 := Tryz.isAgg3
  z3 := Tryz.sizeOf3
  v3 := Tryz.zeroValue3
  t4 := Tryz.underlying4
  a4 := Tryz.isAgg4
  z4 := Tryz.sizeOf4
  v4 := Tryz.zeroValue4
  t5 := Tryz.underlying5
  a5 := Tryz.isAgg5
  z5 := Tryz.sizeOf5
  v5 := Tryz.zeroValue5
  t9 := Tryz.underlying9
  a9 := Tryz.isAgg9
  z9 := Tryz.sizeOf9
  v9 := Tryz.zeroValue9
  t22 := Tryz.underlying50
  a22 := Tryz.isAgg50
  z22 := Tryz.sizeOf50
  v22 := Tryz.zeroValue50
  t25 := Tryz.underlying116
  a25 := Tryz.isAgg116
  z25 := Tryz.sizeOf116
  v25 := Tryz.zeroValue116
  t39 := Tryz.underlying165
  a39 := Tryz.isAgg165
  z39 := Tryz.sizeOf165
  v39 := Tryz.zeroValue165
  t45 := Tryz.underlying202
  a45 := Tryz.isAgg202
  z45 := Tryz.sizeOf202
  v45 := Tryz.zeroValue202
  t46 := Tryz.underlying203
  a46 := Tryz.isAgg203
  z46 := Tryz.sizeOf203
  v46 := Tryz.zeroValue203
  t50 := Tryz.underlying207
  a50 := Tryz.isAgg207
  z50 := Tryz.sizeOf207
  v50 := Tryz.zeroValue207
  t53 := Tryz.underlying210
  a53 := Tryz.isAgg210
  z53 := Tryz.sizeOf210
  v53 := Tryz.zeroValue210
  t55 := Tryz.underlying212
  a55 := Tryz.isAgg212
  z55 := Tryz.sizeOf212
  v55 := Tryz.zeroValue212
  t66 := Tryz.underlying225
  a66 := Tryz.isAgg225
  z66 := Tryz.sizeOf225
  v66 := Tryz.zeroValue225
  t70 := Tryz.underlying229
  a70 := Tryz.isAgg229
  z70 := Tryz.sizeOf229
  v70 := Tryz.zeroValue229
  t76 := Tryz.underlying241
  a76 := Tryz.isAgg241
  z76 := Tryz.sizeOf241
  v76 := Tryz.zeroValue241
  t77 := Tryz.underlying242
  a77 := Tryz.isAgg242
  z77 := Tryz.sizeOf242
  v77 := Tryz.zeroValue242 }
end Go.Proofs
namespace Go.Mp
open Go Go.Proofs Go.Sort Go.Shelf Go.RowKit Go.Lib
set_option maxHeartbeats 2000000
set_option maxRecDepth 100000
theorem sorts_Span (g : Nat) (eg : ∀ args w, (callFunc g args).run Tryz.prog w = .ok (.enter g args) w) : SortsAt Tryz.prog 141 g 2 := by
  intro β inst enc cf hk h1 hO blk cap d w hcmp hH hblk hsz
  have hlim : Lib.bitLen d.size < 4611686018427387904 := Nat.lt_of_le_of_lt (Lib.bitLen_le d.size 62 (by omega) (by omega)) (by omega)
  have hp := AnyQ.pdqsortCmpFunc_all Tryz.sortSpan 2 Tryz.isAgg118 Tryz.sizeOf118 enc cf g #[] hO blk 0 cap d w eg hcmp ⟨hk, h1, hH, hblk⟩ (d.size + 1) 0 d.size (Lib.bitLen d.size) d w (by omega) rfl (SWK.start hH) (Nat.zero_le _) (Nat.le_refl _) hsz hlim (Or.inl rfl)
  change Calls Tryz.prog 180 _ _ _ at hp
  have hl : Calls Tryz.prog 105 #[.int .u64 (d.size : Int)] w fun e w' => e = .returned (.int .i64 (Lib.bitLen d.size : Nat)) ∧ w' = w := by
    have h := Tryz.bits_Len (d.size : Int) w (by omega) (by omega)
    rwa [Int.toNat_natCast] at h
  have wr : IntKind.u64.wrap (d.size : Int) = d.size := by simp [IntKind.wrap, IntKind.bits, IntKind.signed]; omega
  have hs := pdq_sorts (ltOf cf) hO d 0 d.size (Lib.bitLen d.size) true true (Nat.zero_le _) (Nat.le_refl _) (Or.inl rfl)
  clear hH hcmp hk h1
  go_enter Tryz.func141, Tryz.ntmps141
  go_wp2_with (first | (go_at_call 105; refine hl.mono ?_; rintro e w' ⟨rfl, rfl⟩) | (go_at_call 180; refine hp.mono ?_; rintro e w' ⟨rfl, n, os, rfl⟩))
  go_end0
  exact ⟨rfl, _, n, os, hs.1, hs.2, rfl⟩
theorem sorts_Term (g : Nat) (eg : ∀ args w, (callFunc g args).run Tryz.prog w = .ok (.enter g args) w) : SortsAt Tryz.prog 61 g 3 := by
  intro β inst enc cf hk h1 hO blk cap d w hcmp hH hblk hsz
  have hlim : Lib.bitLen d.size < 4611686018427387904 := Nat.lt_of_le_of_lt (Lib.bitLen_le d.size 62 (by omega) (by omega)) (by omega)
  have hp := AnyQ.pdqsortCmpFunc_all Tryz.sortTerm 3 Tryz.isAgg107 Tryz.sizeOf107 enc cf g #[] hO blk 0 cap d w eg hcmp ⟨hk, h1, hH, hblk⟩ (d.size + 1) 0 d.size (Lib.bitLen d.size) d w (by omega) rfl (SWK.start hH) (Nat.zero_le _) (Nat.le_refl _) hsz hlim (Or.inl rfl)
  change Calls Tryz.prog 104 _ _ _ at hp
  have hl : Calls Tryz.prog 105 #[.int .u64 (d.size : Int)] w fun e w' => e = .returned (.int .i64 (Lib.bitLen d.size : Nat)) ∧ w' = w := by
    have h := Tryz.bits_Len (d.size : Int) w (by omega) (by omega)
    rwa [Int.toNat_natCast] at h
  have wr : IntKind.u64.wrap (d.size : Int) = d.size := by simp [IntKind.wrap, IntKind.bits, IntKind.signed]; omega
  have hs := pdq_sorts (ltOf cf) hO d 0 d.size (Lib.bitLen d.size) true true (Nat.zero_le _) (Nat.le_refl _) (Or.inl rfl)
  clear hH hcmp hk h1
  go_enter Tryz.func61, Tryz.ntmps61
  go_wp2_with (first | (go_at_call 105; refine hl.mono ?_; rintro e w' ⟨rfl, rfl⟩) | (go_at_call 104; refine hp.mono ?_; rintro e w' ⟨rfl, n, os, rfl⟩))
  go_end0
  exact ⟨rfl, _, n, os, hs.1, hs.2, rfl⟩
end Go.Mp
namespace Go.Mp
open Go Go.Proofs Go.Sort Go.Shelf Go.RowKit Go.Lib
set_option maxHeartbeats 2000000
set_option maxRecDepth 100000
theorem clos_Span : ClosAt Tryz.prog 142 (fun x : Span => 0 ≤ x.from_ ∧ x.from_ ≤ 1000000) (fun x y => x.from_ - y.from_) := by
  intro x y u v S W hx hy hu hv cu cv
  have e1 : u.toArray = #[.int .i64 x.from_, .int .i64 x.to_] := exact_cells (vs := valsSpan x) hu cu
  have e2 : v.toArray = #[.int .i64 y.from_, .int .i64 y.to_] := exact_cells (vs := valsSpan y) hv cv
  rw [e1, e2]
  have hw : IntKind.i64.wrap (x.from_ - y.from_) = x.from_ - y.from_ := IntWalk.i64_in _ ⟨by omega, by omega⟩
  clear hx hy hu hv cu cv e1 e2
  go_enter Tryz.func142, Tryz.ntmps142
  go_wp2
  go_ret
  exact ⟨rfl, 0, _, by rw [alloc_eq_grow, alloc_eq_grow, grow_grow]; rfl⟩
theorem clos_Term : ClosAt Tryz.prog 62 (fun _ : Term => True) (fun x y => Lib.compareBytes x.path.data.toList y.path.data.toList) := by
  intro x y u v S W hx hy hu hv cu cv
  obtain ⟨a, b, c, rfl⟩ : ∃ a b c, u = [a, b, c] := by
    match u, hu with
    | [a, b, c], _ => exact ⟨a, b, c, rfl⟩
  obtain ⟨a', b', c', rfl⟩ : ∃ a b c, v = [a, b, c] := by
    match v, hv with
    | [a, b, c], _ => exact ⟨a, b, c, rfl⟩
  obtain ⟨w1, h1, _, h2⟩ := cu 0 (pS x.path) rfl
  obtain ⟨w2, h3, _, h4⟩ := cv 0 (pS y.path) rfl
  cases h1; cases h3
  have h2 : a = .string x.path := h2
  have h4 : a' = .string y.path := h4
  subst h2 h4
  have hcon := fun W' => Tryz.strings_Compare x.path y.path W'
  simp only []
  generalize Lib.compareBytes x.path.data.toList y.path.data.toList = r at hcon ⊢
  clear hx hy hu hv cu cv
  go_enter Tryz.func62, Tryz.ntmps62
  go_wp2_with (go_at_call 63; refine (hcon _).mono ?_; rintro e w' ⟨rfl, rfl⟩)
  go_ret
  exact ⟨rfl, 0, _, by rw [alloc_eq_grow, alloc_eq_grow, grow_grow]; rfl⟩
end Go.Mp
namespace Go.Mp
open Go Go.Proofs Go.Sort Go.Shelf Go.RowKit Go.Lib
set_option maxHeartbeats 2000000
set_option maxRecDepth 100000
theorem sortsN_Span (g : Nat) : SortsNone Tryz.prog 141 g := by
  intro p cap w
  have hp := fun lim w => AnyF.pdqsortCmpFunc_none Tryz.sortSpan p cap lim (.func (.func g) #[] #[]) w
  change ∀ lim w, Calls Tryz.prog 180 _ _ _ at hp
  have hl : Calls Tryz.prog 105 #[.int .u64 0] w fun e w' => e = .returned (.int .i64 (Lib.bitLen 0 : Nat)) ∧ w' = w := Tryz.bits_Len 0 w (by omega) (by omega)
  go_enter Tryz.func141, Tryz.ntmps141
  go_wp2_with (first | (go_at_call 105; refine hl.mono ?_; rintro e w' ⟨rfl, rfl⟩) | (go_at_call 180; refine (hp _ _).mono ?_; rintro e w' ⟨rfl, rfl⟩))
  go_end0
  exact ⟨rfl, rfl⟩
theorem sortsN_Term (g : Nat) : SortsNone Tryz.prog 61 g := by
  intro p cap w
  have hp := fun lim w => AnyF.pdqsortCmpFunc_none Tryz.sortTerm p cap lim (.func (.func g) #[] #[]) w
  change ∀ lim w, Calls Tryz.prog 104 _ _ _ at hp
  have hl : Calls Tryz.prog 105 #[.int .u64 0] w fun e w' => e = .returned (.int .i64 (Lib.bitLen 0 : Nat)) ∧ w' = w := Tryz.bits_Len 0 w (by omega) (by omega)
  go_enter Tryz.func61, Tryz.ntmps61
  go_wp2_with (first | (go_at_call 105; refine hl.mono ?_; rintro e w' ⟨rfl, rfl⟩) | (go_at_call 104; refine (hp _ _).mono ?_; rintro e w' ⟨rfl, rfl⟩))
  go_end0
  exact ⟨rfl, rfl⟩
theorem s_SortSpan (r : OS) (xs : List Span) (hp : ∀ x ∈ xs, 0 ≤ x.from_ ∧ x.from_ ≤ 1000000) (hl : xs.length < 4611686018427387904) :
    SpecX (X := {ys : List Span // ys.Perm xs ∧ ys.Pairwise fun a b => decide (b.from_ < a.from_) = false}) Tryz.prog 141 [pOwn r xs, pV (.func (.func 142) #[] #[])] [hOwn 118 r xs] (fun _ => pTup []) (fun ys => [hOwn 118 r ys.1]) :=
  sortRow (lt := fun a b => decide (a.from_ < b.from_)) (fun x y hx hy => decide_eq_decide.2 (by omega)) (fun x _ => decide_eq_false (by omega)) (fun x y z _ _ _ h1 h2 => decide_eq_true (by have := of_decide_eq_true h1; have := of_decide_eq_true h2; omega)) (fun x y z _ _ _ h1 h2 => decide_eq_false (by have := of_decide_eq_false h1; have := of_decide_eq_false h2; omega))
    (sorts_Span _ Tryz.call142) (sortsN_Span _) clos_Span r xs hp hl
theorem s_SortInts (r : OS) (zs : List Int) (hl : zs.length < 4611686018427387904) : SpecX (X := Unit) Tryz.prog 179 [pOwn r zs] [hOwn 3 r zs] (fun _ => pTup []) (fun _ => [hOwn 3 r (zs.mergeSort fun x y => decide (x ≤ y))]) :=
  sortInts (fun blk cap zs w => Tryz.slices_Sort_int blk 0 cap zs w) (fun p cap w => Tryz.slices_Sort_int_none p cap w) r zs hl
theorem s_SortTerm (r : OS) (xs : List Term) (hl : xs.length < 4611686018427387904) :
    SpecX (X := {ys : List Term // ys.Perm xs ∧ ys.Pairwise fun a b => strLt b.path a.path = false}) Tryz.prog 61 [pOwn r xs, pV (.func (.func 62) #[] #[])] [hOwn 107 r xs] (fun _ => pTup []) (fun ys => [hOwn 107 r ys.1]) :=
  sortRow (p := fun _ => True) (lt := fun a b => strLt a.path b.path) (fun x y _ _ => cmp_strLt _ _) (fun x _ => strLt_irrefl _) (fun x y z _ _ _ h1 h2 => strLt_trans (a := x.path) (b := y.path) (c := z.path) h1 h2) (fun x y z _ _ _ h1 h2 => strLt_ntrans (a := x.path) (b := y.path) (c := z.path) h1 h2)
    (sorts_Term _ Tryz.call62) (sortsN_Term _) clos_Term r xs (fun _ _ => trivial) hl
end Go.Mp
set_option maxRecDepth 100000
set_option maxHeartbeats 4000000
set_option linter.unusedVariables false
set_option linter.unusedSimpArgs false
namespace Go.Mp
open Go Go.Proofs
theorem s_Place (v : Version) : Fn Tryz.prog 56 [pT v] (pTup [pI (placeOf v).1, pI (placeOf v).2]) := by
  refine Spec.mk Tryz.func56 rfl rfl fun B => ?_
  refine TrC.seq ?_
  refine TrC.region rfl ?_
  refine TrL.alloc (AStep.boxK rfl rfl (Lk.t rfl)) rfl (fun b1 => ?_)
  refine L rfl rfl (PStep.assign rfl Lk.c) ?_
  refine L rfl rfl (PStep.assign rfl Lk.c) ?_
  refine TrL.nil ?_
  refine TrE.seq ?_
  refine TrC.seq ?_
  refine TrC.seq ?_
  refine TrC.region rfl ?_
  refine L rfl rfl (PStep.ldLocV (α := Version) 0 Tryz.isAgg57 Tryz.sizeOf57 rfl (Lk.t rfl) rfl rfl) ?_
  refine L rfl rfl (PStep.call (s_Valid _) Tryz.call100 rfl (LkAll.cons (Lk.t rfl) LkAll.nil)) ?_
  refine L rfl rfl (PStep.not rfl (Lk.t rfl)) ?_
  refine TrL.nil ?_
  refine TrE.seq ?_
  refine TrC.condB (Lk.t rfl) (fun hc1 => ?_) (fun hc1 => ?_)
  · have hs1 := hc1
    try simp only [decide_eq_true_eq, decide_eq_false_iff_not, Bool.and_eq_true, Bool.or_eq_true, Bool.not_eq_true', Bool.not_eq_false', Bool.and_eq_false_iff, Bool.or_eq_false_iff] at hs1
    refine TrC.seq ?_
    refine TrC.region rfl ?_
    refine L rfl rfl (PStep.assign rfl Lk.c) ?_
    refine L rfl rfl (PStep.assign rfl Lk.c) ?_
    refine TrL.nil ?_
    refine TrE.seq ?_
    refine TrC.ret (TrE.thenR <| ?_)
    refine TrE.retOK (RetOK.eq (?_ : _ = _) (RetOK.tmp2 rfl (Lk.t rfl) (Lk.t rfl) (List.nil_sublist _)))
    rw [show placeOf v = (0, 2) from if_pos hc1]
    all_goals rfl
  · have hs1 := hc1
    try simp only [decide_eq_true_eq, decide_eq_false_iff_not, Bool.and_eq_true, Bool.or_eq_true, Bool.not_eq_true', Bool.not_eq_false', Bool.and_eq_false_iff, Bool.or_eq_false_iff] at hs1
    refine TrC.skip ?_
    refine TrE.seq ?_
    refine TrC.seq ?_
    refine TrC.region rfl ?_
    refine L rfl rfl (PStep.faLoc fo57_1 rfl (Lk.t rfl)) ?_
    refine L rfl rfl (PStep.ldLoc 0 Tryz.isAgg3 rfl (Lk.t rfl) rfl rfl) ?_
    refine L rfl rfl (PStep.mul64 rfl Lk.c (Lk.t rfl) (by have := validV_ok (by simpa using hc1 : validV v = true); omega)) ?_
    refine L rfl rfl (PStep.faLoc fo57_2 rfl (Lk.t rfl)) ?_
    refine L rfl rfl (PStep.ldLoc 0 Tryz.isAgg3 rfl (Lk.t rfl) rfl rfl) ?_
    refine L rfl rfl (PStep.add64 rfl (Lk.t rfl) (Lk.t rfl) (by have := validV_ok (by simpa using hc1 : validV v = true); omega)) ?_
    refine L rfl rfl (PStep.assign rfl (Lk.t rfl)) ?_
    refine L rfl rfl (PStep.assign rfl Lk.c) ?_
    refine TrL.nil ?_
    refine TrE.seq ?_
    refine TrC.ret (?_)
    refine TrE.retOK (RetOK.eq (?_ : _ = _) (RetOK.tmp2 rfl (Lk.t rfl) (Lk.t rfl) (List.nil_sublist _)))
    rw [show placeOf v = (1000 * v.minor + v.patch, 0) from if_neg (ne_true_of_eq_false hc1)]
    all_goals rfl
theorem s_idxSpan (s : List Span) (f : Span → Bool) : Fn Tryz.prog 175 [pSl s, pFun Tryz.prog (fun x : Span => [pT x]) (fun x => pB (f x))] (pI (idx s f)) := by
  refine Spec.mk Tryz.func175 rfl rfl fun B => ?_
  refine TrC.know (Lk.t (t := 0) rfl) pSl.lt fun hl0 => ?_
  refine TrC.seq ?_
  refine TrC.region rfl ?_
  refine L rfl rfl (PStep.assign rfl Lk.c) ?_
  refine TrL.nil ?_
  refine TrE.seq ?_
  refine TrC.seq ?_
  refine TrC.seq ?_
  refine TrC.region rfl ?_
  refine L rfl rfl (PStep.move rfl (Lk.t rfl)) ?_
  refine L rfl rfl (PStep.len (tys := #[]) Tryz.runUnderlying105 rfl (Lk.t rfl)) ?_
  refine L rfl rfl (PStep.move rfl Lk.c) ?_
  refine TrL.nil ?_
  refine TrE.seq ?_
  refine TrC.block ?_
  refine TrC.loopM (X := Nat) (fun i => i ≤ s.length ∧ idxFrom s f i = idx s f) (fun i => [(8, pI i)]) [(0, _), (1, _), (4, _), (7, _)] (fun i A => A) (fun i => s.length - i) (0) (⟨by omega, idxFrom_zero s f⟩) (EnvSub.cons rfl (EnvSub.cons rfl (EnvSub.cons rfl (EnvSub.cons rfl (EnvSub.cons rfl EnvSub.nil))))) rfl ?_
  rintro i ⟨hi, hI⟩
  refine TrC.seq ?_
  refine TrC.region rfl ?_
  refine L rfl rfl (PStep.lss rfl (Lk.t rfl) (Lk.t rfl)) ?_
  refine TrL.nil ?_
  refine TrE.seq ?_
  refine TrC.seq ?_
  refine TrC.condD (Lk.t rfl) (fun hc1 => ?_) (fun hc1 => ?_)
  · refine TrC.skip ?_
    refine TrE.seq ?_
    refine TrC.seq ?_
    refine TrC.block ?_
    refine TrC.seq ?_
    refine TrC.region rfl ?_
    refine L rfl rfl (PStep.move rfl (Lk.t rfl)) ?_
    refine L rfl rfl (PStep.assign rfl (Lk.t rfl)) ?_
    refine TrL.nil ?_
    refine TrE.seq ?_
    refine TrC.seq ?_
    refine TrC.region rfl ?_
    refine L rfl rfl (PStep.move rfl (Lk.t rfl)) ?_
    refine L rfl rfl (PStep.move rfl (Lk.t rfl)) ?_
    refine L rfl rfl (PStep.move rfl (Lk.t rfl)) ?_
    refine L rfl rfl (PStep.ixD Tryz.runUnderlying105 Tryz.sizeOf118 rfl (Lk.t rfl) (Lk.t rfl) (by omega)) ?_
    refine L rfl rfl (PStep.ldRefV (α := Span) Tryz.isAgg118 Tryz.sizeOf118 rfl (Lk.t rfl) rfl) ?_
    refine L rfl rfl (PStep.callV _ rfl (Lk.t rfl) (LkAll.cons (Lk.t rfl) LkAll.nil)) ?_
    refine TrL.nil ?_
    refine TrE.seq ?_
    refine TrC.condB (Lk.t rfl) (fun hc2 => ?_) (fun hc2 => ?_)
    · have hs2 := hc2
      try simp only [decide_eq_true_eq, decide_eq_false_iff_not, Bool.and_eq_true, Bool.or_eq_true, Bool.not_eq_true', Bool.not_eq_false', Bool.and_eq_false_iff, Bool.or_eq_false_iff] at hs2
      refine TrC.seq ?_
      refine TrC.region rfl ?_
      refine L rfl rfl (PStep.move rfl (Lk.t rfl)) ?_
      refine L rfl rfl (PStep.assign rfl (Lk.t rfl)) ?_
      refine TrL.nil ?_
      refine TrE.seq ?_
      refine TrC.ret (TrE.blockR <| TrE.thenR <| TrE.thenR <| TrE.blockR <| TrE.thenR <| ?_)
      refine TrE.retOK (RetOK.eq (?_ : _ = _) (RetOK.tmp rfl (Lk.t rfl) (List.nil_sublist _)))
      rw [← hI, idxFrom_hit hc1 hc2]
      all_goals rfl
    · have hs2 := hc2
      try simp only [decide_eq_true_eq, decide_eq_false_iff_not, Bool.and_eq_true, Bool.or_eq_true, Bool.not_eq_true', Bool.not_eq_false', Bool.and_eq_false_iff, Bool.or_eq_false_iff] at hs2
      refine TrC.skip ?_
      refine TrE.blockN ?_
      refine TrE.seq ?_
      refine TrC.region rfl ?_
      refine L rfl rfl (PStep.add64 rfl (Lk.t rfl) Lk.c (by omega)) ?_
      refine L rfl rfl (PStep.move rfl (Lk.t rfl)) ?_
      refine TrL.nil ?_
      refine TrE.again (i + 1) (⟨by omega, by rw [idxFrom_miss hc1 hc2] at hI; exact hI⟩) (by first | omega | (simp only []; omega)) (EnvSub.cons rfl (EnvSub.cons rfl (EnvSub.cons rfl (EnvSub.cons rfl (EnvSub.cons rfl EnvSub.nil))))) rfl
  · refine TrC.exit (TrE.thenX <| TrE.thenX <| TrE.blockHit <| ?_)
    refine TrE.seq ?_
    refine TrC.seq ?_
    refine TrC.region rfl ?_
    refine L rfl rfl (PStep.assign rfl Lk.c) ?_
    refine TrL.nil ?_
    refine TrE.seq ?_
    refine TrC.ret (?_)
    refine TrE.retOK (RetOK.eq (?_ : _ = _) (RetOK.tmp rfl (Lk.t rfl) (List.nil_sublist _)))
    rw [← hI, idxFrom_end hc1]
    all_goals rfl
theorem s_anySpan (s : List Span) (f : Span → Bool) : Fn Tryz.prog 126 [pSl s, pFun Tryz.prog (fun x : Span => [pT x]) (fun x => pB (f x))] (pB (s.any f)) := by
  refine Spec.mk Tryz.func126 rfl rfl fun B => ?_
  refine TrC.seq ?_
  refine TrC.region rfl ?_
  refine L rfl rfl (PStep.assign rfl Lk.c) ?_
  refine TrL.nil ?_
  refine TrE.seq ?_
  refine TrC.seq ?_
  refine TrC.region rfl ?_
  refine L rfl rfl (PStep.move rfl (Lk.t rfl)) ?_
  refine L rfl rfl (PStep.move rfl (Lk.t rfl)) ?_
  refine L rfl rfl (PStep.call (s_idxSpan _ _) Tryz.call175 rfl (LkAll.cons (Lk.t rfl) (LkAll.cons (Lk.t rfl) LkAll.nil))) ?_
  refine L rfl rfl (PStep.geq rfl (Lk.t rfl) Lk.c) ?_
  refine L rfl rfl (PStep.assign rfl (Lk.t rfl)) ?_
  refine TrL.nil ?_
  refine TrE.seq ?_
  refine TrC.ret (?_)
  refine TrE.retOK (RetOK.eq (?_ : _ = _) (RetOK.tmp rfl (Lk.t rfl) (List.nil_sublist _)))
  rw [← idx_any]
  all_goals rfl
theorem s_Has1 (x : Span) (p : Int) : Fn Tryz.prog 127 [pT x, pRef [pI p]] (pB (inSpan p x)) := by
  refine Spec.mk Tryz.func127 rfl rfl fun B => ?_
  refine TrC.seq ?_
  refine TrC.region rfl ?_
  refine TrL.alloc (AStep.boxK rfl rfl (Lk.t rfl)) rfl (fun b1 => ?_)
  refine L rfl rfl (PStep.assign rfl Lk.c) ?_
  refine TrL.nil ?_
  refine TrE.seq ?_
  refine TrC.seq ?_
  refine TrC.region rfl ?_
  refine L rfl rfl (PStep.faLoc fo118_0 rfl (Lk.t rfl)) ?_
  refine L rfl rfl (PStep.ldLoc 0 Tryz.isAgg3 rfl (Lk.t rfl) rfl rfl) ?_
  refine L rfl rfl (PStep.ldRef Tryz.isAgg3 rfl (Lk.t rfl) rfl) ?_
  refine L rfl rfl (PStep.leq rfl (Lk.t rfl) (Lk.t rfl)) ?_
  refine L rfl rfl (PStep.move rfl (Lk.t rfl)) ?_
  refine LW rfl (WStep.guard rfl rfl rfl rfl (fun hg => PStep.ldRef Tryz.isAgg3 rfl (Lk.t rfl) rfl)) ?_
  refine LW rfl (WStep.guard rfl rfl rfl rfl (fun hg => PStep.faLoc fo118_1 rfl (Lk.t rfl))) ?_
  refine LW rfl (WStep.guard rfl rfl rfl rfl (fun hg => PStep.ldLoc 0 Tryz.isAgg3 rfl (Lk.g rfl hg) rfl rfl)) ?_
  refine LW rfl (WStep.guard rfl rfl rfl rfl (fun hg => PStep.lss rfl (Lk.g rfl hg) (Lk.g rfl hg))) ?_
  refine L rfl rfl (PStep.pickAnd rfl (Lk.t rfl) (fun hq => Lk.g rfl hq)) ?_
  refine L rfl rfl (PStep.assign rfl (Lk.t rfl)) ?_
  refine TrL.nil ?_
  refine TrE.seq ?_
  refine TrC.ret (?_)
  refine TrE.retOK (RetOK.eq (?_ : _ = _) (RetOK.tmp rfl (Lk.t rfl) (List.nil_sublist _)))
  rfl
theorem s_Has (s : List Span) (p : Int) : Fn Tryz.prog 87 [pSl s, pI p] (pB (has s p)) := by
  refine Spec.mk Tryz.func87 rfl rfl fun B => ?_
  refine TrC.seq ?_
  refine TrC.region rfl ?_
  refine TrL.alloc (AStep.box1 rfl rfl (Lk.t rfl)) rfl (fun b1 => ?_)
  refine L rfl rfl (PStep.assign rfl Lk.c) ?_
  refine TrL.nil ?_
  refine TrE.seq ?_
  refine TrC.seq ?_
  refine TrC.settleC 0 3 rfl rfl ?_
  refine TrC.region rfl ?_
  refine L rfl rfl (PStep.ldRef Tryz.isAgg3 rfl (Lk.t rfl) rfl) ?_
  refine L rfl rfl (PStep.geq rfl (Lk.t rfl) Lk.c) ?_
  refine L rfl rfl (PStep.move rfl (Lk.t rfl)) ?_
  refine LW rfl (WStep.guard rfl rfl rfl rfl (fun hg => PStep.ldRef Tryz.isAgg3 rfl (Lk.t rfl) rfl)) ?_
  refine LW rfl (WStep.guard rfl rfl rfl rfl (fun hg => PStep.lss rfl (Lk.g rfl hg) Lk.c)) ?_
  refine L rfl rfl (PStep.pickAnd rfl (Lk.t rfl) (fun hq => Lk.g rfl hq)) ?_
  refine L rfl rfl (PStep.move rfl (Lk.t rfl)) ?_
  refine LW rfl (WStep.guard rfl rfl rfl rfl (fun hg => PStep.move rfl (Lk.t rfl))) ?_
  refine LW rfl (WStep.guard rfl rfl rfl rfl (fun hg => PStep.mkFun (ps := fun (x : Span) => [pT x]) (fun x => s_Has1 x _) Tryz.call127 rfl (LkAll.cons (Lk.t rfl) LkAll.nil))) ?_
  refine LW rfl (WStep.guard rfl rfl rfl rfl (fun hg => PStep.call (s_anySpan _ _) Tryz.call126 rfl (LkAll.cons (Lk.g rfl hg) (LkAll.cons (Lk.g rfl hg) LkAll.nil)))) ?_
  refine L rfl rfl (PStep.pickAnd rfl (Lk.t rfl) (fun hq => Lk.g rfl hq)) ?_
  refine L rfl rfl (PStep.assign rfl (Lk.t rfl)) ?_
  refine TrL.nil ?_
  refine TrE.seq ?_
  refine TrC.ret (?_)
  refine TrE.retOK (RetOK.eq (?_ : _ = _) (RetOK.tmp rfl (Lk.t rfl) (List.nil_sublist _)))
  rfl
theorem s_Canonical (s : List Span) (hs : s.length ≤ 1000000000) : Fn Tryz.prog 102 [pSl s] (pSlX (canon s)) := by
  refine Spec.mk Tryz.func102 rfl rfl fun B => ?_
  refine TrC.seq ?_
  refine TrC.region rfl ?_
  refine L rfl rfl (PStep.assign rfl Lk.c) ?_
  refine TrL.nil ?_
  refine TrE.seq ?_
  refine TrC.seq ?_
  refine TrC.region rfl ?_
  refine L rfl rfl (PStep.assign rfl Lk.c) ?_
  refine TrL.nil ?_
  refine TrE.seq ?_
  refine TrC.seq ?_
  refine TrC.seq ?_
  refine TrC.region rfl ?_
  refine L rfl rfl (PStep.move rfl (Lk.t rfl)) ?_
  refine L rfl rfl (PStep.len (tys := #[]) Tryz.runUnderlying105 rfl (Lk.t rfl)) ?_
  refine L rfl rfl (PStep.move rfl Lk.c) ?_
  refine TrL.nil ?_
  refine TrE.seq ?_
  refine TrC.block ?_
  refine TrC.lay (hOwn 118 .nil ([] : List Span)) rfl ?_
  refine TrC.loopM (X := Nat × OS × List Span) (fun ⟨i, r, acc⟩ => i ≤ s.length ∧ acc ++ clip (s.drop i) = clip s ∧ acc.length ≤ i) (fun ⟨i, r, acc⟩ => [(11, pI i), (3, pOwn r acc)]) [(2, _), (9, _), (10, _)] (fun ⟨i, r, acc⟩ A => (List.set A 0 (hOwn 118 r acc))) (fun ⟨i, r, acc⟩ => s.length - i) ((0, .nil, [])) (⟨by omega, rfl, by simp⟩) (EnvSub.cons rfl (EnvSub.consI rfl nilOwn (EnvSub.cons rfl (EnvSub.cons rfl (EnvSub.cons rfl EnvSub.nil))))) rfl ?_
  rintro ⟨i, r, acc⟩ ⟨hi, hI, hl⟩
  refine TrC.seq ?_
  refine TrC.region rfl ?_
  refine L rfl rfl (PStep.lss rfl (Lk.t rfl) (Lk.t rfl)) ?_
  refine TrL.nil ?_
  refine TrE.seq ?_
  refine TrC.seq ?_
  refine TrC.condD (Lk.t rfl) (fun hc1 => ?_) (fun hc1 => ?_)
  · refine TrC.skip ?_
    refine TrE.seq ?_
    refine TrC.seq ?_
    refine TrC.block ?_
    refine TrC.seq ?_
    refine TrC.region rfl ?_
    refine L rfl rfl (PStep.ixD Tryz.runUnderlying105 Tryz.sizeOf118 rfl (Lk.t rfl) (Lk.t rfl) (by omega)) ?_
    refine L rfl rfl (PStep.ldRefV (α := Span) Tryz.isAgg118 Tryz.sizeOf118 rfl (Lk.t rfl) rfl) ?_
    refine TrL.alloc (AStep.alloc Tryz.zeroValue118 rfl (zc118) rfl rfl) rfl (fun b1 => ?_)
    refine LS rfl rfl (Step.storeW 0 Tryz.sizeOf118 rfl (Lk.t rfl) (Lk.t rfl) rfl rfl rfl) ?_
    refine TrL.nil ?_
    refine TrE.seq ?_
    refine TrC.seq ?_
    refine TrC.region rfl ?_
    refine L rfl rfl (PStep.faLoc fo118_0 rfl (Lk.t rfl)) ?_
    refine L rfl rfl (PStep.ldLoc 0 Tryz.isAgg3 rfl (Lk.t rfl) rfl rfl) ?_
    refine L rfl rfl (PStep.max rfl (Lk.t rfl) Lk.c) ?_
    refine L rfl rfl (PStep.faLoc fo118_1 rfl (Lk.t rfl)) ?_
    refine L rfl rfl (PStep.ldLoc 0 Tryz.isAgg3 rfl (Lk.t rfl) rfl rfl) ?_
    refine L rfl rfl (PStep.min rfl (Lk.t rfl) Lk.c) ?_
    refine L rfl rfl (mk118_01 rfl (Lk.t rfl) (Lk.t rfl)) ?_
    refine LS rfl rfl (Step.storeW 0 Tryz.sizeOf118 rfl (Lk.t rfl) (Lk.t rfl) rfl rfl rfl) ?_
    refine TrL.nil ?_
    refine TrE.seq ?_
    refine TrC.seq ?_
    refine TrC.region rfl ?_
    refine L rfl rfl (PStep.faLoc fo118_0 rfl (Lk.t rfl)) ?_
    refine L rfl rfl (PStep.ldLoc 0 Tryz.isAgg3 rfl (Lk.t rfl) rfl rfl) ?_
    refine L rfl rfl (PStep.faLoc fo118_1 rfl (Lk.t rfl)) ?_
    refine L rfl rfl (PStep.ldLoc 0 Tryz.isAgg3 rfl (Lk.t rfl) rfl rfl) ?_
    refine L rfl rfl (PStep.lss rfl (Lk.t rfl) (Lk.t rfl)) ?_
    refine TrL.nil ?_
    refine TrE.seq ?_
    refine TrC.condD (Lk.t rfl) (fun hc2 => ?_) (fun hc2 => ?_)
    · refine TrC.region rfl ?_
      refine L rfl rfl (PStep.move rfl (Lk.t rfl)) ?_
      refine L rfl rfl (PStep.ldLocV (α := Span) 0 Tryz.isAgg118 Tryz.sizeOf118 rfl (Lk.t rfl) rfl rfl) ?_
      refine L rfl rfl (PStep.litX [_] slT105 rfl ⟨rfl, Lk.agg (Lk.t rfl), trivial⟩ rfl rfl) ?_
      refine TrL.append 1 apT105 rfl rfl rfl (Lk.t rfl) (Lk.slX (Lk.t rfl)) rfl (by simp; omega) (fun r1 => ?_)
      refine L rfl rfl (PStep.assign rfl (Lk.t rfl)) ?_
      refine TrL.nil ?_
      refine TrE.blockN ?_
      refine TrE.seq ?_
      refine TrC.region rfl ?_
      refine L rfl rfl (PStep.add64 rfl (Lk.t rfl) Lk.c (by omega)) ?_
      refine L rfl rfl (PStep.move rfl (Lk.t rfl)) ?_
      refine TrL.nil ?_
      refine TrE.dropF 1 ?_
      refine TrE.again ((i + 1, _, _)) (clip_yes hc1 hc2 hi hI hl) (by first | omega | (simp only []; omega)) (EnvSub.cons rfl (EnvSub.cons rfl (EnvSub.cons rfl (EnvSub.cons rfl (EnvSub.cons rfl EnvSub.nil))))) rfl
    · refine TrC.skip ?_
      refine TrE.blockN ?_
      refine TrE.seq ?_
      refine TrC.region rfl ?_
      refine L rfl rfl (PStep.add64 rfl (Lk.t rfl) Lk.c (by omega)) ?_
      refine L rfl rfl (PStep.move rfl (Lk.t rfl)) ?_
      refine TrL.nil ?_
      refine TrE.dropF 1 ?_
      refine TrE.again ((i + 1, _, _)) (clip_no hc1 hc2 hi hI hl) (by first | omega | (simp only []; omega)) (EnvSub.cons rfl (EnvSub.cons rfl (EnvSub.cons rfl (EnvSub.cons rfl (EnvSub.cons rfl EnvSub.nil))))) rfl
  · refine TrC.exit (TrE.thenX <| TrE.thenX <| TrE.blockHit <| ?_)
    refine TrE.seq ?_
    refine TrC.seq ?_
    obtain rfl := clip_end hc1 hI
    have hp := clip_bound s
    have hcl := clip_len s
    refine TrC.region rfl ?_
    refine L rfl rfl (PStep.move rfl (Lk.t rfl)) ?_
    refine TrL.callD 0 (s_SortSpan _ _ hp (by omega)) Tryz.call141 rfl rfl rfl (LkAll.cons (Lk.t rfl) (LkAll.cons Lk.f LkAll.nil)) rfl (fun ys => ?_)
    refine TrL.re 3 rfl (pOwn.imp (ys.2.1.length_eq.symm)) ?_
    refine TrL.re 32 rfl (pOwn.imp (ys.2.1.length_eq.symm)) ?_
    refine TrL.nil ?_
    refine TrE.seq ?_
    refine TrC.seq ?_
    have hyl := ys.2.1.length_eq
    refine TrC.region rfl ?_
    refine L rfl rfl (PStep.assign rfl Lk.c) ?_
    refine TrL.nil ?_
    refine TrE.seq ?_
    refine TrC.seq ?_
    refine TrC.seq ?_
    refine TrC.region rfl ?_
    refine L rfl rfl (PStep.move rfl (Lk.t rfl)) ?_
    refine L rfl rfl (PStep.lenOwn Tryz.runUnderlying105 rfl (Lk.t rfl)) ?_
    refine L rfl rfl (PStep.move rfl Lk.c) ?_
    refine TrL.nil ?_
    refine TrE.seq ?_
    refine TrC.block ?_
    refine TrC.loopM (X := Nat × Nat × List Span) (fun ⟨i, n, xs⟩ => MergeInv ys.1 i n xs) (fun ⟨i, n, xs⟩ => [(36, pI i), (6, pI n), (3, pOwn r xs), (34, pOwn r xs)]) [(2, _), (35, _)] (fun ⟨i, n, xs⟩ A => (List.set A 0 (hOwn 118 r xs))) (fun ⟨i, n, xs⟩ => ys.1.length - i) ((0, 0, ys.1)) (MergeInv.start _) (EnvSub.cons rfl (EnvSub.cons rfl (EnvSub.cons rfl (EnvSub.cons rfl (EnvSub.cons rfl (EnvSub.cons rfl EnvSub.nil)))))) rfl ?_
    rintro ⟨i, n, xs⟩ hM
    have hlen := hM.len
    have hni := hM.ni
    have hil := hM.il
    have hpos := hM.pos
    refine TrC.seq ?_
    refine TrC.region rfl ?_
    refine L rfl rfl (PStep.lss rfl (Lk.t rfl) (Lk.t rfl)) ?_
    refine TrL.nil ?_
    refine TrE.seq ?_
    refine TrC.seq ?_
    refine TrC.condD (Lk.t rfl) (fun hc3 => ?_) (fun hc3 => ?_)
    · refine TrC.skip ?_
      refine TrE.seq ?_
      refine TrC.seq ?_
      refine TrC.block ?_
      refine TrC.seq ?_
      refine TrC.isAt 3 rfl (by rintro rfl; simp at hlen; omega) fun hr => ?_
      refine TrC.region rfl ?_
      refine L rfl rfl (PStep.move rfl (Lk.t rfl)) ?_
      refine L rfl rfl (PStep.ixOwn (α := Span) Tryz.runUnderlying105 Tryz.sizeOf118 rfl (Lk.t rfl) (Lk.t rfl) (by omega)) ?_
      refine L rfl rfl (PStep.ldOwnK 0 Tryz.isAgg118 Tryz.sizeOf118 rfl (Lk.t rfl) rfl hr (by omega)) ?_
      refine TrL.alloc (AStep.alloc Tryz.zeroValue118 rfl (zc118) rfl rfl) rfl (fun b2 => ?_)
      refine L rfl rfl (PStep.assign rfl (Lk.t rfl)) ?_
      refine LS rfl rfl (Step.storeW 0 Tryz.sizeOf118 rfl (Lk.t rfl) (Lk.t rfl) rfl rfl rfl) ?_
      refine TrL.nil ?_
      refine TrE.seq ?_
      refine TrC.seq ?_
      refine TrC.seq ?_
      refine TrC.flow 13 mixed rfl (by kernel_rfl) (by kernel_rfl) ?_
      refine F rfl rfl (PStep.move rfl (Lk.t rfl)) ?_
      refine F rfl rfl (PStep.gtr rfl (Lk.t rfl) Lk.c) ?_
      refine F rfl rfl (PStep.move rfl (Lk.t rfl)) ?_
      refine FW rfl (WStep.guard rfl rfl rfl rfl (fun hg => PStep.faLoc fo118_0 rfl (Lk.t rfl))) ?_
      refine FW rfl (WStep.guard rfl rfl rfl rfl (fun hg => PStep.ldLoc 0 Tryz.isAgg3 rfl (Lk.g rfl hg) rfl rfl)) ?_
      refine FW rfl (WStep.guard rfl rfl rfl rfl (fun hg => PStep.move rfl (Lk.t rfl))) ?_
      refine FW rfl (WStep.guard rfl rfl rfl rfl (fun hg => PStep.move rfl (Lk.t rfl))) ?_
      refine FW rfl (WStep.guard rfl rfl rfl rfl (fun hg => PStep.sub64 rfl (Lk.g rfl hg) Lk.c (by have hg_ := hg; (try simp only [decide_eq_true_eq, decide_eq_false_iff_not, Bool.and_eq_true, Bool.or_eq_true, Bool.not_eq_true', Bool.not_eq_false', Bool.and_eq_false_iff, Bool.or_eq_false_iff] at hg_); omega))) ?_
      refine FW rfl (WStep.guard rfl rfl rfl rfl (fun hg => PStep.ixOwn (α := Span) Tryz.runUnderlying105 Tryz.sizeOf118 rfl (Lk.g rfl hg) (Lk.g rfl hg) (by have hg_ := hg; (try simp only [decide_eq_true_eq, decide_eq_false_iff_not, Bool.and_eq_true, Bool.or_eq_true, Bool.not_eq_true', Bool.not_eq_false', Bool.and_eq_false_iff, Bool.or_eq_false_iff] at hg_); omega))) ?_
      refine FW rfl (WStep.guard rfl rfl rfl rfl (fun hg => PStep.faLoc fo118_1 rfl (Lk.g rfl hg))) ?_
      refine FW rfl (WStep.guard rfl rfl rfl rfl (fun hg => PStep.ldOwn1 (f := 1) 1 Tryz.isAgg3 rfl (Lk.g rfl hg) rfl hr (by have hg_ := hg; (try simp only [decide_eq_true_eq, decide_eq_false_iff_not, Bool.and_eq_true, Bool.or_eq_true, Bool.not_eq_true', Bool.not_eq_false', Bool.and_eq_false_iff, Bool.or_eq_false_iff] at hg_); omega) rfl)) ?_
      refine FW rfl (WStep.guard rfl rfl rfl rfl (fun hg => PStep.leq rfl (Lk.g rfl hg) (Lk.g rfl hg))) ?_
      refine F rfl rfl (PStep.pickAnd rfl (Lk.t rfl) (fun hq => Lk.g rfl hq)) ?_
      refine FlowH.nil ?_
      refine ⟨rfl, ?_⟩
      refine AllocK.none rfl ?_
      refine TrL.nil ?_
      refine TrE.seq ?_
      refine TrC.condB (Lk.t rfl) (fun hc4 => ?_) (fun hc4 => ?_)
      · have hs4 := hc4
        try simp only [decide_eq_true_eq, decide_eq_false_iff_not, Bool.and_eq_true, Bool.or_eq_true, Bool.not_eq_true', Bool.not_eq_false', Bool.and_eq_false_iff, Bool.or_eq_false_iff] at hs4
        refine TrC.seq ?_
        refine TrC.flow 14 mixed rfl (by kernel_rfl) (by kernel_rfl) ?_
        refine F rfl rfl (PStep.move rfl (Lk.t rfl)) ?_
        refine F rfl rfl (PStep.move rfl (Lk.t rfl)) ?_
        refine F rfl rfl (PStep.sub64 rfl (Lk.t rfl) Lk.c (by omega)) ?_
        refine F rfl rfl (PStep.move rfl (Lk.t rfl)) ?_
        refine F rfl rfl (PStep.move rfl (Lk.t rfl)) ?_
        refine F rfl rfl (PStep.sub64 rfl (Lk.t rfl) Lk.c (by omega)) ?_
        refine F rfl rfl (PStep.ixOwn (α := Span) Tryz.runUnderlying105 Tryz.sizeOf118 rfl (Lk.t rfl) (Lk.t rfl) (by omega)) ?_
        refine F rfl rfl (PStep.faLoc fo118_1 rfl (Lk.t rfl)) ?_
        refine F rfl rfl (PStep.ldOwn1 (f := 1) 1 Tryz.isAgg3 rfl (Lk.t rfl) rfl hr (by omega) rfl) ?_
        refine F rfl rfl (PStep.faLoc fo118_1 rfl (Lk.t rfl)) ?_
        refine F rfl rfl (PStep.ldLoc 0 Tryz.isAgg3 rfl (Lk.t rfl) rfl rfl) ?_
        refine F rfl rfl (PStep.max rfl (Lk.t rfl) (Lk.t rfl)) ?_
        refine F rfl rfl (PStep.ixOwn (α := Span) Tryz.runUnderlying105 Tryz.sizeOf118 rfl (Lk.t rfl) (Lk.t rfl) (by omega)) ?_
        refine F rfl rfl (PStep.faLoc fo118_1 rfl (Lk.t rfl)) ?_
        refine FlowH.nil ?_
        refine ⟨rfl, ?_⟩
        refine AllocK.none rfl ?_
        refine LS rfl rfl (Step.stOwn (f := 1) 1 (⟨(ix xs ((n : Int) - 1)).from_, max (ix xs ((n : Int) - 1)).to_ (ix xs i).to_⟩) Tryz.sizeOf3 rfl (Lk.t rfl) (Lk.cs1 (Lk.t rfl)) rfl hr (by omega) rfl (fun q hq v S h => by simp only [List.mem_singleton] at hq; subst hq; exact One.one v S h) rfl) ?_
        refine TrL.nil ?_
        refine TrE.seq ?_
        refine TrC.exit (TrE.thenX <| TrE.blockHit <| ?_)
        refine TrE.seq ?_
        refine TrC.region rfl ?_
        refine L rfl rfl (PStep.add64 rfl (Lk.t rfl) Lk.c (by omega)) ?_
        refine L rfl rfl (PStep.move rfl (Lk.t rfl)) ?_
        refine TrL.nil ?_
        refine TrE.dropF 1 ?_
        refine TrE.again ((i + 1, n, _)) (hM.join (by omega) (by omega) (by omega)) (by first | omega | (simp only []; omega)) (EnvSub.cons rfl (EnvSub.cons rfl (EnvSub.consI rfl (pOwn.imp (by simp)) (EnvSub.consI rfl (pOwn.imp (by simp)) (EnvSub.cons rfl (EnvSub.cons rfl EnvSub.nil)))))) rfl
      · have hs4 := hc4
        try simp only [decide_eq_true_eq, decide_eq_false_iff_not, Bool.and_eq_true, Bool.or_eq_true, Bool.not_eq_true', Bool.not_eq_false', Bool.and_eq_false_iff, Bool.or_eq_false_iff] at hs4
        refine TrC.skip ?_
        refine TrE.seq ?_
        refine TrC.seq ?_
        refine TrC.region rfl ?_
        refine L rfl rfl (PStep.move rfl (Lk.t rfl)) ?_
        refine L rfl rfl (PStep.move rfl (Lk.t rfl)) ?_
        refine L rfl rfl (PStep.ldLocV (α := Span) 0 Tryz.isAgg118 Tryz.sizeOf118 rfl (Lk.t rfl) rfl rfl) ?_
        refine L rfl rfl (PStep.ixOwn (α := Span) Tryz.runUnderlying105 Tryz.sizeOf118 rfl (Lk.t rfl) (Lk.t rfl) (by omega)) ?_
        refine LS rfl rfl (Step.stOwnK 1 Tryz.sizeOf118 rfl (Lk.t rfl) (Lk.cs (Lk.t rfl)) rfl hr (by omega)) ?_
        refine TrL.nil ?_
        refine TrE.seq ?_
        refine TrC.region rfl ?_
        refine L rfl rfl (PStep.move rfl (Lk.t rfl)) ?_
        refine L rfl rfl (PStep.add64 rfl (Lk.t rfl) Lk.c (by omega)) ?_
        refine L rfl rfl (PStep.assign rfl (Lk.t rfl)) ?_
        refine TrL.nil ?_
        refine TrE.blockN ?_
        refine TrE.seq ?_
        refine TrC.region rfl ?_
        refine L rfl rfl (PStep.add64 rfl (Lk.t rfl) Lk.c (by omega)) ?_
        refine L rfl rfl (PStep.move rfl (Lk.t rfl)) ?_
        refine TrL.nil ?_
        refine TrE.dropF 1 ?_
        refine TrE.again ((i + 1, n + 1, _)) (hM.push (by omega) (by omega)) (by first | omega | (simp only []; omega)) (EnvSub.cons rfl (EnvSub.cons rfl (EnvSub.consI rfl (pOwn.imp (by simp)) (EnvSub.consI rfl (pOwn.imp (by simp)) (EnvSub.cons rfl (EnvSub.cons rfl EnvSub.nil)))))) rfl
    · refine TrC.exit (TrE.thenX <| TrE.thenX <| TrE.blockHit <| ?_)
      refine TrE.seq ?_
      refine TrC.seq ?_
      refine TrC.settle 0 3 rfl rfl ?_
      refine TrC.region rfl ?_
      refine L rfl rfl (PStep.move rfl (Lk.t rfl)) ?_
      refine L rfl rfl (PStep.move rfl (Lk.t rfl)) ?_
      refine L rfl rfl (PStep.move rfl (Lk.t rfl)) ?_
      refine L rfl rfl (PStep.slX _ Tryz.runUnderlying105 Tryz.sizeOf118 rfl (Lk.t rfl) (Lk.t rfl) (Lk.t rfl) (by omega)) ?_
      refine L rfl rfl (PStep.assign rfl (Lk.t rfl)) ?_
      refine TrL.nil ?_
      refine TrE.seq ?_
      refine TrC.ret (?_)
      refine TrE.retOK (RetOK.eq (?_ : _ = _) (RetOK.tmp rfl (Lk.t rfl) (List.nil_sublist _)))
      rw [hM.done (by omega), canon_of ys.2]
      all_goals rfl
end Go.Mp
set_option maxRecDepth 100000
set_option maxHeartbeats 4000000
set_option linter.unusedVariables false
set_option linter.unusedSimpArgs false
namespace Go.Mp
open Go Go.Proofs
theorem s_combine (keep : Int → Bool) (l : List (List Span)) (hl : l.length ≤ 100) (hs : ∀ s ∈ l, s.length ≤ 1000000) : Fn Tryz.prog 139 [pFun Tryz.prog (fun n : Int => [pI n]) (fun n => pB (keep n)), pSl l] (pSlX (combine keep l)) := by
  refine Spec.mk Tryz.func139 rfl rfl fun B => ?_
  refine TrC.seq ?_
  refine TrC.region rfl ?_
  refine L rfl rfl (PStep.assign rfl Lk.c) ?_
  refine TrL.nil ?_
  refine TrE.seq ?_
  refine TrC.seq ?_
  refine TrC.region rfl ?_
  refine TrL.allocG (AStep.makeMap (fun x : Int => Value.int .i64 x) (fun v : Int => pI v) rfl rfl) rfl (fun r1 => ?_)
  refine LS rfl rfl (Step.mapUpdate 0 (kv := fun x : Int => Value.int .i64 x) (pv := fun v : Int => pI v) mpT222 key3 (.inr rfl) (Lk.t rfl) Lk.c Lk.c rfl) ?_
  refine LS rfl rfl (Step.mapUpdate 0 (kv := fun x : Int => Value.int .i64 x) (pv := fun v : Int => pI v) mpT222 key3 (.inr rfl) (Lk.t rfl) Lk.c Lk.c rfl) ?_
  refine L rfl rfl (PStep.move rfl (Lk.t rfl)) ?_
  refine L rfl rfl (PStep.assign rfl (Lk.t rfl)) ?_
  refine TrL.nil ?_
  refine TrE.seq ?_
  refine TrC.seq ?_
  refine TrC.seq ?_
  refine TrC.region rfl ?_
  refine L rfl rfl (PStep.move rfl (Lk.t rfl)) ?_
  refine L rfl rfl (PStep.len (tys := #[]) Tryz.runUnderlying184 rfl (Lk.t rfl)) ?_
  refine L rfl rfl (PStep.move rfl Lk.c) ?_
  refine TrL.nil ?_
  refine TrE.seq ?_
  refine TrC.block ?_
  refine TrC.loopM (X := Nat × IMap) (fun ⟨i, m⟩ => i ≤ l.length ∧ (l.drop i).foldl (fun m s => (canon s).foldl bumpS m) m = changeOf l ∧ BoundM m (2000000 * i) ∧ m.length ≤ 2 + 2000000 * i) (fun ⟨i, m⟩ => [(19, pI i)]) [(0, _), (4, _), (5, _), (17, _), (18, _)] (fun ⟨i, m⟩ A => (List.set A 0 (hMap (fun x : Int => Value.int .i64 x) (fun v : Int => pI v) r1.b m))) (fun ⟨i, m⟩ => l.length - i) ((0, [(0, 0), (1000000, 0)])) (⟨by omega, rfl, BoundM.start, by simp⟩) (EnvSub.cons rfl (EnvSub.cons rfl (EnvSub.cons rfl (EnvSub.cons rfl (EnvSub.cons rfl (EnvSub.cons rfl EnvSub.nil)))))) rfl ?_
  rintro ⟨i, m⟩ ⟨hi, hI, hB0, hm0⟩
  refine TrC.seq ?_
  refine TrC.region rfl ?_
  refine L rfl rfl (PStep.lss rfl (Lk.t rfl) (Lk.t rfl)) ?_
  refine TrL.nil ?_
  refine TrE.seq ?_
  refine TrC.seq ?_
  refine TrC.condD (Lk.t rfl) (fun hc1 => ?_) (fun hc1 => ?_)
  · refine TrC.skip ?_
    refine TrE.seq ?_
    refine TrC.seq ?_
    refine TrC.block ?_
    refine TrC.seq ?_
    refine TrC.region rfl ?_
    refine L rfl rfl (PStep.ixD Tryz.runUnderlying184 Tryz.sizeOf105 rfl (Lk.t rfl) (Lk.t rfl) (by omega)) ?_
    refine L rfl rfl (PStep.ldRef Tryz.isAgg105 rfl (Lk.t rfl) rfl) ?_
    refine L rfl rfl (PStep.assign rfl (Lk.t rfl)) ?_
    refine TrL.nil ?_
    refine TrE.seq ?_
    refine TrC.seq ?_
    refine TrC.region rfl ?_
    refine L rfl rfl (PStep.move rfl (Lk.t rfl)) ?_
    refine L rfl rfl (PStep.call (s_Canonical _ (Nat.le_trans (hs _ (by rw [ix_nat l i (by omega)]; exact List.getElem_mem _)) (by decide))) Tryz.call102 rfl (LkAll.cons (Lk.t rfl) LkAll.nil)) ?_
    refine L rfl rfl (PStep.len (tys := #[]) Tryz.runUnderlying105 rfl (Lk.slX (Lk.t rfl))) ?_
    refine L rfl rfl (PStep.move rfl Lk.c) ?_
    refine TrL.nil ?_
    refine TrE.seq ?_
    refine TrC.block ?_
    refine TrC.loopM (X := Nat × IMap) (fun ⟨k, m2⟩ => k ≤ (canon (ix l i)).length ∧ ((canon (ix l i)).drop k).foldl bumpS m2 = (canon (ix l i)).foldl bumpS m ∧ BoundM m2 (2000000 * i + 2 * k) ∧ m2.length ≤ 2 + 2000000 * i + 2 * k) (fun ⟨k, m2⟩ => [(26, pI k)]) [(0, _), (4, _), (5, _), (17, _), (18, _), (19, _), (24, _), (25, _)] (fun ⟨k, m2⟩ A => (List.set A 0 (hMap (fun x : Int => Value.int .i64 x) (fun v : Int => pI v) r1.b m2))) (fun ⟨k, m2⟩ => (canon (ix l i)).length - k) ((0, m)) (⟨by omega, rfl, hB0.up (by omega), by omega⟩) (EnvSub.cons rfl (EnvSub.cons rfl (EnvSub.cons rfl (EnvSub.cons rfl (EnvSub.cons rfl (EnvSub.cons rfl (EnvSub.cons rfl (EnvSub.cons rfl (EnvSub.cons rfl EnvSub.nil))))))))) rfl ?_
    rintro ⟨k, m2⟩ ⟨hk, hI2, hB, hm⟩
    have hcl : (canon (ix l i)).length ≤ 1000000 := Nat.le_trans (canon_len _) (hs _ (by rw [ix_nat l i (by omega)]; exact List.getElem_mem _))
    refine TrC.seq ?_
    refine TrC.region rfl ?_
    refine L rfl rfl (PStep.lss rfl (Lk.t rfl) (Lk.t rfl)) ?_
    refine TrL.nil ?_
    refine TrE.seq ?_
    refine TrC.seq ?_
    refine TrC.condD (Lk.t rfl) (fun hc2 => ?_) (fun hc2 => ?_)
    · refine TrC.skip ?_
      refine TrE.seq ?_
      refine TrC.seq ?_
      refine TrC.block ?_
      refine TrC.seq ?_
      refine TrC.region rfl ?_
      refine L rfl rfl (PStep.ixD Tryz.runUnderlying105 Tryz.sizeOf118 rfl (Lk.slX (Lk.t rfl)) (Lk.t rfl) (by omega)) ?_
      refine L rfl rfl (PStep.ldRefV (α := Span) Tryz.isAgg118 Tryz.sizeOf118 rfl (Lk.t rfl) rfl) ?_
      refine TrL.alloc (AStep.alloc Tryz.zeroValue118 rfl (zc118) rfl rfl) rfl (fun b1 => ?_)
      refine LS rfl rfl (Step.storeW 0 Tryz.sizeOf118 rfl (Lk.t rfl) (Lk.t rfl) rfl rfl rfl) ?_
      refine TrL.nil ?_
      refine TrE.seq ?_
      refine TrC.seq ?_
      refine TrC.region rfl ?_
      refine L rfl rfl (PStep.move rfl (Lk.t rfl)) ?_
      refine L rfl rfl (PStep.faLoc fo118_0 rfl (Lk.t rfl)) ?_
      refine L rfl rfl (PStep.ldLoc 0 Tryz.isAgg3 rfl (Lk.t rfl) rfl rfl) ?_
      refine L rfl rfl (PStep.lookup 1 (kv := fun x : Int => Value.int .i64 x) (pv := fun v : Int => pI v) 0 mpT222 key3 Tryz.zeroValue3 (fun _ => rfl) rfl (Lk.t rfl) (Lk.t rfl) rfl) ?_
      refine L rfl rfl (PStep.add64 rfl (Lk.t rfl) Lk.c (by have := hB (ix (canon (ix l i)) k).from_; unfold getI at this; omega)) ?_
      refine LS rfl rfl (Step.mapUpdate 1 (kv := fun x : Int => Value.int .i64 x) (pv := fun v : Int => pI v) mpT222 key3 (.inl rfl) (Lk.t rfl) (Lk.t rfl) (Lk.t rfl) rfl) ?_
      refine TrL.nil ?_
      refine TrE.seq ?_
      refine TrC.region rfl ?_
      refine L rfl rfl (PStep.move rfl (Lk.t rfl)) ?_
      refine L rfl rfl (PStep.faLoc fo118_1 rfl (Lk.t rfl)) ?_
      refine L rfl rfl (PStep.ldLoc 0 Tryz.isAgg3 rfl (Lk.t rfl) rfl rfl) ?_
      refine L rfl rfl (PStep.lookup 1 (kv := fun x : Int => Value.int .i64 x) (pv := fun v : Int => pI v) 0 mpT222 key3 Tryz.zeroValue3 (fun _ => rfl) rfl (Lk.t rfl) (Lk.t rfl) rfl) ?_
      refine L rfl rfl (PStep.sub64 rfl (Lk.t rfl) Lk.c (by have := (hB.put (ix (canon (ix l i)) k).from_ (getI m2 (ix (canon (ix l i)) k).from_ + 1) (by have := hB (ix (canon (ix l i)) k).from_; omega)) (ix (canon (ix l i)) k).to_; unfold getI at this; omega)) ?_
      refine LS rfl rfl (Step.mapUpdate 1 (kv := fun x : Int => Value.int .i64 x) (pv := fun v : Int => pI v) mpT222 key3 (.inl rfl) (Lk.t rfl) (Lk.t rfl) (Lk.t rfl) rfl) ?_
      refine TrL.nil ?_
      refine TrE.blockN ?_
      refine TrE.seq ?_
      refine TrC.region rfl ?_
      refine L rfl rfl (PStep.add64 rfl (Lk.t rfl) Lk.c (by omega)) ?_
      refine L rfl rfl (PStep.move rfl (Lk.t rfl)) ?_
      refine TrL.nil ?_
      refine TrE.dropF 1 ?_
      refine TrE.again ((k + 1, _)) (⟨by omega, fold_step hc2 hI2, (hB.bump _).up (by omega), by exact Nat.le_trans (bump_length m2 (ix (canon (ix l i)) k)).1 (by omega)⟩) (by first | omega | (simp only []; omega)) (EnvSub.cons rfl (EnvSub.cons rfl (EnvSub.cons rfl (EnvSub.cons rfl (EnvSub.cons rfl (EnvSub.cons rfl (EnvSub.cons rfl (EnvSub.cons rfl (EnvSub.cons rfl EnvSub.nil))))))))) rfl
    · refine TrC.exit (TrE.thenX <| TrE.thenX <| TrE.blockHit <| ?_)
      refine TrE.blockN ?_
      refine TrE.seq ?_
      refine TrC.region rfl ?_
      refine L rfl rfl (PStep.add64 rfl (Lk.t rfl) Lk.c (by omega)) ?_
      refine L rfl rfl (PStep.move rfl (Lk.t rfl)) ?_
      refine TrL.nil ?_
      refine TrE.again ((i + 1, m2)) (⟨by omega, by have h2 := fold_step hc1 hI; rw [fold_end hc2 hI2]; exact h2, hB.up (by omega), by omega⟩) (by first | omega | (simp only []; omega)) (EnvSub.cons rfl (EnvSub.cons rfl (EnvSub.cons rfl (EnvSub.cons rfl (EnvSub.cons rfl (EnvSub.cons rfl EnvSub.nil)))))) rfl
  · refine TrC.exit (TrE.thenX <| TrE.thenX <| TrE.blockHit <| ?_)
    refine TrE.seq ?_
    refine TrC.seq ?_
    refine TrC.region rfl ?_
    refine L rfl rfl (PStep.move rfl (Lk.t rfl)) ?_
    refine L rfl rfl (PStep.lenMap 0 mpT222 rfl (Lk.t rfl) rfl) ?_
    refine TrL.allocG (AStep.make0 (α := Int) apT154 rfl rfl Lk.c (Lk.t rfl) (by omega)) rfl (fun r2 => ?_)
    refine L rfl rfl (PStep.assign rfl (Lk.t rfl)) ?_
    refine TrL.nil ?_
    refine TrE.seq ?_
    refine TrC.seq ?_
    refine TrC.seq ?_
    refine TrC.region rfl ?_
    refine L rfl rfl (PStep.move rfl (Lk.t rfl)) ?_
    refine TrL.range 1 mpT222 rfl rfl rfl (Lk.t rfl) rfl (fun bi es ck => ?_)
    refine TrL.nil ?_
    refine TrE.seq ?_
    refine TrC.block ?_
    refine TrC.loopM (X := IMap × Option (Int × Int) × OS × List Int) (fun ⟨left, cur, r, ks⟩ => (ks ++ left.map (·.1)).Perm (m.map (·.1))) (fun ⟨left, cur, r, ks⟩ => [(10, pOwn r ks)]) [(0, _), (4, _), (5, _), (46, _)] (fun ⟨left, cur, r, ks⟩ A => (List.set (List.set A 0 (hIter (fun x : Int => Value.int .i64 x) (fun v : Int => pI v) bi r1.b es ck left cur)) 1 (hOwn 3 r ks))) (fun ⟨left, cur, r, ks⟩ => left.length) ((m, none, _, [])) (List.Perm.refl _) (EnvSub.cons rfl (EnvSub.cons rfl (EnvSub.cons rfl (EnvSub.cons rfl (EnvSub.cons rfl EnvSub.nil))))) rfl ?_
    rintro ⟨left, cur, r, ks⟩ hP
    have hPl := hP.length_eq
    simp only [List.length_append, List.length_map] at hPl
    refine TrC.seq ?_
    refine TrC.region rfl ?_
    refine TrL.next 2 0 rfl rfl rfl (Lk.t rfl) rfl rfl (fun nx rest hnx => ?_)
    refine L rfl rfl (PStep.extract0 rfl (Lk.t rfl)) ?_
    refine TrL.nil ?_
    refine TrE.seq ?_
    refine TrC.seq ?_
    refine TrC.condB (Lk.t rfl) (fun hc3 => ?_) (fun hc3 => ?_)
    · have hs3 := hc3
      try simp only [decide_eq_true_eq, decide_eq_false_iff_not, Bool.and_eq_true, Bool.or_eq_true, Bool.not_eq_true', Bool.not_eq_false', Bool.and_eq_false_iff, Bool.or_eq_false_iff] at hs3
      refine TrC.skip ?_
      refine TrE.seq ?_
      refine TrC.block ?_
      refine TrC.seq ?_
      obtain ⟨e, rfl⟩ := Option.isSome_iff_exists.1 hc3
      refine TrC.region rfl ?_
      refine L rfl rfl (PStep.entry 2 0 rfl (Lk.t rfl) rfl rfl) ?_
      refine L rfl rfl (PStep.extract rfl (Lk.t rfl) rfl) ?_
      refine L rfl rfl (PStep.assign rfl (Lk.t rfl)) ?_
      refine TrL.nil ?_
      refine TrE.seq ?_
      refine TrC.region rfl ?_
      refine L rfl rfl (PStep.move rfl (Lk.t rfl)) ?_
      refine L rfl rfl (PStep.move rfl (Lk.t rfl)) ?_
      refine L rfl rfl (PStep.litX [_] slT154 rfl ⟨rfl, Lk.eI (Lk.t rfl), trivial⟩ rfl rfl) ?_
      refine TrL.append 1 apT154 rfl rfl rfl (Lk.t rfl) (Lk.slX (Lk.t rfl)) rfl (by simp; omega) (fun r3 => ?_)
      refine L rfl rfl (PStep.assign rfl (Lk.t rfl)) ?_
      refine TrL.nil ?_
      refine TrE.blockN ?_
      refine TrE.again ((rest, some e, _, _)) ((by have h := (hnx.map (·.1)).append_left ks; show ((ks ++ [e.1]) ++ rest.map (·.1)).Perm _; rw [List.append_assoc]; exact h.symm.trans hP)) (by have := hnx.length_eq; simp only [List.length_cons] at this ⊢; omega) (EnvSub.cons rfl (EnvSub.cons rfl (EnvSub.cons rfl (EnvSub.cons rfl (EnvSub.cons rfl EnvSub.nil))))) rfl
    · have hs3 := hc3
      try simp only [decide_eq_true_eq, decide_eq_false_iff_not, Bool.and_eq_true, Bool.or_eq_true, Bool.not_eq_true', Bool.not_eq_false', Bool.and_eq_false_iff, Bool.or_eq_false_iff] at hs3
      refine TrC.exit (TrE.thenX <| TrE.thenX <| TrE.blockHit <| ?_)
      refine TrE.seq ?_
      refine TrC.seq ?_
      obtain rfl : nx = none := by cases nx with | none => rfl | some _ => cases hc3
      obtain ⟨rfl, rfl⟩ := hnx
      have hP2 : ks.Perm (m.map (·.1)) := by simpa using hP
      have hm := fold_end hc1 hI
      refine TrC.region rfl ?_
      refine L rfl rfl (PStep.move rfl (Lk.t rfl)) ?_
      refine TrL.callD 1 (s_SortInts _ _ (by omega)) Tryz.call179 rfl rfl rfl (LkAll.cons (Lk.t rfl) LkAll.nil) rfl (fun _ => ?_)
      refine TrL.re 10 rfl (pOwn.imp (List.length_mergeSort (le := fun x y : Int => decide (x ≤ y)) _).symm) ?_
      refine TrL.re 55 rfl (pOwn.imp (List.length_mergeSort (le := fun x y : Int => decide (x ≤ y)) _).symm) ?_
      refine TrL.nil ?_
      refine TrE.seq ?_
      refine TrC.seq ?_
      refine TrC.settle 1 10 rfl rfl ?_
      obtain ⟨bs, hbs⟩ : ∃ bs, (ks.mergeSort fun x y => decide (x ≤ y)) = bs := ⟨_, rfl⟩
      have hbl : bs.length = ks.length := by rw [← hbs, List.length_mergeSort]
      rw [hbs]
      refine TrC.weakA (h' := hMap (fun x : Int => Value.int .i64 x) (fun v : Int => pI v) r1.b m) 2 rfl rfl hMapE.weak ?_
      refine TrC.region rfl ?_
      refine L rfl rfl (PStep.assign rfl Lk.c) ?_
      refine TrL.nil ?_
      refine TrE.seq ?_
      refine TrC.seq ?_
      refine TrC.region rfl ?_
      refine L rfl rfl (PStep.assign rfl Lk.c) ?_
      refine TrL.nil ?_
      refine TrE.seq ?_
      refine TrC.seq ?_
      refine TrC.seq ?_
      refine TrC.region rfl ?_
      refine L rfl rfl (PStep.move rfl (Lk.t rfl)) ?_
      refine L rfl rfl (PStep.len (tys := #[]) Tryz.runUnderlying154 rfl (Lk.t rfl)) ?_
      refine L rfl rfl (PStep.sub64 rfl (Lk.t rfl) Lk.c (by omega)) ?_
      refine L rfl rfl (PStep.move rfl Lk.c) ?_
      refine TrL.nil ?_
      refine TrE.seq ?_
      refine TrC.block ?_
      refine TrC.lay (hOwn 118 .nil ([] : List Span)) rfl ?_
      refine TrC.loopM (X := Nat × Int × OS × List Span) (fun ⟨i, c, r, out⟩ => i ≤ bs.length ∧ out ++ segs keep m c (bs.drop i) = segs keep m 0 bs ∧ out.length ≤ i ∧ (-((i : Int) * 200000000) ≤ c ∧ c ≤ (i : Int) * 200000000)) (fun ⟨i, c, r, out⟩ => [(60, pI i), (13, pI c), (12, pOwn r out)]) [(0, _), (4, _), (5, _), (10, _), (59, _)] (fun ⟨i, c, r, out⟩ A => (List.set A 0 (hOwn 118 r out))) (fun ⟨i, c, r, out⟩ => bs.length - i) ((0, 0, .nil, [])) (⟨by omega, rfl, by simp, by omega⟩) (EnvSub.cons rfl (EnvSub.cons rfl (EnvSub.consI rfl nilOwn (EnvSub.cons rfl (EnvSub.cons rfl (EnvSub.cons rfl (EnvSub.cons rfl (EnvSub.cons rfl EnvSub.nil)))))))) rfl ?_
      rintro ⟨i, c, r, out⟩ ⟨hi, hI, ho, hcb⟩
      refine TrC.seq ?_
      refine TrC.region rfl ?_
      refine L rfl rfl (PStep.lss rfl (Lk.t rfl) (Lk.t rfl)) ?_
      refine TrL.nil ?_
      refine TrE.seq ?_
      refine TrC.seq ?_
      refine TrC.condD (Lk.t rfl) (fun hc4 => ?_) (fun hc4 => ?_)
      · refine TrC.skip ?_
        refine TrE.seq ?_
        refine TrC.seq ?_
        refine TrC.block ?_
        refine TrC.seq ?_
        refine TrC.region rfl ?_
        refine L rfl rfl (PStep.move rfl (Lk.t rfl)) ?_
        refine L rfl rfl (PStep.assign rfl (Lk.t rfl)) ?_
        refine TrL.nil ?_
        refine TrE.seq ?_
        refine TrC.seq ?_
        refine TrC.region rfl ?_
        refine L rfl rfl (PStep.move rfl (Lk.t rfl)) ?_
        refine L rfl rfl (PStep.move rfl (Lk.t rfl)) ?_
        refine L rfl rfl (PStep.move rfl (Lk.t rfl)) ?_
        refine L rfl rfl (PStep.move rfl (Lk.t rfl)) ?_
        refine L rfl rfl (PStep.ixD Tryz.runUnderlying154 Tryz.sizeOf3 rfl (Lk.t rfl) (Lk.t rfl) (by omega)) ?_
        refine L rfl rfl (PStep.ldRef Tryz.isAgg3 rfl (Lk.t rfl) rfl) ?_
        refine L rfl rfl (PStep.lookup 3 (kv := fun x : Int => Value.int .i64 x) (pv := fun v : Int => pI v) 0 mpT222 key3 Tryz.zeroValue3 (fun _ => rfl) rfl (Lk.t rfl) (Lk.t rfl) rfl) ?_
        refine L rfl rfl (PStep.add64 rfl (Lk.t rfl) (Lk.t rfl) (by have := hB0 (ix bs i); unfold getI at this; omega)) ?_
        refine L rfl rfl (PStep.assign rfl (Lk.t rfl)) ?_
        refine TrL.nil ?_
        refine TrE.seq ?_
        refine TrC.seq ?_
        refine TrC.region rfl ?_
        refine L rfl rfl (PStep.move rfl (Lk.t rfl)) ?_
        refine L rfl rfl (PStep.move rfl (Lk.t rfl)) ?_
        refine L rfl rfl (PStep.callV _ rfl (Lk.t rfl) (LkAll.cons (Lk.t rfl) LkAll.nil)) ?_
        refine TrL.nil ?_
        refine TrE.seq ?_
        refine TrC.condB (Lk.t rfl) (fun hc5 => ?_) (fun hc5 => ?_)
        · have hs5 := hc5
          try simp only [decide_eq_true_eq, decide_eq_false_iff_not, Bool.and_eq_true, Bool.or_eq_true, Bool.not_eq_true', Bool.not_eq_false', Bool.and_eq_false_iff, Bool.or_eq_false_iff] at hs5
          refine TrC.flow 12 mixed rfl (by kernel_rfl) (by kernel_rfl) ?_
          refine F rfl rfl (PStep.move rfl (Lk.t rfl)) ?_
          refine F rfl rfl (PStep.move rfl (Lk.t rfl)) ?_
          refine F rfl rfl (PStep.move rfl (Lk.t rfl)) ?_
          refine F rfl rfl (PStep.ixD Tryz.runUnderlying154 Tryz.sizeOf3 rfl (Lk.t rfl) (Lk.t rfl) (by omega)) ?_
          refine F rfl rfl (PStep.ldRef Tryz.isAgg3 rfl (Lk.t rfl) rfl) ?_
          refine F rfl rfl (PStep.move rfl (Lk.t rfl)) ?_
          refine F rfl rfl (PStep.move rfl (Lk.t rfl)) ?_
          refine F rfl rfl (PStep.add64 rfl (Lk.t rfl) Lk.c (by omega)) ?_
          refine F rfl rfl (PStep.ixD Tryz.runUnderlying154 Tryz.sizeOf3 rfl (Lk.t rfl) (Lk.t rfl) (by omega)) ?_
          refine F rfl rfl (PStep.ldRef Tryz.isAgg3 rfl (Lk.t rfl) rfl) ?_
          refine F rfl rfl (mk118_01 rfl (Lk.t rfl) (Lk.t rfl)) ?_
          refine F rfl rfl (PStep.litX [_] slT105 rfl ⟨rfl, Lk.agg (Lk.t rfl), trivial⟩ rfl rfl) ?_
          refine FlowH.nil ?_
          refine ⟨rfl, ?_⟩
          refine AllocK.none rfl ?_
          refine TrL.append 0 apT105 rfl rfl rfl (Lk.t rfl) (Lk.slX (Lk.t rfl)) rfl (by simp; omega) (fun r4 => ?_)
          refine L rfl rfl (PStep.assign rfl (Lk.t rfl)) ?_
          refine TrL.nil ?_
          refine TrE.blockN ?_
          refine TrE.seq ?_
          refine TrC.region rfl ?_
          refine L rfl rfl (PStep.add64 rfl (Lk.t rfl) Lk.c (by omega)) ?_
          refine L rfl rfl (PStep.move rfl (Lk.t rfl)) ?_
          refine TrL.nil ?_
          refine TrE.again ((i + 1, _, _, _)) (⟨by omega, by rw [segs_step hc4, if_pos (show keep (c + getI m (ix bs i)) = true from hc5)] at hI; rw [List.append_assoc]; exact hI, by simp; omega, by have := hB0 (ix bs i); unfold getI at this; omega⟩) (by first | omega | (simp only []; omega)) (EnvSub.cons rfl (EnvSub.cons rfl (EnvSub.cons rfl (EnvSub.cons rfl (EnvSub.cons rfl (EnvSub.cons rfl (EnvSub.cons rfl (EnvSub.cons rfl EnvSub.nil)))))))) rfl
        · have hs5 := hc5
          try simp only [decide_eq_true_eq, decide_eq_false_iff_not, Bool.and_eq_true, Bool.or_eq_true, Bool.not_eq_true', Bool.not_eq_false', Bool.and_eq_false_iff, Bool.or_eq_false_iff] at hs5
          refine TrC.skip ?_
          refine TrE.blockN ?_
          refine TrE.seq ?_
          refine TrC.region rfl ?_
          refine L rfl rfl (PStep.add64 rfl (Lk.t rfl) Lk.c (by omega)) ?_
          refine L rfl rfl (PStep.move rfl (Lk.t rfl)) ?_
          refine TrL.nil ?_
          refine TrE.again ((i + 1, _, _, _)) (⟨by omega, by rw [segs_step hc4, if_neg (show ¬ keep (c + getI m (ix bs i)) = true from ne_true_of_eq_false hc5)] at hI; exact hI, by omega, by have := hB0 (ix bs i); unfold getI at this; omega⟩) (by first | omega | (simp only []; omega)) (EnvSub.cons rfl (EnvSub.cons rfl (EnvSub.cons rfl (EnvSub.cons rfl (EnvSub.cons rfl (EnvSub.cons rfl (EnvSub.cons rfl (EnvSub.cons rfl EnvSub.nil)))))))) rfl
      · refine TrC.exit (TrE.thenX <| TrE.thenX <| TrE.blockHit <| ?_)
        refine TrE.seq ?_
        refine TrC.seq ?_
        refine TrC.settle 0 12 rfl rfl ?_
        refine TrC.region rfl ?_
        refine L rfl rfl (PStep.move rfl (Lk.t rfl)) ?_
        refine L rfl rfl (PStep.call (s_Canonical _ (by omega)) Tryz.call102 rfl (LkAll.cons (Lk.t rfl) LkAll.nil)) ?_
        refine L rfl rfl (PStep.assign rfl (Lk.t rfl)) ?_
        refine TrL.nil ?_
        refine TrE.seq ?_
        refine TrC.ret (?_)
        refine TrE.retOK (RetOK.eq (?_ : _ = _) (RetOK.tmp rfl (Lk.t rfl) (List.nil_sublist _)))
        rw [segs_end hc4, List.append_nil] at hI; rw [hI, ← hbs, keys_perm hP2, hm]
        all_goals rfl
end Go.Mp
set_option maxRecDepth 100000
set_option maxHeartbeats 4000000
set_option linter.unusedVariables false
set_option linter.unusedSimpArgs false
namespace Go.Mp
open Go Go.Proofs
theorem s_Intersect1 (n : Int) (l : List (List Span)) : Fn Tryz.prog 140 [pI n, pRef [pSl l]] (pB (decide (n = l.length))) := by
  refine Spec.mk Tryz.func140 rfl rfl fun B => ?_
  refine TrC.seq ?_
  refine TrC.region rfl ?_
  refine L rfl rfl (PStep.assign rfl Lk.c) ?_
  refine TrL.nil ?_
  refine TrE.seq ?_
  refine TrC.seq ?_
  refine TrC.region rfl ?_
  refine L rfl rfl (PStep.move rfl (Lk.t rfl)) ?_
  refine L rfl rfl (PStep.ldRef Tryz.isAgg184 rfl (Lk.t rfl) rfl) ?_
  refine L rfl rfl (PStep.len (tys := #[]) Tryz.runUnderlying184 rfl (Lk.t rfl)) ?_
  refine L rfl rfl (PStep.eql rfl (Lk.t rfl) (Lk.t rfl)) ?_
  refine L rfl rfl (PStep.assign rfl (Lk.t rfl)) ?_
  refine TrL.nil ?_
  refine TrE.seq ?_
  refine TrC.ret (?_)
  refine TrE.retOK (RetOK.eq (?_ : _ = _) (RetOK.tmp rfl (Lk.t rfl) (List.nil_sublist _)))
  rfl
theorem s_Intersect (l : List (List Span)) (hl : l.length ≤ 100) (hs : ∀ s ∈ l, s.length ≤ 1000000) : Fn Tryz.prog 101 [pSl l] (pSlX (intersect l)) := by
  refine Spec.mk Tryz.func101 rfl rfl fun B => ?_
  refine TrC.seq ?_
  refine TrC.region rfl ?_
  refine TrL.alloc (AStep.box1 rfl rfl (Lk.t rfl)) rfl (fun b1 => ?_)
  refine L rfl rfl (PStep.assign rfl Lk.c) ?_
  refine TrL.nil ?_
  refine TrE.seq ?_
  refine TrC.seq ?_
  refine TrC.settleC 0 1 rfl rfl ?_
  refine TrC.region rfl ?_
  refine L rfl rfl (PStep.mkFun (ps := fun (n : Int) => [pI n]) (fun n => s_Intersect1 n _) Tryz.call140 rfl (LkAll.cons (Lk.t rfl) LkAll.nil)) ?_
  refine L rfl rfl (PStep.ldRef Tryz.isAgg184 rfl (Lk.t rfl) rfl) ?_
  refine L rfl rfl (PStep.call (s_combine _ l hl hs) Tryz.call139 rfl (LkAll.cons (Lk.t rfl) (LkAll.cons (Lk.t rfl) LkAll.nil))) ?_
  refine L rfl rfl (PStep.assign rfl (Lk.t rfl)) ?_
  refine TrL.nil ?_
  refine TrE.seq ?_
  refine TrC.ret (?_)
  refine TrE.retOK (RetOK.eq (?_ : _ = _) (RetOK.tmp rfl (Lk.t rfl) (List.nil_sublist _)))
  rfl
theorem s_Union1 (n : Int) : Fn Tryz.prog 263 [pI n] (pB (decide (0 < n))) := by
  refine Spec.mk Tryz.func263 rfl rfl fun B => ?_
  refine TrC.seq ?_
  refine TrC.region rfl ?_
  refine L rfl rfl (PStep.assign rfl Lk.c) ?_
  refine TrL.nil ?_
  refine TrE.seq ?_
  refine TrC.seq ?_
  refine TrC.region rfl ?_
  refine L rfl rfl (PStep.move rfl (Lk.t rfl)) ?_
  refine L rfl rfl (PStep.gtr rfl (Lk.t rfl) Lk.c) ?_
  refine L rfl rfl (PStep.assign rfl (Lk.t rfl)) ?_
  refine TrL.nil ?_
  refine TrE.seq ?_
  refine TrC.ret (?_)
  refine TrE.retOK (RetOK.eq (?_ : _ = _) (RetOK.tmp rfl (Lk.t rfl) (List.nil_sublist _)))
  rfl
theorem s_Union (l : List (List Span)) (hl : l.length ≤ 100) (hs : ∀ s ∈ l, s.length ≤ 1000000) : Fn Tryz.prog 249 [pSl l] (pSlX (union l)) := by
  refine Spec.mk Tryz.func249 rfl rfl fun B => ?_
  refine TrC.seq ?_
  refine TrC.region rfl ?_
  refine L rfl rfl (PStep.assign rfl Lk.c) ?_
  refine TrL.nil ?_
  refine TrE.seq ?_
  refine TrC.seq ?_
  refine TrC.region rfl ?_
  refine L rfl rfl (PStep.move rfl (Lk.t rfl)) ?_
  refine L rfl rfl (PStep.call (s_combine _ l hl hs) Tryz.call139 rfl (LkAll.cons (Lk.fn (fun x => s_Union1 x) Tryz.call263) (LkAll.cons (Lk.t rfl) LkAll.nil))) ?_
  refine L rfl rfl (PStep.assign rfl (Lk.t rfl)) ?_
  refine TrL.nil ?_
  refine TrE.seq ?_
  refine TrC.ret (?_)
  refine TrE.retOK (RetOK.eq (?_ : _ = _) (RetOK.tmp rfl (Lk.t rfl) (List.nil_sublist _)))
  rfl
theorem s_Complement1 (n : Int) : Fn Tryz.prog 143 [pI n] (pB (decide (n = 0))) := by
  refine Spec.mk Tryz.func143 rfl rfl fun B => ?_
  refine TrC.seq ?_
  refine TrC.region rfl ?_
  refine L rfl rfl (PStep.assign rfl Lk.c) ?_
  refine TrL.nil ?_
  refine TrE.seq ?_
  refine TrC.seq ?_
  refine TrC.region rfl ?_
  refine L rfl rfl (PStep.move rfl (Lk.t rfl)) ?_
  refine L rfl rfl (PStep.eql rfl (Lk.t rfl) Lk.c) ?_
  refine L rfl rfl (PStep.assign rfl (Lk.t rfl)) ?_
  refine TrL.nil ?_
  refine TrE.seq ?_
  refine TrC.ret (?_)
  refine TrE.retOK (RetOK.eq (?_ : _ = _) (RetOK.tmp rfl (Lk.t rfl) (List.nil_sublist _)))
  rfl
theorem s_Complement (s : List Span) (hs : s.length ≤ 1000000) : Fn Tryz.prog 103 [pSl s] (pSlX (complement s)) := by
  refine Spec.mk Tryz.func103 rfl rfl fun B => ?_
  refine TrC.seq ?_
  refine TrC.region rfl ?_
  refine L rfl rfl (PStep.assign rfl Lk.c) ?_
  refine TrL.nil ?_
  refine TrE.seq ?_
  refine TrC.seq ?_
  refine TrC.region rfl ?_
  refine L rfl rfl (PStep.move rfl (Lk.t rfl)) ?_
  refine L rfl rfl (PStep.litX [_] slT184 rfl ⟨rfl, Lk.eL (Lk.t rfl), trivial⟩ rfl rfl) ?_
  refine L rfl rfl (PStep.call (s_combine _ [s] (by simp) (by intro t ht; rw [List.mem_singleton.1 ht]; exact hs)) Tryz.call139 rfl (LkAll.cons (Lk.fn (fun x => s_Complement1 x) Tryz.call143) (LkAll.cons (Lk.slX (Lk.t rfl)) LkAll.nil))) ?_
  refine L rfl rfl (PStep.assign rfl (Lk.t rfl)) ?_
  refine TrL.nil ?_
  refine TrE.seq ?_
  refine TrC.ret (?_)
  refine TrE.retOK (RetOK.eq (?_ : _ = _) (RetOK.tmp rfl (Lk.t rfl) (List.nil_sublist _)))
  rfl
end Go.Mp
set_option maxRecDepth 100000
set_option maxHeartbeats 4000000
set_option linter.unusedVariables false
set_option linter.unusedSimpArgs false
namespace Go.Mp
open Go Go.Proofs
theorem s_always (t : Term) (ht : t.set_.length ≤ 1000000) : Fn Tryz.prog 60 [pT t] (pB (always t)) := by
  refine Spec.mk Tryz.func60 rfl rfl fun B => ?_
  refine TrC.seq ?_
  refine TrC.region rfl ?_
  refine TrL.alloc (AStep.boxK rfl rfl (Lk.t rfl)) rfl (fun b1 => ?_)
  refine L rfl rfl (PStep.assign rfl Lk.c) ?_
  refine TrL.nil ?_
  refine TrE.seq ?_
  refine TrC.seq ?_
  refine TrC.region rfl ?_
  refine L rfl rfl (PStep.faLoc fo107_1 rfl (Lk.t rfl)) ?_
  refine L rfl rfl (PStep.ldLoc 0 Tryz.isAgg4 rfl (Lk.t rfl) rfl rfl) ?_
  refine L rfl rfl (PStep.move rfl (Lk.t rfl)) ?_
  refine LW rfl (WStep.guard rfl rfl rfl rfl (fun hg => PStep.faLoc fo107_2 rfl (Lk.t rfl))) ?_
  refine LW rfl (WStep.guard rfl rfl rfl rfl (fun hg => PStep.ldLoc 0 Tryz.isAgg105 rfl (Lk.g rfl hg) rfl rfl)) ?_
  refine LW rfl (WStep.guard rfl rfl rfl rfl (fun hg => PStep.call (s_Complement _ (by have hg_ := hg; (try simp only [decide_eq_true_eq, decide_eq_false_iff_not, Bool.and_eq_true, Bool.or_eq_true, Bool.not_eq_true', Bool.not_eq_false', Bool.and_eq_false_iff, Bool.or_eq_false_iff] at hg_); omega)) Tryz.call103 rfl (LkAll.cons (Lk.g rfl hg) LkAll.nil))) ?_
  refine LW rfl (WStep.guard rfl rfl rfl rfl (fun hg => PStep.len (tys := #[]) Tryz.runUnderlying105 rfl (Lk.slX (Lk.g rfl hg)))) ?_
  refine LW rfl (WStep.guard rfl rfl rfl rfl (fun hg => PStep.eql rfl (Lk.g rfl hg) Lk.c)) ?_
  refine L rfl rfl (PStep.pickAnd rfl (Lk.t rfl) (fun hq => Lk.g rfl hq)) ?_
  refine L rfl rfl (PStep.assign rfl (Lk.t rfl)) ?_
  refine TrL.nil ?_
  refine TrE.seq ?_
  refine TrC.ret (?_)
  refine TrE.retOK (RetOK.eq (?_ : _ = _) (RetOK.tmp rfl (Lk.t rfl) (List.nil_sublist _)))
  rfl
theorem s_never (t : Term) (ht : t.set_.length ≤ 1000000) : Fn Tryz.prog 59 [pT t] (pB (never t)) := by
  refine Spec.mk Tryz.func59 rfl rfl fun B => ?_
  refine TrC.seq ?_
  refine TrC.region rfl ?_
  refine TrL.alloc (AStep.boxK rfl rfl (Lk.t rfl)) rfl (fun b1 => ?_)
  refine L rfl rfl (PStep.assign rfl Lk.c) ?_
  refine TrL.nil ?_
  refine TrE.seq ?_
  refine TrC.seq ?_
  refine TrC.region rfl ?_
  refine L rfl rfl (PStep.faLoc fo107_1 rfl (Lk.t rfl)) ?_
  refine L rfl rfl (PStep.ldLoc 0 Tryz.isAgg4 rfl (Lk.t rfl) rfl rfl) ?_
  refine L rfl rfl (PStep.not rfl (Lk.t rfl)) ?_
  refine L rfl rfl (PStep.move rfl (Lk.t rfl)) ?_
  refine LW rfl (WStep.guard rfl rfl rfl rfl (fun hg => PStep.faLoc fo107_2 rfl (Lk.t rfl))) ?_
  refine LW rfl (WStep.guard rfl rfl rfl rfl (fun hg => PStep.ldLoc 0 Tryz.isAgg105 rfl (Lk.g rfl hg) rfl rfl)) ?_
  refine LW rfl (WStep.guard rfl rfl rfl rfl (fun hg => PStep.call (s_Canonical _ (by have hg_ := hg; (try simp only [decide_eq_true_eq, decide_eq_false_iff_not, Bool.and_eq_true, Bool.or_eq_true, Bool.not_eq_true', Bool.not_eq_false', Bool.and_eq_false_iff, Bool.or_eq_false_iff] at hg_); omega)) Tryz.call102 rfl (LkAll.cons (Lk.g rfl hg) LkAll.nil))) ?_
  refine LW rfl (WStep.guard rfl rfl rfl rfl (fun hg => PStep.len (tys := #[]) Tryz.runUnderlying105 rfl (Lk.slX (Lk.g rfl hg)))) ?_
  refine LW rfl (WStep.guard rfl rfl rfl rfl (fun hg => PStep.eql rfl (Lk.g rfl hg) Lk.c)) ?_
  refine L rfl rfl (PStep.pickAnd rfl (Lk.t rfl) (fun hq => Lk.g rfl hq)) ?_
  refine L rfl rfl (PStep.assign rfl (Lk.t rfl)) ?_
  refine TrL.nil ?_
  refine TrE.seq ?_
  refine TrC.ret (?_)
  refine TrE.retOK (RetOK.eq (?_ : _ = _) (RetOK.tmp rfl (Lk.t rfl) (List.nil_sublist _)))
  rfl
theorem s_both (a b : Term) (ha : a.set_.length ≤ 1000000) (hb : b.set_.length ≤ 1000000) : Fn Tryz.prog 58 [pT a, pT b] (pT (both a b)) := by
  refine Spec.mk Tryz.func58 rfl rfl fun B => ?_
  refine TrC.seq ?_
  refine TrC.region rfl ?_
  refine TrL.alloc (AStep.boxK rfl rfl (Lk.t rfl)) rfl (fun b1 => ?_)
  refine TrL.alloc (AStep.boxK rfl rfl (Lk.t rfl)) rfl (fun b2 => ?_)
  refine TrL.alloc (AStep.alloc Tryz.zeroValue107 rfl (zc107) rfl rfl) rfl (fun b3 => ?_)
  refine TrL.nil ?_
  refine TrE.seq ?_
  refine TrC.seq ?_
  refine TrC.flow 15 mixed rfl (by kernel_rfl) (by kernel_rfl) ?_
  refine F rfl rfl (PStep.faLoc fo107_0 rfl (Lk.t rfl)) ?_
  refine F rfl rfl (PStep.ldLoc 2 Tryz.isAgg9 rfl (Lk.t rfl) rfl rfl) ?_
  refine F rfl rfl (PStep.faLoc fo107_1 rfl (Lk.t rfl)) ?_
  refine F rfl rfl (PStep.ldLoc 2 Tryz.isAgg4 rfl (Lk.t rfl) rfl rfl) ?_
  refine F rfl rfl (PStep.move rfl (Lk.t rfl)) ?_
  refine FW rfl (WStep.guard rfl rfl rfl rfl (fun hg => PStep.faLoc fo107_1 rfl (Lk.t rfl))) ?_
  refine FW rfl (WStep.guard rfl rfl rfl rfl (fun hg => PStep.ldLoc 1 Tryz.isAgg4 rfl (Lk.g rfl hg) rfl rfl)) ?_
  refine F rfl rfl (PStep.pickAnd rfl (Lk.t rfl) (fun hq => Lk.g rfl hq)) ?_
  refine F rfl rfl (PStep.faLoc fo107_2 rfl (Lk.t rfl)) ?_
  refine F rfl rfl (PStep.ldLoc 2 Tryz.isAgg105 rfl (Lk.t rfl) rfl rfl) ?_
  refine F rfl rfl (PStep.faLoc fo107_2 rfl (Lk.t rfl)) ?_
  refine F rfl rfl (PStep.ldLoc 1 Tryz.isAgg105 rfl (Lk.t rfl) rfl rfl) ?_
  refine F rfl rfl (PStep.litX [_, _] slT184 rfl ⟨rfl, Lk.eL (Lk.t rfl), ⟨rfl, Lk.eL (Lk.t rfl), trivial⟩⟩ rfl rfl) ?_
  refine F rfl rfl (PStep.call (s_Intersect [a.set_, b.set_] (by simp) (by intro s hs; simp only [List.mem_cons, List.not_mem_nil, or_false] at hs; rcases hs with rfl | rfl <;> assumption)) Tryz.call101 rfl (LkAll.cons (Lk.slX (Lk.t rfl)) LkAll.nil)) ?_
  refine F rfl rfl (mk107_012 rfl (Lk.t rfl) (Lk.t rfl) (Lk.slX (Lk.t rfl))) ?_
  refine FlowH.nil ?_
  refine ⟨rfl, ?_⟩
  refine AllocK.none rfl ?_
  refine LS rfl rfl (Step.storeW 0 Tryz.sizeOf107 rfl (Lk.t rfl) (Lk.t rfl) rfl rfl rfl) ?_
  refine TrL.nil ?_
  refine TrE.seq ?_
  refine TrC.ret (?_)
  refine TrE.retOK (RetOK.eq (?_ : _ = _) (RetOK.cell 0 Tryz.isAgg107 Tryz.sizeOf107 rfl (Lk.t rfl) rfl rfl (List.nil_sublist _)))
  rfl
theorem s_either (a b : Term) (ha : a.set_.length ≤ 1000000) (hb : b.set_.length ≤ 1000000) : Fn Tryz.prog 225 [pT a, pT b] (pT (either a b)) := by
  refine Spec.mk Tryz.func225 rfl rfl fun B => ?_
  refine TrC.seq ?_
  refine TrC.region rfl ?_
  refine TrL.alloc (AStep.boxK rfl rfl (Lk.t rfl)) rfl (fun b1 => ?_)
  refine TrL.alloc (AStep.boxK rfl rfl (Lk.t rfl)) rfl (fun b2 => ?_)
  refine TrL.alloc (AStep.alloc Tryz.zeroValue107 rfl (zc107) rfl rfl) rfl (fun b3 => ?_)
  refine TrL.nil ?_
  refine TrE.seq ?_
  refine TrC.seq ?_
  refine TrC.flow 15 mixed rfl (by kernel_rfl) (by kernel_rfl) ?_
  refine F rfl rfl (PStep.faLoc fo107_0 rfl (Lk.t rfl)) ?_
  refine F rfl rfl (PStep.ldLoc 2 Tryz.isAgg9 rfl (Lk.t rfl) rfl rfl) ?_
  refine F rfl rfl (PStep.faLoc fo107_1 rfl (Lk.t rfl)) ?_
  refine F rfl rfl (PStep.ldLoc 2 Tryz.isAgg4 rfl (Lk.t rfl) rfl rfl) ?_
  refine F rfl rfl (PStep.move rfl (Lk.t rfl)) ?_
  refine FW rfl (WStep.guard rfl rfl rfl rfl (fun hg => PStep.faLoc fo107_1 rfl (Lk.t rfl))) ?_
  refine FW rfl (WStep.guard rfl rfl rfl rfl (fun hg => PStep.ldLoc 1 Tryz.isAgg4 rfl (Lk.g rfl hg) rfl rfl)) ?_
  refine F rfl rfl (PStep.pickOr rfl (Lk.t rfl) (fun hq => Lk.g rfl hq)) ?_
  refine F rfl rfl (PStep.faLoc fo107_2 rfl (Lk.t rfl)) ?_
  refine F rfl rfl (PStep.ldLoc 2 Tryz.isAgg105 rfl (Lk.t rfl) rfl rfl) ?_
  refine F rfl rfl (PStep.faLoc fo107_2 rfl (Lk.t rfl)) ?_
  refine F rfl rfl (PStep.ldLoc 1 Tryz.isAgg105 rfl (Lk.t rfl) rfl rfl) ?_
  refine F rfl rfl (PStep.litX [_, _] slT184 rfl ⟨rfl, Lk.eL (Lk.t rfl), ⟨rfl, Lk.eL (Lk.t rfl), trivial⟩⟩ rfl rfl) ?_
  refine F rfl rfl (PStep.call (s_Union [a.set_, b.set_] (by simp) (by intro s hs; simp only [List.mem_cons, List.not_mem_nil, or_false] at hs; rcases hs with rfl | rfl <;> assumption)) Tryz.call249 rfl (LkAll.cons (Lk.slX (Lk.t rfl)) LkAll.nil)) ?_
  refine F rfl rfl (mk107_012 rfl (Lk.t rfl) (Lk.t rfl) (Lk.slX (Lk.t rfl))) ?_
  refine FlowH.nil ?_
  refine ⟨rfl, ?_⟩
  refine AllocK.none rfl ?_
  refine LS rfl rfl (Step.storeW 0 Tryz.sizeOf107 rfl (Lk.t rfl) (Lk.t rfl) rfl rfl rfl) ?_
  refine TrL.nil ?_
  refine TrE.seq ?_
  refine TrC.ret (?_)
  refine TrE.retOK (RetOK.eq (?_ : _ = _) (RetOK.cell 0 Tryz.isAgg107 Tryz.sizeOf107 rfl (Lk.t rfl) rfl rfl (List.nil_sublist _)))
  rfl
theorem s_merge (l : List Term) (hok : ∀ t ∈ l, TOK t) : FnRow Tryz.prog 57 [pSl l, pFun Tryz.prog (fun x : TPair => [pT x.1.1, pT x.1.2]) (fun x => pT (both x.1.1 x.1.2))] (fun r => pMp r.b) (fun r => hMap (fun x : ByteArray => Value.string x) (fun v : Term => pT v) r.b (mergeT l)) := by
  refine SpecX.mk Tryz.func57 rfl rfl fun B => ?_
  refine TrC.know (Lk.t (t := 0) rfl) pSl.lt fun hl0 => ?_
  refine TrC.seq ?_
  refine TrC.region rfl ?_
  refine L rfl rfl (PStep.assign rfl Lk.c) ?_
  refine TrL.nil ?_
  refine TrE.seq ?_
  refine TrC.seq ?_
  refine TrC.region rfl ?_
  refine TrL.allocG (AStep.makeMap (fun x : ByteArray => Value.string x) (fun v : Term => pT v) rfl rfl) rfl (fun r1 => ?_)
  refine L rfl rfl (PStep.assign rfl (Lk.t rfl)) ?_
  refine TrL.nil ?_
  refine TrE.seq ?_
  refine TrC.seq ?_
  refine TrC.seq ?_
  refine TrC.region rfl ?_
  refine L rfl rfl (PStep.move rfl (Lk.t rfl)) ?_
  refine L rfl rfl (PStep.len (tys := #[]) Tryz.runUnderlying50 rfl (Lk.t rfl)) ?_
  refine L rfl rfl (PStep.move rfl Lk.c) ?_
  refine TrL.nil ?_
  refine TrE.seq ?_
  refine TrC.block ?_
  refine TrC.loopM (X := Nat × TMap) (fun ⟨i, m⟩ => i ≤ l.length ∧ (l.drop i).foldl mergeT1 m = mergeT l ∧ MOK m) (fun ⟨i, m⟩ => [(13, pI i)]) [(1, _), (4, _), (5, _), (11, _), (12, _)] (fun ⟨i, m⟩ A => (List.set A 0 (hMap (fun x : ByteArray => Value.string x) (fun v : Term => pT v) r1.b m))) (fun ⟨i, m⟩ => l.length - i) ((0, [])) (⟨by omega, rfl, fun e he => by cases he⟩) (EnvSub.cons rfl (EnvSub.cons rfl (EnvSub.cons rfl (EnvSub.cons rfl (EnvSub.cons rfl (EnvSub.cons rfl EnvSub.nil)))))) rfl ?_
  rintro ⟨i, m⟩ ⟨hi, hI, hM⟩
  refine TrC.seq ?_
  refine TrC.region rfl ?_
  refine L rfl rfl (PStep.lss rfl (Lk.t rfl) (Lk.t rfl)) ?_
  refine TrL.nil ?_
  refine TrE.seq ?_
  refine TrC.seq ?_
  refine TrC.condD (Lk.t rfl) (fun hc1 => ?_) (fun hc1 => ?_)
  · refine TrC.skip ?_
    refine TrE.seq ?_
    refine TrC.seq ?_
    refine TrC.block ?_
    refine TrC.seq ?_
    have hti : TOK (ix l i) := hok _ (by rw [ix_nat l i (by omega)]; exact List.getElem_mem _)
    refine TrC.region rfl ?_
    refine L rfl rfl (PStep.ixD Tryz.runUnderlying50 Tryz.sizeOf107 rfl (Lk.t rfl) (Lk.t rfl) (by omega)) ?_
    refine L rfl rfl (PStep.ldRefV (α := Term) Tryz.isAgg107 Tryz.sizeOf107 rfl (Lk.t rfl) rfl) ?_
    refine TrL.alloc (AStep.alloc Tryz.zeroValue107 rfl (zc107) rfl rfl) rfl (fun b1 => ?_)
    refine LS rfl rfl (Step.storeW 0 Tryz.sizeOf107 rfl (Lk.t rfl) (Lk.t rfl) rfl rfl rfl) ?_
    refine TrL.nil ?_
    refine TrE.seq ?_
    refine TrC.seq ?_
    refine TrC.region rfl ?_
    refine L rfl rfl (PStep.move rfl (Lk.t rfl)) ?_
    refine L rfl rfl (PStep.faLoc fo107_0 rfl (Lk.t rfl)) ?_
    refine L rfl rfl (PStep.ldLoc 0 Tryz.isAgg9 rfl (Lk.t rfl) rfl rfl) ?_
    refine L rfl rfl (PStep.lookupOk 1 (kv := fun x : ByteArray => Value.string x) (pv := fun v : Term => pT v) zTerm mpT110 key9 Tryz.zeroValue107 zp107 rfl (Lk.t rfl) (Lk.t rfl) rfl) ?_
    refine L rfl rfl (PStep.move rfl (Lk.t rfl)) ?_
    refine L rfl rfl (PStep.extract rfl (Lk.t rfl) rfl) ?_
    refine L rfl rfl (PStep.extract rfl (Lk.t rfl) rfl) ?_
    refine TrL.alloc (AStep.alloc Tryz.zeroValue107 rfl (zc107) rfl rfl) rfl (fun b2 => ?_)
    refine LS rfl rfl (Step.storeW 0 Tryz.sizeOf107 rfl (Lk.t rfl) (Lk.t rfl) rfl rfl rfl) ?_
    refine L rfl rfl (PStep.assign rfl (Lk.t rfl)) ?_
    refine TrL.nil ?_
    refine TrE.seq ?_
    refine TrC.seq ?_
    refine TrC.seq ?_
    refine TrC.region rfl ?_
    refine L rfl rfl (PStep.move rfl (Lk.t rfl)) ?_
    refine L rfl rfl (PStep.not rfl (Lk.t rfl)) ?_
    refine TrL.nil ?_
    refine TrE.seq ?_
    refine TrC.condB (Lk.t rfl) (fun hc2 => ?_) (fun hc2 => ?_)
    · have hs2 := hc2
      try simp only [decide_eq_true_eq, decide_eq_false_iff_not, Bool.and_eq_true, Bool.or_eq_true, Bool.not_eq_true', Bool.not_eq_false', Bool.and_eq_false_iff, Bool.or_eq_false_iff] at hs2
      refine TrC.region rfl ?_
      refine L rfl rfl (PStep.ldLocV (α := Term) 1 Tryz.isAgg107 Tryz.sizeOf107 rfl (Lk.t rfl) rfl rfl) ?_
      refine LS rfl rfl (Step.storeW 0 Tryz.sizeOf107 rfl (Lk.t rfl) (Lk.t rfl) rfl rfl rfl) ?_
      refine TrL.nil ?_
      refine TrE.seq ?_
      refine TrC.flow 7 mixed rfl (by kernel_rfl) (by kernel_rfl) ?_
      refine F rfl rfl (PStep.move rfl (Lk.t rfl)) ?_
      refine F rfl rfl (PStep.faLoc fo107_0 rfl (Lk.t rfl)) ?_
      refine F rfl rfl (PStep.ldLoc 1 Tryz.isAgg9 rfl (Lk.t rfl) rfl rfl) ?_
      refine F rfl rfl (PStep.move rfl (Lk.t rfl)) ?_
      refine F rfl rfl (PStep.ldLocV (α := Term) 0 Tryz.isAgg107 Tryz.sizeOf107 rfl (Lk.t rfl) rfl rfl) ?_
      refine F rfl rfl (PStep.ldLocV (α := Term) 1 Tryz.isAgg107 Tryz.sizeOf107 rfl (Lk.t rfl) rfl rfl) ?_
      refine F rfl rfl (PStep.callV ⟨(ix l i, ix l i), hti, hti⟩ rfl (Lk.t rfl) (LkAll.cons (Lk.t rfl) (LkAll.cons (Lk.t rfl) LkAll.nil))) ?_
      refine FlowH.nil ?_
      refine ⟨rfl, ?_⟩
      refine AllocK.none rfl ?_
      refine LS rfl rfl (Step.mapUpdate 2 (kv := fun x : ByteArray => Value.string x) (pv := fun v : Term => pT v) mpT110 key9 (.inl rfl) (Lk.t rfl) (Lk.t rfl) (Lk.t rfl) rfl) ?_
      refine TrL.nil ?_
      refine TrE.blockN ?_
      refine TrE.seq ?_
      refine TrC.region rfl ?_
      refine L rfl rfl (PStep.add64 rfl (Lk.t rfl) Lk.c (by omega)) ?_
      refine L rfl rfl (PStep.move rfl (Lk.t rfl)) ?_
      refine TrL.nil ?_
      refine TrE.dropF 2 ?_
      refine TrE.again ((i + 1, _)) (⟨by omega, by have h2 := fold_step hc1 hI; rw [mergeT1_new (by simpa using hc2)] at h2; exact h2, hM.put _ (both_ok _ _)⟩) (by first | omega | (simp only []; omega)) (EnvSub.cons rfl (EnvSub.cons rfl (EnvSub.cons rfl (EnvSub.cons rfl (EnvSub.cons rfl (EnvSub.cons rfl EnvSub.nil)))))) rfl
    · have hs2 := hc2
      try simp only [decide_eq_true_eq, decide_eq_false_iff_not, Bool.and_eq_true, Bool.or_eq_true, Bool.not_eq_true', Bool.not_eq_false', Bool.and_eq_false_iff, Bool.or_eq_false_iff] at hs2
      refine TrC.skip ?_
      refine TrE.seq ?_
      refine TrC.flow 7 mixed rfl (by kernel_rfl) (by kernel_rfl) ?_
      refine F rfl rfl (PStep.move rfl (Lk.t rfl)) ?_
      refine F rfl rfl (PStep.faLoc fo107_0 rfl (Lk.t rfl)) ?_
      refine F rfl rfl (PStep.ldLoc 1 Tryz.isAgg9 rfl (Lk.t rfl) rfl rfl) ?_
      refine F rfl rfl (PStep.move rfl (Lk.t rfl)) ?_
      refine F rfl rfl (PStep.ldLocV (α := Term) 0 Tryz.isAgg107 Tryz.sizeOf107 rfl (Lk.t rfl) rfl rfl) ?_
      refine F rfl rfl (PStep.ldLocV (α := Term) 1 Tryz.isAgg107 Tryz.sizeOf107 rfl (Lk.t rfl) rfl rfl) ?_
      refine F rfl rfl (PStep.callV ⟨((getM m (ix l i).path).getD zTerm, ix l i), hM.getD _ (show (0 : Nat) ≤ 1000000 by decide), hti⟩ rfl (Lk.t rfl) (LkAll.cons (Lk.t rfl) (LkAll.cons (Lk.t rfl) LkAll.nil))) ?_
      refine FlowH.nil ?_
      refine ⟨rfl, ?_⟩
      refine AllocK.none rfl ?_
      refine LS rfl rfl (Step.mapUpdate 2 (kv := fun x : ByteArray => Value.string x) (pv := fun v : Term => pT v) mpT110 key9 (.inl rfl) (Lk.t rfl) (Lk.t rfl) (Lk.t rfl) rfl) ?_
      refine TrL.nil ?_
      refine TrE.blockN ?_
      refine TrE.seq ?_
      refine TrC.region rfl ?_
      refine L rfl rfl (PStep.add64 rfl (Lk.t rfl) Lk.c (by omega)) ?_
      refine L rfl rfl (PStep.move rfl (Lk.t rfl)) ?_
      refine TrL.nil ?_
      refine TrE.dropF 2 ?_
      refine TrE.again ((i + 1, _)) (⟨by omega, by have h2 := fold_step hc1 hI; rw [mergeT1_old (by simpa using hc2)] at h2; exact h2, hM.put _ (both_ok _ _)⟩) (by first | omega | (simp only []; omega)) (EnvSub.cons rfl (EnvSub.cons rfl (EnvSub.cons rfl (EnvSub.cons rfl (EnvSub.cons rfl (EnvSub.cons rfl EnvSub.nil)))))) rfl
  · refine TrC.exit (TrE.thenX <| TrE.thenX <| TrE.blockHit <| ?_)
    refine TrE.seq ?_
    refine TrC.seq ?_
    obtain rfl : m = mergeT l := fold_end hc1 hI
    refine TrC.region rfl ?_
    refine L rfl rfl (PStep.move rfl (Lk.t rfl)) ?_
    refine L rfl rfl (PStep.assign rfl (Lk.t rfl)) ?_
    refine TrL.nil ?_
    refine TrE.seq ?_
    refine TrC.ret (?_)
    skip
    exact TrE.retOKX (RetOKX.row1 0 r1 rfl (Lk.t rfl) rfl rfl)
theorem s_CanonT (l : List Term) (hok : ∀ t ∈ l, TOK t) (hl : l.length ≤ 1000000) : Fn Tryz.prog 29 [pSl l] (pTup [pSl (canonT l).1, pB (canonT l).2]) := by
  refine Spec.mk Tryz.func29 rfl rfl fun B => ?_
  refine TrC.seq ?_
  refine TrC.region rfl ?_
  refine L rfl rfl (PStep.assign rfl Lk.c) ?_
  refine L rfl rfl (PStep.assign rfl Lk.c) ?_
  refine TrL.nil ?_
  refine TrE.seq ?_
  refine TrC.seq ?_
  refine TrC.region rfl ?_
  refine L rfl rfl (PStep.assign rfl Lk.c) ?_
  refine TrL.nil ?_
  refine TrE.seq ?_
  refine TrC.seq ?_
  refine TrC.seq ?_
  refine TrC.region rfl ?_
  refine L rfl rfl (PStep.move rfl (Lk.t rfl)) ?_
  refine TrL.allocG (AStep.call (s_merge l hok) Tryz.call57 rfl rfl (LkAll.cons (Lk.t rfl) (LkAll.cons (Lk.fn (fun x : TPair => s_both x.1.1 x.1.2 x.2.1 x.2.2) Tryz.call58) LkAll.nil))) rfl (fun r1 => ?_)
  refine TrL.range 0 mpT110 rfl rfl rfl (Lk.t rfl) rfl (fun bi es ck => ?_)
  refine TrL.nil ?_
  refine TrE.seq ?_
  refine TrC.block ?_
  refine TrC.lay (hOwn 107 .nil ([] : List Term)) rfl ?_
  refine TrC.loopM (X := TMap × Option (ByteArray × Term) × OS × TMap × List Term) (fun ⟨left, cur, r, done, acc⟩ => (done ++ left).Perm (mergeT l) ∧ done.any (fun e => never e.2) = false ∧ acc = keptT done ∧ acc.length ≤ done.length) (fun ⟨left, cur, r, done, acc⟩ => [(4, pOwn r acc)]) [(2, _), (3, _), (9, _)] (fun ⟨left, cur, r, done, acc⟩ A => (List.set (List.set A 1 (hIter (fun x : ByteArray => Value.string x) (fun v : Term => pT v) bi r1.b es ck left cur)) 0 (hOwn 107 r acc))) (fun ⟨left, cur, r, done, acc⟩ => left.length) ((mergeT l, none, .nil, [], [])) (⟨List.Perm.refl _, rfl, rfl, Nat.le_refl _⟩) (EnvSub.consI rfl nilOwn (EnvSub.cons rfl (EnvSub.cons rfl (EnvSub.cons rfl EnvSub.nil)))) rfl ?_
  rintro ⟨left, cur, r, done, acc⟩ ⟨hP, hnev, ha, hlen⟩
  have hPl := hP.length_eq
  simp only [List.length_append] at hPl
  have hml := mergeT_len l
  refine TrC.seq ?_
  refine TrC.region rfl ?_
  refine TrL.next 2 1 rfl rfl rfl (Lk.t rfl) rfl rfl (fun nx rest hnx => ?_)
  refine L rfl rfl (PStep.extract0 rfl (Lk.t rfl)) ?_
  refine TrL.nil ?_
  refine TrE.seq ?_
  refine TrC.seq ?_
  refine TrC.condB (Lk.t rfl) (fun hc1 => ?_) (fun hc1 => ?_)
  · have hs1 := hc1
    try simp only [decide_eq_true_eq, decide_eq_false_iff_not, Bool.and_eq_true, Bool.or_eq_true, Bool.not_eq_true', Bool.not_eq_false', Bool.and_eq_false_iff, Bool.or_eq_false_iff] at hs1
    refine TrC.skip ?_
    refine TrE.seq ?_
    refine TrC.block ?_
    refine TrC.seq ?_
    obtain ⟨e, rfl⟩ := Option.isSome_iff_exists.1 hc1
    have heM : e ∈ mergeT l := hP.mem_iff.1 (List.mem_append.2 (.inr (hnx.mem_iff.2 List.mem_cons_self)))
    have heok : e.2.set_.length ≤ 1000000 := mergeT_ok l e heM
    refine TrC.region rfl ?_
    refine L rfl rfl (PStep.entry 2 1 rfl (Lk.t rfl) rfl rfl) ?_
    refine L rfl rfl (PStep.extract rfl (Lk.t rfl) rfl) ?_
    refine TrL.alloc (AStep.alloc Tryz.zeroValue107 rfl (zc107) rfl rfl) rfl (fun b1 => ?_)
    refine LS rfl rfl (Step.storeW 0 Tryz.sizeOf107 rfl (Lk.t rfl) (Lk.t rfl) rfl rfl rfl) ?_
    refine TrL.nil ?_
    refine TrE.seq ?_
    refine TrC.seq ?_
    refine TrC.seq ?_
    refine TrC.region rfl ?_
    refine L rfl rfl (PStep.ldLocV (α := Term) 0 Tryz.isAgg107 Tryz.sizeOf107 rfl (Lk.t rfl) rfl rfl) ?_
    refine L rfl rfl (PStep.call (s_never _ (by assumption)) Tryz.call59 rfl (LkAll.cons (Lk.t rfl) LkAll.nil)) ?_
    refine TrL.nil ?_
    refine TrE.seq ?_
    refine TrC.condB (Lk.t rfl) (fun hc2 => ?_) (fun hc2 => ?_)
    · have hs2 := hc2
      try simp only [decide_eq_true_eq, decide_eq_false_iff_not, Bool.and_eq_true, Bool.or_eq_true, Bool.not_eq_true', Bool.not_eq_false', Bool.and_eq_false_iff, Bool.or_eq_false_iff] at hs2
      refine TrC.seq ?_
      refine TrC.region rfl ?_
      refine L rfl rfl (PStep.assign rfl Lk.c) ?_
      refine L rfl rfl (PStep.assign rfl Lk.c) ?_
      refine TrL.nil ?_
      refine TrE.seq ?_
      refine TrC.ret (TrE.thenR <| TrE.blockR <| TrE.thenR <| TrE.blockR <| TrE.thenR <| ?_)
      refine TrE.retOK (RetOK.eq (?_ : _ = _) (RetOK.tmp2 rfl (Lk.nilSl (α := Term) (Lk.t rfl)) (Lk.t rfl) (List.nil_sublist _)))
      rw [show canonT l = ([], false) from if_pos (List.any_eq_true.2 ⟨e, heM, hc2⟩)]
      all_goals rfl
    · have hs2 := hc2
      try simp only [decide_eq_true_eq, decide_eq_false_iff_not, Bool.and_eq_true, Bool.or_eq_true, Bool.not_eq_true', Bool.not_eq_false', Bool.and_eq_false_iff, Bool.or_eq_false_iff] at hs2
      refine TrC.skip ?_
      refine TrE.seq ?_
      refine TrC.seq ?_
      refine TrC.region rfl ?_
      refine L rfl rfl (PStep.ldLocV (α := Term) 0 Tryz.isAgg107 Tryz.sizeOf107 rfl (Lk.t rfl) rfl rfl) ?_
      refine L rfl rfl (PStep.call (s_always _ (by assumption)) Tryz.call60 rfl (LkAll.cons (Lk.t rfl) LkAll.nil)) ?_
      refine L rfl rfl (PStep.not rfl (Lk.t rfl)) ?_
      refine TrL.nil ?_
      refine TrE.seq ?_
      refine TrC.condB (Lk.t rfl) (fun hc3 => ?_) (fun hc3 => ?_)
      · have hs3 := hc3
        try simp only [decide_eq_true_eq, decide_eq_false_iff_not, Bool.and_eq_true, Bool.or_eq_true, Bool.not_eq_true', Bool.not_eq_false', Bool.and_eq_false_iff, Bool.or_eq_false_iff] at hs3
        refine TrC.region rfl ?_
        refine L rfl rfl (PStep.move rfl (Lk.t rfl)) ?_
        refine L rfl rfl (PStep.ldLocV (α := Term) 0 Tryz.isAgg107 Tryz.sizeOf107 rfl (Lk.t rfl) rfl rfl) ?_
        refine L rfl rfl (PStep.litX [_] slT51 rfl ⟨rfl, Lk.agg (Lk.t rfl), trivial⟩ rfl rfl) ?_
        refine TrL.append 1 apT51 rfl rfl rfl (Lk.t rfl) (Lk.slX (Lk.t rfl)) rfl (by simp; omega) (fun r2 => ?_)
        refine L rfl rfl (PStep.assign rfl (Lk.t rfl)) ?_
        refine TrL.nil ?_
        refine TrE.blockN ?_
        refine TrE.dropF 1 ?_
        refine TrE.again ((rest, some e, _, done ++ [e], _)) (⟨perm_move hP hnx, by rw [List.any_append, hnev]; simpa using hc2, by rw [keptT_yes (by simpa using hc3), ha], by simp; omega⟩) (by have := hnx.length_eq; simp only [List.length_cons] at this ⊢; omega) (EnvSub.cons rfl (EnvSub.cons rfl (EnvSub.cons rfl (EnvSub.cons rfl EnvSub.nil)))) rfl
      · have hs3 := hc3
        try simp only [decide_eq_true_eq, decide_eq_false_iff_not, Bool.and_eq_true, Bool.or_eq_true, Bool.not_eq_true', Bool.not_eq_false', Bool.and_eq_false_iff, Bool.or_eq_false_iff] at hs3
        refine TrC.skip ?_
        refine TrE.blockN ?_
        refine TrE.dropF 1 ?_
        refine TrE.again ((rest, some e, _, done ++ [e], _)) (⟨perm_move hP hnx, by rw [List.any_append, hnev]; simpa using hc2, by rw [keptT_no (by simpa using hc3), ha], by simp; omega⟩) (by have := hnx.length_eq; simp only [List.length_cons] at this ⊢; omega) (EnvSub.cons rfl (EnvSub.cons rfl (EnvSub.cons rfl (EnvSub.cons rfl EnvSub.nil)))) rfl
  · have hs1 := hc1
    try simp only [decide_eq_true_eq, decide_eq_false_iff_not, Bool.and_eq_true, Bool.or_eq_true, Bool.not_eq_true', Bool.not_eq_false', Bool.and_eq_false_iff, Bool.or_eq_false_iff] at hs1
    refine TrC.exit (TrE.thenX <| TrE.thenX <| TrE.blockHit <| ?_)
    refine TrE.seq ?_
    refine TrC.seq ?_
    obtain rfl : nx = none := by cases nx with | none => rfl | some _ => cases hc1
    obtain ⟨rfl, rfl⟩ := hnx
    have hacc : acc.Perm (keptT (mergeT l)) := by rw [ha]; exact keptT_perm (by simpa using hP)
    have hal : acc.length ≤ 1000000 := by rw [hacc.length_eq]; exact Nat.le_trans (keptT_len _) (Nat.le_trans (mergeT_len l) hl)
    have hnv : (mergeT l).any (fun e => never e.2) = false := by rw [← hP.any_eq]; simpa using hnev
    refine TrC.region rfl ?_
    refine L rfl rfl (PStep.move rfl (Lk.t rfl)) ?_
    refine TrL.callD 0 (s_SortTerm _ _ (by omega)) Tryz.call61 rfl rfl rfl (LkAll.cons (Lk.t rfl) (LkAll.cons Lk.f LkAll.nil)) rfl (fun ys => ?_)
    refine TrL.re 4 rfl (pOwn.imp (ys.2.1.length_eq.symm)) ?_
    refine TrL.re 23 rfl (pOwn.imp (ys.2.1.length_eq.symm)) ?_
    refine TrL.nil ?_
    refine TrE.seq ?_
    refine TrC.seq ?_
    refine TrC.region rfl ?_
    refine L rfl rfl (PStep.move rfl (Lk.t rfl)) ?_
    refine L rfl rfl (PStep.assign rfl (Lk.t rfl)) ?_
    refine L rfl rfl (PStep.assign rfl Lk.c) ?_
    refine TrL.nil ?_
    refine TrE.seq ?_
    refine TrC.ret (?_)
    refine TrE.settle 0 2 rfl rfl ?_
    refine TrE.retOK (RetOK.eq (?_ : _ = _) (RetOK.tmp2 rfl (Lk.t rfl) (Lk.t rfl) (List.nil_sublist _)))
    rw [show canonT l = (sortT (keptT (mergeT l)), true) from if_neg (ne_true_of_eq_false hnv), sortT_of ⟨ys.2.1.trans hacc, ys.2.2⟩ (kept_nodup l)]
    all_goals rfl
theorem s_of (l : List Term) (hok : ∀ t ∈ l, TOK t) (hl : l.length ≤ 1000000) : Fn Tryz.prog 222 [pSl l] (pSl (ofT l)) := by
  refine Spec.mk Tryz.func222 rfl rfl fun B => ?_
  refine TrC.seq ?_
  refine TrC.region rfl ?_
  refine L rfl rfl (PStep.assign rfl Lk.c) ?_
  refine TrL.nil ?_
  refine TrE.seq ?_
  refine TrC.seq ?_
  refine TrC.region rfl ?_
  refine L rfl rfl (PStep.move rfl (Lk.t rfl)) ?_
  refine L rfl rfl (PStep.call (s_CanonT _ (by assumption) (by omega)) Tryz.call29 rfl (LkAll.cons (Lk.t rfl) LkAll.nil)) ?_
  refine L rfl rfl (PStep.move rfl (Lk.t rfl)) ?_
  refine L rfl rfl (PStep.extract rfl (Lk.t rfl) rfl) ?_
  refine L rfl rfl (PStep.extract rfl (Lk.t rfl) rfl) ?_
  refine L rfl rfl (PStep.assign rfl (Lk.t rfl)) ?_
  refine L rfl rfl (PStep.assign rfl (Lk.t rfl)) ?_
  refine TrL.nil ?_
  refine TrE.seq ?_
  refine TrC.seq ?_
  refine TrC.region rfl ?_
  refine L rfl rfl (PStep.move rfl (Lk.t rfl)) ?_
  refine L rfl rfl (PStep.assign rfl (Lk.t rfl)) ?_
  refine TrL.nil ?_
  refine TrE.seq ?_
  refine TrC.ret (?_)
  refine TrE.retOK (RetOK.eq (?_ : _ = _) (RetOK.tmp rfl (Lk.t rfl) (List.nil_sublist _)))
  rfl
theorem s_outside (q : Requirement) (hq : q.set_.length ≤ 1000000) : Fn Tryz.prog 223 [pT q] (pT (rootT q)) := by
  refine Spec.mk Tryz.func223 rfl rfl fun B => ?_
  refine TrC.seq ?_
  refine TrC.region rfl ?_
  refine TrL.alloc (AStep.boxK rfl rfl (Lk.t rfl)) rfl (fun b1 => ?_)
  refine TrL.alloc (AStep.alloc Tryz.zeroValue107 rfl (zc107) rfl rfl) rfl (fun b2 => ?_)
  refine TrL.nil ?_
  refine TrE.seq ?_
  refine TrC.seq ?_
  refine TrC.flow 6 mixed rfl (by kernel_rfl) (by kernel_rfl) ?_
  refine F rfl rfl (PStep.faLoc fo120_0 rfl (Lk.t rfl)) ?_
  refine F rfl rfl (PStep.ldLoc 1 Tryz.isAgg9 rfl (Lk.t rfl) rfl rfl) ?_
  refine F rfl rfl (PStep.faLoc fo120_1 rfl (Lk.t rfl)) ?_
  refine F rfl rfl (PStep.ldLoc 1 Tryz.isAgg105 rfl (Lk.t rfl) rfl rfl) ?_
  refine F rfl rfl (PStep.call (s_Complement _ (by omega)) Tryz.call103 rfl (LkAll.cons (Lk.t rfl) LkAll.nil)) ?_
  refine F rfl rfl (mk107_012 rfl (Lk.t rfl) Lk.c (Lk.slX (Lk.t rfl))) ?_
  refine FlowH.nil ?_
  refine ⟨rfl, ?_⟩
  refine AllocK.none rfl ?_
  refine LS rfl rfl (Step.storeW 0 Tryz.sizeOf107 rfl (Lk.t rfl) (Lk.t rfl) rfl rfl rfl) ?_
  refine TrL.nil ?_
  refine TrE.seq ?_
  refine TrC.ret (?_)
  refine TrE.retOK (RetOK.eq (?_ : _ = _) (RetOK.cell 0 Tryz.isAgg107 Tryz.sizeOf107 rfl (Lk.t rfl) rfl rfl (List.nil_sublist _)))
  rfl
theorem s_Root (q : Requirement) (hq : q.set_.length ≤ 1000000) : Fn Tryz.prog 191 [pT q] (pSl (rootI q)) := by
  refine Spec.mk Tryz.func191 rfl rfl fun B => ?_
  refine TrC.seq ?_
  refine TrC.region rfl ?_
  refine TrL.alloc (AStep.boxK rfl rfl (Lk.t rfl)) rfl (fun b1 => ?_)
  refine L rfl rfl (PStep.assign rfl Lk.c) ?_
  refine TrL.nil ?_
  refine TrE.seq ?_
  refine TrC.seq ?_
  refine TrC.region rfl ?_
  refine L rfl rfl (PStep.ldLocV (α := Requirement) 0 Tryz.isAgg120 Tryz.sizeOf120 rfl (Lk.t rfl) rfl rfl) ?_
  refine L rfl rfl (PStep.call (s_outside _ (by assumption)) Tryz.call223 rfl (LkAll.cons (Lk.t rfl) LkAll.nil)) ?_
  refine L rfl rfl (PStep.litX [_] slT50 rfl ⟨rfl, Lk.agg (Lk.t rfl), trivial⟩ rfl rfl) ?_
  refine L rfl rfl (PStep.call (s_of [rootT q] (by intro t ht; rw [List.mem_singleton.1 ht]; exact combine_len _ _) (by simp)) Tryz.call222 rfl (LkAll.cons (Lk.slX (Lk.t rfl)) LkAll.nil)) ?_
  refine L rfl rfl (PStep.assign rfl (Lk.t rfl)) ?_
  refine TrL.nil ?_
  refine TrE.seq ?_
  refine TrC.ret (?_)
  refine TrE.retOK (RetOK.eq (?_ : _ = _) (RetOK.tmp rfl (Lk.t rfl) (List.nil_sublist _)))
  rfl
theorem s_Requires (path : ByteArray) (place : Int) (q : Requirement) (hq : q.set_.length ≤ 1000000) (hp : 0 ≤ place ∧ place ≤ 1000000) : Fn Tryz.prog 193 [pS path, pI place, pT q] (pSl (requiresI path place q)) := by
  refine Spec.mk Tryz.func193 rfl rfl fun B => ?_
  refine TrC.seq ?_
  refine TrC.region rfl ?_
  refine TrL.alloc (AStep.boxK rfl rfl (Lk.t rfl)) rfl (fun b1 => ?_)
  refine L rfl rfl (PStep.assign rfl Lk.c) ?_
  refine TrL.nil ?_
  refine TrE.seq ?_
  refine TrC.seq ?_
  refine TrC.region rfl ?_
  refine L rfl rfl (PStep.move rfl (Lk.t rfl)) ?_
  refine L rfl rfl (PStep.move rfl (Lk.t rfl)) ?_
  refine L rfl rfl (PStep.move rfl (Lk.t rfl)) ?_
  refine L rfl rfl (PStep.add64 rfl (Lk.t rfl) Lk.c (by omega)) ?_
  refine L rfl rfl (mk118_01 rfl (Lk.t rfl) (Lk.t rfl)) ?_
  refine L rfl rfl (PStep.litX [_] slT105 rfl ⟨rfl, Lk.agg (Lk.t rfl), trivial⟩ rfl rfl) ?_
  refine L rfl rfl (mk107_02 rfl (Lk.t rfl) (Lk.slX (Lk.t rfl))) ?_
  refine L rfl rfl (PStep.ldLocV (α := Requirement) 0 Tryz.isAgg120 Tryz.sizeOf120 rfl (Lk.t rfl) rfl rfl) ?_
  refine L rfl rfl (PStep.call (s_outside _ (by assumption)) Tryz.call223 rfl (LkAll.cons (Lk.t rfl) LkAll.nil)) ?_
  refine L rfl rfl (PStep.litX [_, _] slT50 rfl ⟨rfl, Lk.agg (Lk.t rfl), ⟨rfl, Lk.agg (Lk.t rfl), trivial⟩⟩ rfl rfl) ?_
  refine L rfl rfl (PStep.call (s_of [⟨path, false, [⟨place, place + 1⟩]⟩, rootT q] (by intro t ht; simp only [List.mem_cons, List.not_mem_nil, or_false] at ht; rcases ht with rfl | rfl; exact (by decide : (1 : Nat) ≤ 1000000); exact combine_len _ _) (by simp)) Tryz.call222 rfl (LkAll.cons (Lk.slX (Lk.t rfl)) LkAll.nil)) ?_
  refine L rfl rfl (PStep.assign rfl (Lk.t rfl)) ?_
  refine TrL.nil ?_
  refine TrE.seq ?_
  refine TrC.ret (?_)
  refine TrE.retOK (RetOK.eq (?_ : _ = _) (RetOK.tmp rfl (Lk.t rfl) (List.nil_sublist _)))
  rfl
theorem s_None (path : ByteArray) (av : List Span) (hq : av.length ≤ 1000000) : Fn Tryz.prog 194 [pS path, pSl av] (pSl (noneI path av)) := by
  refine Spec.mk Tryz.func194 rfl rfl fun B => ?_
  refine TrC.seq ?_
  refine TrC.region rfl ?_
  refine L rfl rfl (PStep.assign rfl Lk.c) ?_
  refine TrL.nil ?_
  refine TrE.seq ?_
  refine TrC.seq ?_
  refine TrC.region rfl ?_
  refine L rfl rfl (PStep.move rfl (Lk.t rfl)) ?_
  refine L rfl rfl (PStep.move rfl (Lk.t rfl)) ?_
  refine L rfl rfl (PStep.call (s_Complement _ (by omega)) Tryz.call103 rfl (LkAll.cons (Lk.t rfl) LkAll.nil)) ?_
  refine L rfl rfl (mk107_02 rfl (Lk.t rfl) (Lk.slX (Lk.t rfl))) ?_
  refine L rfl rfl (PStep.litX [_] slT50 rfl ⟨rfl, Lk.agg (Lk.t rfl), trivial⟩ rfl rfl) ?_
  refine L rfl rfl (PStep.call (s_of [⟨path, false, complement av⟩] (by intro t ht; rw [List.mem_singleton.1 ht]; exact combine_len _ _) (by simp)) Tryz.call222 rfl (LkAll.cons (Lk.slX (Lk.t rfl)) LkAll.nil)) ?_
  refine L rfl rfl (PStep.assign rfl (Lk.t rfl)) ?_
  refine TrL.nil ?_
  refine TrE.seq ?_
  refine TrC.ret (?_)
  refine TrE.retOK (RetOK.eq (?_ : _ = _) (RetOK.tmp rfl (Lk.t rfl) (List.nil_sublist _)))
  rfl
end Go.Mp
set_option maxRecDepth 100000
set_option maxHeartbeats 4000000
set_option linter.unusedVariables false
set_option linter.unusedSimpArgs false
namespace Go.Mp
open Go Go.Proofs
def m_slices_Equal_Set_Span_L2 (a0 : (List Span)) (a1 : (List Span)) (K1 : Unit → Option (Bool)) : Nat → Nat → Option (Bool)
  | 0, _ => none
  | n + 1, i1 =>
    (bif (decide ((i1 : Int) < (a0.length : Int))) then chk (0 ≤ (i1 : Int) ∧ (i1 : Int) < (a1.length : Int)) <| (bif (decide ((ix a0 ((i1 : Int))) ≠ (ix a1 ((i1 : Int))))) then some false
  else m_slices_Equal_Set_Span_L2 a0 a1 K1 n ((i1 + 1)))
  else K1 ())
def m_slices_Equal_Set_Span (a0 : (List Span)) (a1 : (List Span)) : Option (Bool) :=
  (bif (decide ((a0.length : Int) ≠ (a1.length : Int))) then some false
  else joinM (fun (_ : Unit) =>
    some true) fun K1 =>
    m_slices_Equal_Set_Span_L2 a0 a1 K1 (a0.length + 1) 0)
theorem s_slices_Equal_Set_Span (a0 : (List Span)) (a1 : (List Span)) (r : Bool) (hm : m_slices_Equal_Set_Span a0 a1 = some r) : Fn Tryz.prog 159 [pSl (a0 : (List Span)), pSl (a1 : (List Span))] (pB (r)) := by
  unfold m_slices_Equal_Set_Span at hm
  refine Spec.mk Tryz.func159 rfl rfl fun B => ?_
  refine TrC.seq ?_
  refine TrC.region rfl ?_
  refine L rfl rfl (PStep.assign rfl Lk.c) ?_
  refine TrL.nil ?_
  refine TrE.seq ?_
  refine TrC.seq ?_
  refine TrC.seq ?_
  refine TrC.region rfl ?_
  refine L rfl rfl (PStep.move rfl (Lk.t rfl)) ?_
  refine L rfl rfl (PStep.len (xs := a0) (tys := #[]) Tryz.runUnderlying105 rfl (Lk.t rfl)) ?_
  refine L rfl rfl (PStep.move rfl (Lk.t rfl)) ?_
  refine L rfl rfl (PStep.len (xs := a1) (tys := #[]) Tryz.runUnderlying105 rfl (Lk.t rfl)) ?_
  refine L rfl rfl (PStep.neq rfl (Lk.t rfl) (Lk.t rfl)) ?_
  refine TrL.nil ?_
  refine TrE.seq ?_
  refine TrC.condB (Lk.t rfl) (fun hc1 => ?_) (fun hc1 => ?_)
  · have hm := cond_t hm hc1
    have hs1 := hc1
    try simp only [decide_eq_true_eq, decide_eq_false_iff_not, Bool.and_eq_true, Bool.or_eq_true, Bool.not_eq_true', Bool.not_eq_false', Bool.and_eq_false_iff, Bool.or_eq_false_iff] at hs1
    refine TrC.seq ?_
    refine TrC.region rfl ?_
    refine L rfl rfl (PStep.assign rfl Lk.c) ?_
    refine TrL.nil ?_
    refine TrE.seq ?_
    refine TrC.ret (TrE.thenR <| ?_)
    cases hm
    exact TrE.retOK (RetOK.eq (show _ = _ from rfl) (RetOK.tmp rfl (Lk.t (t := 4) rfl) (List.nil_sublist _)))
  · have hm := cond_f hm hc1
    have hs1 := hc1
    try simp only [decide_eq_true_eq, decide_eq_false_iff_not, Bool.and_eq_true, Bool.or_eq_true, Bool.not_eq_true', Bool.not_eq_false', Bool.and_eq_false_iff, Bool.or_eq_false_iff] at hs1
    refine TrC.skip ?_
    refine TrE.seq ?_
    obtain ⟨K1, hK1, hm⟩ := joinK hm
    refine TrC.meetM (X := Unit) (fun _ => K1 () = some r) (fun _ => []) [] (fun _ => fun A => A) EnvSub.nil ?_ ?_
    · refine TrC.seq ?_
      refine TrC.region rfl ?_
      refine L rfl rfl (PStep.move rfl (Lk.t rfl)) ?_
      refine L rfl rfl (PStep.len (xs := a0) (tys := #[]) Tryz.runUnderlying105 rfl (Lk.t rfl)) ?_
      refine L rfl rfl (PStep.move rfl Lk.c) ?_
      refine TrL.nil ?_
      refine TrE.seq ?_
      refine TrC.block ?_
      refine TrC.know (Lk.t (t := 0) rfl) pSl.lt fun hl1 => ?_
      refine TrC.know (Lk.t (t := 1) rfl) pSl.lt fun hl2 => ?_
      refine TrC.loopM (X := Nat × Nat) (fun ⟨n, i1⟩ => m_slices_Equal_Set_Span_L2 a0 a1 K1 n i1 = some r) (fun ⟨n, i1⟩ => [(13, pI ((i1 : Int)))]) [(0, _), (1, _), (12, _)] (fun ⟨n, i1⟩ => fun A => A) (fun ⟨n, i1⟩ => n) (((a0.length + 1 : Nat), 0)) hm ((EnvSub.cons rfl (EnvSub.cons rfl (EnvSub.cons rfl (EnvSub.cons rfl EnvSub.nil))))) rfl ?_
      rintro ⟨n, i1⟩ hm
      obtain ⟨n, rfl⟩ := succ_of (f := fun n => m_slices_Equal_Set_Span_L2 a0 a1 K1 n i1) rfl hm
      change m_slices_Equal_Set_Span_L2 a0 a1 K1 (n + 1) i1 = some r at hm
      rw [m_slices_Equal_Set_Span_L2] at hm
      refine TrC.seq ?_
      refine TrC.region rfl ?_
      refine L rfl rfl (PStep.lss rfl (Lk.t rfl) (Lk.t rfl)) ?_
      refine TrL.nil ?_
      refine TrE.seq ?_
      refine TrC.seq ?_
      refine TrC.condB (Lk.t rfl) (fun hc2 => ?_) (fun hc2 => ?_)
      · have hm := cond_t hm hc2
        have hs2 := hc2
        try simp only [decide_eq_true_eq, decide_eq_false_iff_not, Bool.and_eq_true, Bool.or_eq_true, Bool.not_eq_true', Bool.not_eq_false', Bool.and_eq_false_iff, Bool.or_eq_false_iff] at hs2
        refine TrC.skip ?_
        refine TrE.seq ?_
        refine TrC.seq ?_
        refine TrC.block ?_
        refine TrC.seq ?_
        refine TrC.region rfl ?_
        refine L rfl rfl (PStep.move rfl (Lk.t rfl)) ?_
        refine L rfl rfl (PStep.assign rfl (Lk.t rfl)) ?_
        refine TrL.nil ?_
        refine TrE.seq ?_
        refine TrC.seq ?_
        refine TrC.flow 9 mixed rfl (by kernel_rfl) (by kernel_rfl) ?_
        refine F rfl rfl (PStep.move rfl (Lk.t rfl)) ?_
        refine F rfl rfl (PStep.move rfl (Lk.t rfl)) ?_
        refine F rfl rfl (PStep.ixD (xs := a0) Tryz.runUnderlying105 Tryz.sizeOf118 rfl (Lk.t rfl) (Lk.t rfl) (by omega)) ?_
        refine F rfl rfl (PStep.ldRefV (α := Span) (v := (ix a0 ((i1 : Int)))) Tryz.isAgg118 Tryz.sizeOf118 rfl (Lk.t rfl) rfl) ?_
        refine F rfl rfl (PStep.move rfl (Lk.t rfl)) ?_
        refine F rfl rfl (PStep.move rfl (Lk.t rfl)) ?_
        obtain ⟨hk1, hm⟩ := chk_some hm
        refine F rfl rfl (PStep.ixD (xs := a1) Tryz.runUnderlying105 Tryz.sizeOf118 rfl (Lk.t rfl) (Lk.t rfl) hk1) ?_
        refine F rfl rfl (PStep.ldRefV (α := Span) (v := (ix a1 ((i1 : Int)))) Tryz.isAgg118 Tryz.sizeOf118 rfl (Lk.t rfl) rfl) ?_
        refine F rfl rfl (PStep.Ne eqT118 cellsSpan rfl (Lk.t rfl) (Lk.t rfl)) ?_
        refine FlowH.nil ?_
        refine ⟨rfl, ?_⟩
        refine AllocK.none rfl ?_
        refine TrL.nil ?_
        refine TrE.seq ?_
        refine TrC.condB (Lk.t rfl) (fun hc3 => ?_) (fun hc3 => ?_)
        · have hm := cond_t hm hc3
          have hs3 := hc3
          try simp only [decide_eq_true_eq, decide_eq_false_iff_not, Bool.and_eq_true, Bool.or_eq_true, Bool.not_eq_true', Bool.not_eq_false', Bool.and_eq_false_iff, Bool.or_eq_false_iff] at hs3
          refine TrC.seq ?_
          refine TrC.region rfl ?_
          refine L rfl rfl (PStep.assign rfl Lk.c) ?_
          refine TrL.nil ?_
          refine TrE.seq ?_
          refine TrC.ret (TrE.blockR <| TrE.thenR <| TrE.thenR <| TrE.blockR <| TrE.thenR <| ?_)
          cases hm
          exact TrE.retOK (RetOK.eq (show _ = _ from rfl) (RetOK.tmp rfl (Lk.t (t := 4) rfl) (List.nil_sublist _)))
        · have hm := cond_f hm hc3
          have hs3 := hc3
          try simp only [decide_eq_true_eq, decide_eq_false_iff_not, Bool.and_eq_true, Bool.or_eq_true, Bool.not_eq_true', Bool.not_eq_false', Bool.and_eq_false_iff, Bool.or_eq_false_iff] at hs3
          refine TrC.skip ?_
          refine TrE.blockN ?_
          refine TrE.seq ?_
          refine TrC.region rfl ?_
          refine L rfl rfl (PStep.add64 rfl (Lk.t rfl) Lk.c (by omega)) ?_
          refine L rfl rfl (PStep.move rfl (Lk.t rfl)) ?_
          refine TrL.nil ?_
          refine TrE.again ((n, (i1 + 1))) hm (Nat.lt_succ_self n) ((EnvSub.cons rfl (EnvSub.cons rfl (EnvSub.cons rfl (EnvSub.cons rfl EnvSub.nil))))) rfl
      · have hm := cond_f hm hc2
        have hs2 := hc2
        try simp only [decide_eq_true_eq, decide_eq_false_iff_not, Bool.and_eq_true, Bool.or_eq_true, Bool.not_eq_true', Bool.not_eq_false', Bool.and_eq_false_iff, Bool.or_eq_false_iff] at hs2
        refine TrC.exit (TrE.thenX <| TrE.thenX <| TrE.blockHit <| ?_)
        refine TrE.meetX (()) hm (EnvSub.nil) rfl
    · rintro _ hm
      change K1 () = some r at hm
      subst hK1
      refine TrC.seq ?_
      refine TrC.region rfl ?_
      refine L rfl rfl (PStep.assign rfl Lk.c) ?_
      refine TrL.nil ?_
      refine TrE.seq ?_
      refine TrC.ret (?_)
      cases hm
      exact TrE.retOK (RetOK.eq (show _ = _ from rfl) (RetOK.tmp rfl (Lk.t (t := 4) rfl) (List.nil_sublist _)))
def m_index_checkRequirement (a0 : Requirement) (a1 : Option Requirement) : Option (Int) :=
  chk (a0.path.size < 4294967281) <| (bif (decide ((lineOf a0.path).2.2 ≠ (0 : Int))) then some ((4 : Int))
  else chk (((decide ((a0.set_.length : Int) = (0 : Int))) = false) → a0.set_.length ≤ 1000000000) <| bnd (gd ((decide ((a0.set_.length : Int) = (0 : Int))) = false) (m_slices_Equal_Set_Span a0.set_ ((canon a0.set_)))) fun x1 => (bif (((decide ((a0.set_.length : Int) = (0 : Int))) || (!x1)) || (a1.isSome && (strLt a0.path (((a1.getD default)).path) || decide (a0.path = ((a1.getD default)).path)))) then some ((1 : Int))
  else some ((0 : Int))))
theorem s_index_checkRequirement (a0 : Requirement) (a1 : Option Requirement) (r : Int) (hm : m_index_checkRequirement a0 a1 = some r) : Fn Tryz.prog 110 [pT (a0 : Requirement), pOpt (a1)] (pI (r)) := by
  unfold m_index_checkRequirement at hm
  refine Spec.mk Tryz.func110 rfl rfl fun B => ?_
  refine TrC.seq ?_
  refine TrC.region rfl ?_
  refine TrL.alloc (AStep.boxK rfl rfl (Lk.t rfl)) rfl (fun b1 => ?_)
  refine L rfl rfl (PStep.assign rfl Lk.c) ?_
  refine TrL.nil ?_
  refine TrE.seq ?_
  refine TrC.seq ?_
  refine TrC.seq ?_
  refine TrC.region rfl ?_
  refine L rfl rfl (PStep.faLoc fo120_0 rfl (Lk.t rfl)) ?_
  refine L rfl rfl (PStep.ldLoc 0 Tryz.isAgg9 rfl (Lk.t rfl) rfl rfl) ?_
  obtain ⟨hk1, hm⟩ := chk_some hm
  refine L rfl rfl (PStep.call (s_Line a0.path hk1) Tryz.call155 rfl (LkAll.cons (Lk.t rfl) LkAll.nil)) ?_
  refine L rfl rfl (PStep.move rfl (Lk.t rfl)) ?_
  refine L rfl rfl (PStep.extract rfl (Lk.t rfl) rfl) ?_
  refine L rfl rfl (PStep.extract rfl (Lk.t rfl) rfl) ?_
  refine L rfl rfl (PStep.extract rfl (Lk.t rfl) rfl) ?_
  refine L rfl rfl (PStep.assign rfl (Lk.t rfl)) ?_
  refine L rfl rfl (PStep.assign rfl (Lk.t rfl)) ?_
  refine L rfl rfl (PStep.assign rfl (Lk.t rfl)) ?_
  refine TrL.nil ?_
  refine TrE.seq ?_
  refine TrC.seq ?_
  refine TrC.region rfl ?_
  refine L rfl rfl (PStep.move rfl (Lk.t rfl)) ?_
  refine L rfl rfl (PStep.neq rfl (Lk.t rfl) Lk.c) ?_
  refine TrL.nil ?_
  refine TrE.seq ?_
  refine TrC.condB (Lk.t rfl) (fun hc1 => ?_) (fun hc1 => ?_)
  · have hm := cond_t hm hc1
    have hs1 := hc1
    try simp only [decide_eq_true_eq, decide_eq_false_iff_not, Bool.and_eq_true, Bool.or_eq_true, Bool.not_eq_true', Bool.not_eq_false', Bool.and_eq_false_iff, Bool.or_eq_false_iff] at hs1
    refine TrC.seq ?_
    refine TrC.region rfl ?_
    refine L rfl rfl (PStep.assign rfl Lk.c) ?_
    refine TrL.nil ?_
    refine TrE.seq ?_
    refine TrC.ret (TrE.thenR <| ?_)
    cases hm
    exact TrE.retOK (RetOK.eq (show _ = _ from rfl) (RetOK.tmp rfl (Lk.t (t := 4) rfl) (List.nil_sublist _)))
  · have hm := cond_f hm hc1
    have hs1 := hc1
    try simp only [decide_eq_true_eq, decide_eq_false_iff_not, Bool.and_eq_true, Bool.or_eq_true, Bool.not_eq_true', Bool.not_eq_false', Bool.and_eq_false_iff, Bool.or_eq_false_iff] at hs1
    refine TrC.skip ?_
    refine TrE.seq ?_
    refine TrC.seq ?_
    refine TrC.seq ?_
    refine TrC.flow 26 mixed rfl (by kernel_rfl) (by kernel_rfl) ?_
    refine F rfl rfl (PStep.faLoc fo120_1 rfl (Lk.t rfl)) ?_
    refine F rfl rfl (PStep.ldLoc 0 Tryz.isAgg105 rfl (Lk.t rfl) rfl rfl) ?_
    refine F rfl rfl (PStep.len (xs := a0.set_) (tys := #[]) Tryz.runUnderlying105 rfl (Lk.t rfl)) ?_
    refine F rfl rfl (PStep.eql rfl (Lk.t rfl) Lk.c) ?_
    refine F rfl rfl (PStep.move rfl (Lk.t rfl)) ?_
    refine FW rfl (WStep.guard rfl rfl rfl rfl (fun hg => PStep.faLoc fo120_1 rfl (Lk.t rfl))) ?_
    refine FW rfl (WStep.guard rfl rfl rfl rfl (fun hg => PStep.ldLoc 0 Tryz.isAgg105 rfl (Lk.g rfl hg) rfl rfl)) ?_
    refine FW rfl (WStep.guard rfl rfl rfl rfl (fun hg => PStep.faLoc fo120_1 rfl (Lk.t rfl))) ?_
    refine FW rfl (WStep.guard rfl rfl rfl rfl (fun hg => PStep.ldLoc 0 Tryz.isAgg105 rfl (Lk.g rfl hg) rfl rfl)) ?_
    obtain ⟨hk2, hm⟩ := chk_some hm
    refine FW rfl (WStep.guard rfl rfl rfl rfl (fun hg => PStep.call (s_Canonical a0.set_ (hk2 hg)) Tryz.call102 rfl (LkAll.cons (Lk.g rfl hg) LkAll.nil))) ?_
    obtain ⟨x1, hx1, hm⟩ := bnd_some hm
    refine FW rfl (WStep.guard rfl rfl rfl rfl (fun hg => PStep.call ((s_slices_Equal_Set_Span a0.set_ ((canon a0.set_)) x1 (gd_some hx1 hg))) Tryz.call159 rfl (LkAll.cons (Lk.g rfl hg) (LkAll.cons (Lk.slX (Lk.g rfl hg)) LkAll.nil)))) ?_
    refine FW rfl (WStep.guard rfl rfl rfl rfl (fun hg => PStep.not rfl (Lk.g rfl hg))) ?_
    refine F rfl rfl (PStep.pickOr rfl (Lk.t rfl) (fun hq => Lk.g rfl hq)) ?_
    refine F rfl rfl (PStep.move rfl (Lk.t rfl)) ?_
    refine FW rfl (WStep.guard rfl rfl rfl rfl (fun hg => PStep.move rfl (Lk.t rfl))) ?_
    refine FW rfl (WStep.guard rfl rfl rfl rfl (fun hg => PStep.optNe (b := a1) Tryz.underlying169 rfl (Lk.g rfl hg))) ?_
    refine FW rfl (WStep.guard rfl rfl rfl rfl (fun hg => PStep.move rfl (Lk.g rfl hg))) ?_
    refine FW rfl (WStep.guard2 rfl rfl rfl rfl (fun hg => PStep.faLoc fo120_0 rfl (Lk.t rfl))) ?_
    refine FW rfl (WStep.guard2 rfl rfl rfl rfl (fun hg => PStep.ldLoc 0 Tryz.isAgg9 rfl (Lk.g rfl hg) rfl rfl)) ?_
    refine FW rfl (WStep.guard2 rfl rfl rfl rfl (fun hg => PStep.move rfl (Lk.t rfl))) ?_
    refine FW rfl (WStep.guard2 rfl rfl rfl rfl (fun hg => PStep.optGet rfl (Lk.g rfl hg) hg.2)) ?_
    refine FW rfl (WStep.guard2 rfl rfl rfl rfl (fun hg => PStep.faRef fo120_0 rfl (Lk.g rfl hg))) ?_
    refine FW rfl (WStep.guard2 rfl rfl rfl rfl (fun hg => PStep.ldRef Tryz.isAgg9 rfl (Lk.g rfl hg) rfl)) ?_
    refine FW rfl (WStep.guard2 rfl rfl rfl rfl (fun hg => PStep.sleq rfl (Lk.g rfl hg) (Lk.g rfl hg))) ?_
    refine FW rfl (WStep.guard rfl rfl rfl rfl (fun hg => PStep.pickAnd rfl (Lk.g rfl hg) (fun hq => Lk.g rfl ⟨hg, hq⟩))) ?_
    refine F rfl rfl (PStep.pickOr rfl (Lk.t rfl) (fun hq => Lk.g rfl hq)) ?_
    refine FlowH.nil ?_
    refine ⟨rfl, ?_⟩
    refine AllocK.none rfl ?_
    refine TrL.nil ?_
    refine TrE.seq ?_
    refine TrC.condB (Lk.t rfl) (fun hc2 => ?_) (fun hc2 => ?_)
    · have hm := cond_t hm hc2
      have hs2 := hc2
      try simp only [decide_eq_true_eq, decide_eq_false_iff_not, Bool.and_eq_true, Bool.or_eq_true, Bool.not_eq_true', Bool.not_eq_false', Bool.and_eq_false_iff, Bool.or_eq_false_iff] at hs2
      refine TrC.seq ?_
      refine TrC.region rfl ?_
      refine L rfl rfl (PStep.assign rfl Lk.c) ?_
      refine TrL.nil ?_
      refine TrE.seq ?_
      refine TrC.ret (TrE.thenR <| ?_)
      cases hm
      exact TrE.retOK (RetOK.eq (show _ = _ from rfl) (RetOK.tmp rfl (Lk.t (t := 4) rfl) (List.nil_sublist _)))
    · have hm := cond_f hm hc2
      have hs2 := hc2
      try simp only [decide_eq_true_eq, decide_eq_false_iff_not, Bool.and_eq_true, Bool.or_eq_true, Bool.not_eq_true', Bool.not_eq_false', Bool.and_eq_false_iff, Bool.or_eq_false_iff] at hs2
      refine TrC.skip ?_
      refine TrE.seq ?_
      refine TrC.seq ?_
      refine TrC.region rfl ?_
      refine L rfl rfl (PStep.assign rfl Lk.c) ?_
      refine TrL.nil ?_
      refine TrE.seq ?_
      refine TrC.ret (?_)
      cases hm
      exact TrE.retOK (RetOK.eq (show _ = _ from rfl) (RetOK.tmp rfl (Lk.t (t := 4) rfl) (List.nil_sublist _)))
def m_index_CheckRequirements_L2 (a0 : (List Requirement)) (K1 : Unit → Option (Int)) : Nat → Option Requirement → Nat → Option (Int)
  | 0, _, _ => none
  | n + 1, p1, i1 =>
    (bif (decide ((i1 : Int) < (a0.length : Int))) then bnd (m_index_checkRequirement (((ix a0 ((i1 : Int))))) p1) fun x1 => (bif (decide (x1 ≠ (0 : Int))) then some x1
  else m_index_CheckRequirements_L2 a0 K1 n ((some ((ix a0 ((i1 : Int)))))) ((i1 + 1)))
  else K1 ())
def m_index_CheckRequirements (a0 : (List Requirement)) : Option (Int) :=
  (bif (decide ((16 : Int) < (a0.length : Int))) then some ((7 : Int))
  else joinM (fun (_ : Unit) =>
    some ((0 : Int))) fun K1 =>
    m_index_CheckRequirements_L2 a0 K1 (a0.length + 1) none 0)
theorem s_index_CheckRequirements (a0 : (List Requirement)) (r : Int) (hm : m_index_CheckRequirements a0 = some r) : Fn Tryz.prog 65 [pSl (a0 : (List Requirement))] (pI (r)) := by
  unfold m_index_CheckRequirements at hm
  refine Spec.mk Tryz.func65 rfl rfl fun B => ?_
  refine TrC.seq ?_
  refine TrC.region rfl ?_
  refine L rfl rfl (PStep.assign rfl Lk.c) ?_
  refine TrL.nil ?_
  refine TrE.seq ?_
  refine TrC.seq ?_
  refine TrC.seq ?_
  refine TrC.region rfl ?_
  refine L rfl rfl (PStep.move rfl (Lk.t rfl)) ?_
  refine L rfl rfl (PStep.len (xs := a0) (tys := #[]) Tryz.runUnderlying26 rfl (Lk.t rfl)) ?_
  refine L rfl rfl (PStep.gtr rfl (Lk.t rfl) Lk.c) ?_
  refine TrL.nil ?_
  refine TrE.seq ?_
  refine TrC.condB (Lk.t rfl) (fun hc1 => ?_) (fun hc1 => ?_)
  · have hm := cond_t hm hc1
    have hs1 := hc1
    try simp only [decide_eq_true_eq, decide_eq_false_iff_not, Bool.and_eq_true, Bool.or_eq_true, Bool.not_eq_true', Bool.not_eq_false', Bool.and_eq_false_iff, Bool.or_eq_false_iff] at hs1
    refine TrC.seq ?_
    refine TrC.region rfl ?_
    refine L rfl rfl (PStep.assign rfl Lk.c) ?_
    refine TrL.nil ?_
    refine TrE.seq ?_
    refine TrC.ret (TrE.thenR <| ?_)
    cases hm
    exact TrE.retOK (RetOK.eq (show _ = _ from rfl) (RetOK.tmp rfl (Lk.t (t := 2) rfl) (List.nil_sublist _)))
  · have hm := cond_f hm hc1
    have hs1 := hc1
    try simp only [decide_eq_true_eq, decide_eq_false_iff_not, Bool.and_eq_true, Bool.or_eq_true, Bool.not_eq_true', Bool.not_eq_false', Bool.and_eq_false_iff, Bool.or_eq_false_iff] at hs1
    refine TrC.skip ?_
    refine TrE.seq ?_
    refine TrC.seq ?_
    refine TrC.region rfl ?_
    refine L rfl rfl (PStep.assign rfl Lk.c) ?_
    refine TrL.nil ?_
    refine TrE.seq ?_
    obtain ⟨K1, hK1, hm⟩ := joinK hm
    refine TrC.meetM (X := Unit) (fun _ => K1 () = some r) (fun _ => []) [] (fun _ => fun A => A) EnvSub.nil ?_ ?_
    · refine TrC.seq ?_
      refine TrC.region rfl ?_
      refine L rfl rfl (PStep.move rfl (Lk.t rfl)) ?_
      refine L rfl rfl (PStep.len (xs := a0) (tys := #[]) Tryz.runUnderlying26 rfl (Lk.t rfl)) ?_
      refine L rfl rfl (PStep.move rfl Lk.c) ?_
      refine TrL.nil ?_
      refine TrE.seq ?_
      refine TrC.block ?_
      refine TrC.know (Lk.t (t := 0) rfl) pSl.lt fun hl1 => ?_
      refine TrC.loopM (X := Nat × Option Requirement × Nat) (fun ⟨n, p1, i1⟩ => m_index_CheckRequirements_L2 a0 K1 n p1 i1 = some r) (fun ⟨n, p1, i1⟩ => [(3, pOpt (p1)), (12, pI ((i1 : Int)))]) [(0, _), (10, _), (11, _)] (fun ⟨n, p1, i1⟩ => fun A => A) (fun ⟨n, p1, i1⟩ => n) (((a0.length + 1 : Nat), none, 0)) hm ((EnvSub.cons rfl (EnvSub.cons rfl (EnvSub.cons rfl (EnvSub.cons rfl (EnvSub.cons rfl EnvSub.nil)))))) rfl ?_
      rintro ⟨n, p1, i1⟩ hm
      obtain ⟨n, rfl⟩ := succ_of (f := fun n => m_index_CheckRequirements_L2 a0 K1 n p1 i1) rfl hm
      change m_index_CheckRequirements_L2 a0 K1 (n + 1) p1 i1 = some r at hm
      rw [m_index_CheckRequirements_L2] at hm
      refine TrC.seq ?_
      refine TrC.region rfl ?_
      refine L rfl rfl (PStep.lss rfl (Lk.t rfl) (Lk.t rfl)) ?_
      refine TrL.nil ?_
      refine TrE.seq ?_
      refine TrC.seq ?_
      refine TrC.condB (Lk.t rfl) (fun hc2 => ?_) (fun hc2 => ?_)
      · have hm := cond_t hm hc2
        have hs2 := hc2
        try simp only [decide_eq_true_eq, decide_eq_false_iff_not, Bool.and_eq_true, Bool.or_eq_true, Bool.not_eq_true', Bool.not_eq_false', Bool.and_eq_false_iff, Bool.or_eq_false_iff] at hs2
        refine TrC.skip ?_
        refine TrE.seq ?_
        refine TrC.seq ?_
        refine TrC.block ?_
        refine TrC.seq ?_
        refine TrC.region rfl ?_
        refine L rfl rfl (PStep.move rfl (Lk.t rfl)) ?_
        refine L rfl rfl (PStep.ixD (xs := a0) Tryz.runUnderlying26 Tryz.sizeOf120 rfl (Lk.t rfl) (Lk.t rfl) (by omega)) ?_
        refine L rfl rfl (PStep.ldRefV (α := Requirement) (v := (ix a0 ((i1 : Int)))) Tryz.isAgg120 Tryz.sizeOf120 rfl (Lk.t rfl) rfl) ?_
        refine TrL.alloc (AStep.alloc Tryz.zeroValue120 rfl zc120 rfl rfl) rfl (fun b1 => ?_)
        refine L rfl rfl (PStep.assign rfl (Lk.t rfl)) ?_
        refine LS rfl rfl (Step.storeW 0 Tryz.sizeOf120 rfl (Lk.t rfl) (Lk.t rfl) rfl rfl rfl) ?_
        refine TrL.nil ?_
        refine TrE.seq ?_
        refine TrC.seq ?_
        refine TrC.seq ?_
        refine TrC.region rfl ?_
        refine L rfl rfl (PStep.ldLocV (α := Requirement) (v := ((ix a0 ((i1 : Int))))) 0 Tryz.isAgg120 Tryz.sizeOf120 rfl (Lk.t rfl) rfl rfl) ?_
        refine L rfl rfl (PStep.move rfl (Lk.t rfl)) ?_
        obtain ⟨x1, hx1, hm⟩ := bnd_some hm
        refine L rfl rfl (PStep.call ((s_index_checkRequirement (((ix a0 ((i1 : Int))))) p1 x1 hx1)) Tryz.call110 rfl (LkAll.cons (Lk.t rfl) (LkAll.cons (Lk.t rfl) LkAll.nil))) ?_
        refine L rfl rfl (PStep.assign rfl (Lk.t rfl)) ?_
        refine TrL.nil ?_
        refine TrE.seq ?_
        refine TrC.seq ?_
        refine TrC.region rfl ?_
        refine L rfl rfl (PStep.move rfl (Lk.t rfl)) ?_
        refine L rfl rfl (PStep.neq rfl (Lk.t rfl) Lk.c) ?_
        refine TrL.nil ?_
        refine TrE.seq ?_
        refine TrC.condB (Lk.t rfl) (fun hc3 => ?_) (fun hc3 => ?_)
        · have hm := cond_t hm hc3
          have hs3 := hc3
          try simp only [decide_eq_true_eq, decide_eq_false_iff_not, Bool.and_eq_true, Bool.or_eq_true, Bool.not_eq_true', Bool.not_eq_false', Bool.and_eq_false_iff, Bool.or_eq_false_iff] at hs3
          refine TrC.seq ?_
          refine TrC.region rfl ?_
          refine L rfl rfl (PStep.move rfl (Lk.t rfl)) ?_
          refine L rfl rfl (PStep.assign rfl (Lk.t rfl)) ?_
          refine TrL.nil ?_
          refine TrE.seq ?_
          refine TrC.ret (TrE.thenR <| TrE.blockR <| TrE.thenR <| TrE.thenR <| TrE.blockR <| TrE.thenR <| ?_)
          cases hm
          exact TrE.retOK (RetOK.eq (show _ = _ from rfl) (RetOK.tmp rfl (Lk.t (t := 2) rfl) (List.nil_sublist _)))
        · have hm := cond_f hm hc3
          have hs3 := hc3
          try simp only [decide_eq_true_eq, decide_eq_false_iff_not, Bool.and_eq_true, Bool.or_eq_true, Bool.not_eq_true', Bool.not_eq_false', Bool.and_eq_false_iff, Bool.or_eq_false_iff] at hs3
          refine TrC.skip ?_
          refine TrE.seq ?_
          refine TrC.region rfl ?_
          refine L rfl rfl (PStep.move rfl (Lk.t rfl)) ?_
          refine L rfl rfl (PStep.move rfl (Lk.t rfl)) ?_
          refine L rfl rfl (PStep.ixD (xs := a0) Tryz.runUnderlying26 Tryz.sizeOf120 rfl (Lk.t rfl) (Lk.t rfl) (by omega)) ?_
          refine L rfl rfl (PStep.assign rfl (Lk.t rfl)) ?_
          refine TrL.nil ?_
          refine TrE.blockN ?_
          refine TrE.seq ?_
          refine TrC.region rfl ?_
          refine L rfl rfl (PStep.add64 rfl (Lk.t rfl) Lk.c (by omega)) ?_
          refine L rfl rfl (PStep.move rfl (Lk.t rfl)) ?_
          refine TrL.nil ?_
          refine TrE.dropF 1 ?_
          refine TrE.again ((n, (some ((ix a0 ((i1 : Int))))), (i1 + 1))) hm (Nat.lt_succ_self n) ((EnvSub.cons rfl (EnvSub.cons rfl (EnvSub.cons rfl (EnvSub.cons rfl (EnvSub.cons rfl EnvSub.nil)))))) rfl
      · have hm := cond_f hm hc2
        have hs2 := hc2
        try simp only [decide_eq_true_eq, decide_eq_false_iff_not, Bool.and_eq_true, Bool.or_eq_true, Bool.not_eq_true', Bool.not_eq_false', Bool.and_eq_false_iff, Bool.or_eq_false_iff] at hs2
        refine TrC.exit (TrE.thenX <| TrE.thenX <| TrE.blockHit <| ?_)
        refine TrE.meetX (()) hm (EnvSub.nil) rfl
    · rintro _ hm
      change K1 () = some r at hm
      subst hK1
      refine TrC.seq ?_
      refine TrC.region rfl ?_
      refine L rfl rfl (PStep.assign rfl Lk.c) ?_
      refine TrL.nil ?_
      refine TrE.seq ?_
      refine TrC.ret (?_)
      cases hm
      exact TrE.retOK (RetOK.eq (show _ = _ from rfl) (RetOK.tmp rfl (Lk.t (t := 2) rfl) (List.nil_sublist _)))
def m_index_checkRelease_L2 (a0 : Release) (K1 : Unit → Option (Int)) : Nat → Nat → Option (Int)
  | 0, _ => none
  | n + 1, i1 =>
    (bif (decide ((i1 : Int) < ((([a0.archive, a0.interface, a0.certificate] : (List ByteArray))).length : Int))) then (bif ((decide ((((ix (([a0.archive, a0.interface, a0.certificate] : (List ByteArray))) ((i1 : Int)))).size : Int) ≠ (0 : Int))) && (decide ((((ix (([a0.archive, a0.interface, a0.certificate] : (List ByteArray))) ((i1 : Int)))).size : Int) ≠ (32 : Int)))) then some ((1 : Int))
  else m_index_checkRelease_L2 a0 K1 n ((i1 + 1)))
  else K1 ())
def m_index_checkRelease (a0 : Release) : Option (Int) :=
  chk (a0.path.size < 4294967281) <| (bif (decide ((lineOf a0.path).2.2 ≠ (0 : Int))) then some ((4 : Int))
  else (bif ((!(validV a0.version)) || (decide (a0.version.major ≠ (lineOf a0.path).2.1))) then some ((2 : Int))
  else bnd (m_index_CheckRequirements a0.requirements) fun x1 => (bif (decide (x1 ≠ (0 : Int))) then some x1
  else joinM (fun (_ : Unit) =>
    some ((0 : Int))) fun K1 =>
    m_index_checkRelease_L2 a0 K1 ((([a0.archive, a0.interface, a0.certificate] : (List ByteArray))).length + 1) 0)))
theorem s_index_checkRelease (a0 : Release) (r : Int) (hm : m_index_checkRelease a0 = some r) : Fn Tryz.prog 107 [pT (a0 : Release)] (pI (r)) := by
  unfold m_index_checkRelease at hm
  refine Spec.mk Tryz.func107 rfl rfl fun B => ?_
  refine TrC.seq ?_
  refine TrC.region rfl ?_
  refine TrL.alloc (AStep.boxK rfl rfl (Lk.t rfl)) rfl (fun b1 => ?_)
  refine L rfl rfl (PStep.assign rfl Lk.c) ?_
  refine TrL.nil ?_
  refine TrE.seq ?_
  refine TrC.seq ?_
  refine TrC.region rfl ?_
  refine L rfl rfl (PStep.faLoc fo89_0 rfl (Lk.t rfl)) ?_
  refine L rfl rfl (PStep.ldLoc 0 Tryz.isAgg9 rfl (Lk.t rfl) rfl rfl) ?_
  obtain ⟨hk1, hm⟩ := chk_some hm
  refine L rfl rfl (PStep.call (s_Line a0.path hk1) Tryz.call155 rfl (LkAll.cons (Lk.t rfl) LkAll.nil)) ?_
  refine L rfl rfl (PStep.move rfl (Lk.t rfl)) ?_
  refine L rfl rfl (PStep.extract rfl (Lk.t rfl) rfl) ?_
  refine L rfl rfl (PStep.extract rfl (Lk.t rfl) rfl) ?_
  refine L rfl rfl (PStep.extract rfl (Lk.t rfl) rfl) ?_
  refine L rfl rfl (PStep.assign rfl (Lk.t rfl)) ?_
  refine L rfl rfl (PStep.assign rfl (Lk.t rfl)) ?_
  refine L rfl rfl (PStep.assign rfl (Lk.t rfl)) ?_
  refine TrL.nil ?_
  refine TrE.seq ?_
  refine TrC.seq ?_
  refine TrC.seq ?_
  refine TrC.region rfl ?_
  refine L rfl rfl (PStep.move rfl (Lk.t rfl)) ?_
  refine L rfl rfl (PStep.neq rfl (Lk.t rfl) Lk.c) ?_
  refine TrL.nil ?_
  refine TrE.seq ?_
  refine TrC.condB (Lk.t rfl) (fun hc1 => ?_) (fun hc1 => ?_)
  · have hm := cond_t hm hc1
    have hs1 := hc1
    try simp only [decide_eq_true_eq, decide_eq_false_iff_not, Bool.and_eq_true, Bool.or_eq_true, Bool.not_eq_true', Bool.not_eq_false', Bool.and_eq_false_iff, Bool.or_eq_false_iff] at hs1
    refine TrC.seq ?_
    refine TrC.region rfl ?_
    refine L rfl rfl (PStep.assign rfl Lk.c) ?_
    refine TrL.nil ?_
    refine TrE.seq ?_
    refine TrC.ret (TrE.thenR <| ?_)
    cases hm
    exact TrE.retOK (RetOK.eq (show _ = _ from rfl) (RetOK.tmp rfl (Lk.t (t := 2) rfl) (List.nil_sublist _)))
  · have hm := cond_f hm hc1
    have hs1 := hc1
    try simp only [decide_eq_true_eq, decide_eq_false_iff_not, Bool.and_eq_true, Bool.or_eq_true, Bool.not_eq_true', Bool.not_eq_false', Bool.and_eq_false_iff, Bool.or_eq_false_iff] at hs1
    refine TrC.skip ?_
    refine TrE.seq ?_
    refine TrC.seq ?_
    refine TrC.seq ?_
    refine TrC.region rfl ?_
    refine L rfl rfl (PStep.faLoc fo89_1 rfl (Lk.t rfl)) ?_
    refine L rfl rfl (PStep.ldLocV (α := Version) (v := a0.version) 0 Tryz.isAgg57 Tryz.sizeOf57 rfl (Lk.t rfl) rfl rfl) ?_
    refine L rfl rfl (PStep.call (s_Valid a0.version ) Tryz.call100 rfl (LkAll.cons (Lk.t rfl) LkAll.nil)) ?_
    refine L rfl rfl (PStep.not rfl (Lk.t rfl)) ?_
    refine L rfl rfl (PStep.move rfl (Lk.t rfl)) ?_
    refine LW rfl (WStep.guard rfl rfl rfl rfl (fun hg => PStep.faLoc fo89_1 rfl (Lk.t rfl))) ?_
    refine LW rfl (WStep.guard rfl rfl rfl rfl (fun hg => PStep.faLoc fo57_0 rfl (Lk.g rfl hg))) ?_
    refine LW rfl (WStep.guard rfl rfl rfl rfl (fun hg => PStep.ldLoc 0 Tryz.isAgg3 rfl (Lk.g rfl hg) rfl rfl)) ?_
    refine LW rfl (WStep.guard rfl rfl rfl rfl (fun hg => PStep.move rfl (Lk.t rfl))) ?_
    refine LW rfl (WStep.guard rfl rfl rfl rfl (fun hg => PStep.neq rfl (Lk.g rfl hg) (Lk.g rfl hg))) ?_
    refine L rfl rfl (PStep.pickOr rfl (Lk.t rfl) (fun hq => Lk.g rfl hq)) ?_
    refine TrL.nil ?_
    refine TrE.seq ?_
    refine TrC.condB (Lk.t rfl) (fun hc2 => ?_) (fun hc2 => ?_)
    · have hm := cond_t hm hc2
      have hs2 := hc2
      try simp only [decide_eq_true_eq, decide_eq_false_iff_not, Bool.and_eq_true, Bool.or_eq_true, Bool.not_eq_true', Bool.not_eq_false', Bool.and_eq_false_iff, Bool.or_eq_false_iff] at hs2
      refine TrC.seq ?_
      refine TrC.region rfl ?_
      refine L rfl rfl (PStep.assign rfl Lk.c) ?_
      refine TrL.nil ?_
      refine TrE.seq ?_
      refine TrC.ret (TrE.thenR <| ?_)
      cases hm
      exact TrE.retOK (RetOK.eq (show _ = _ from rfl) (RetOK.tmp rfl (Lk.t (t := 2) rfl) (List.nil_sublist _)))
    · have hm := cond_f hm hc2
      have hs2 := hc2
      try simp only [decide_eq_true_eq, decide_eq_false_iff_not, Bool.and_eq_true, Bool.or_eq_true, Bool.not_eq_true', Bool.not_eq_false', Bool.and_eq_false_iff, Bool.or_eq_false_iff] at hs2
      refine TrC.skip ?_
      refine TrE.seq ?_
      refine TrC.seq ?_
      refine TrC.seq ?_
      refine TrC.region rfl ?_
      refine L rfl rfl (PStep.faLoc fo89_2 rfl (Lk.t rfl)) ?_
      refine L rfl rfl (PStep.ldLoc 0 Tryz.isAgg26 rfl (Lk.t rfl) rfl rfl) ?_
      obtain ⟨x1, hx1, hm⟩ := bnd_some hm
      refine L rfl rfl (PStep.call ((s_index_CheckRequirements a0.requirements x1 hx1)) Tryz.call65 rfl (LkAll.cons (Lk.t rfl) LkAll.nil)) ?_
      refine L rfl rfl (PStep.assign rfl (Lk.t rfl)) ?_
      refine TrL.nil ?_
      refine TrE.seq ?_
      refine TrC.seq ?_
      refine TrC.region rfl ?_
      refine L rfl rfl (PStep.move rfl (Lk.t rfl)) ?_
      refine L rfl rfl (PStep.neq rfl (Lk.t rfl) Lk.c) ?_
      refine TrL.nil ?_
      refine TrE.seq ?_
      refine TrC.condB (Lk.t rfl) (fun hc3 => ?_) (fun hc3 => ?_)
      · have hm := cond_t hm hc3
        have hs3 := hc3
        try simp only [decide_eq_true_eq, decide_eq_false_iff_not, Bool.and_eq_true, Bool.or_eq_true, Bool.not_eq_true', Bool.not_eq_false', Bool.and_eq_false_iff, Bool.or_eq_false_iff] at hs3
        refine TrC.seq ?_
        refine TrC.region rfl ?_
        refine L rfl rfl (PStep.move rfl (Lk.t rfl)) ?_
        refine L rfl rfl (PStep.assign rfl (Lk.t rfl)) ?_
        refine TrL.nil ?_
        refine TrE.seq ?_
        refine TrC.ret (TrE.thenR <| ?_)
        cases hm
        exact TrE.retOK (RetOK.eq (show _ = _ from rfl) (RetOK.tmp rfl (Lk.t (t := 2) rfl) (List.nil_sublist _)))
      · have hm := cond_f hm hc3
        have hs3 := hc3
        try simp only [decide_eq_true_eq, decide_eq_false_iff_not, Bool.and_eq_true, Bool.or_eq_true, Bool.not_eq_true', Bool.not_eq_false', Bool.and_eq_false_iff, Bool.or_eq_false_iff] at hs3
        refine TrC.skip ?_
        refine TrE.seq ?_
        obtain ⟨K1, hK1, hm⟩ := joinK hm
        refine TrC.meetM (X := Unit) (fun _ => K1 () = some r) (fun _ => []) [] (fun _ => fun A => A) EnvSub.nil ?_ ?_
        · refine TrC.seq ?_
          refine TrC.region rfl ?_
          refine L rfl rfl (PStep.faLoc fo89_3 rfl (Lk.t rfl)) ?_
          refine L rfl rfl (PStep.ldLoc 0 Tryz.isAgg9 rfl (Lk.t rfl) rfl rfl) ?_
          refine L rfl rfl (PStep.faLoc fo89_4 rfl (Lk.t rfl)) ?_
          refine L rfl rfl (PStep.ldLoc 0 Tryz.isAgg9 rfl (Lk.t rfl) rfl rfl) ?_
          refine L rfl rfl (PStep.faLoc fo89_5 rfl (Lk.t rfl)) ?_
          refine L rfl rfl (PStep.ldLoc 0 Tryz.isAgg9 rfl (Lk.t rfl) rfl rfl) ?_
          refine L rfl rfl (PStep.litX ([a0.archive, a0.interface, a0.certificate] : (List ByteArray)) slT42 rfl ⟨rfl, Lk.eS (Lk.t rfl), ⟨rfl, Lk.eS (Lk.t rfl), ⟨rfl, Lk.eS (Lk.t rfl), trivial⟩⟩⟩ rfl rfl) ?_
          refine L rfl rfl (PStep.len (xs := ([a0.archive, a0.interface, a0.certificate] : (List ByteArray))) (tys := #[]) Tryz.runUnderlying42 rfl (Lk.slX (Lk.t rfl))) ?_
          refine L rfl rfl (PStep.move rfl Lk.c) ?_
          refine TrL.nil ?_
          refine TrE.seq ?_
          refine TrC.block ?_
          refine TrC.know (Lk.t (t := 41) rfl) pSlX.lt fun hl1 => ?_
          refine TrC.loopM (X := Nat × Nat) (fun ⟨n, i1⟩ => m_index_checkRelease_L2 a0 K1 n i1 = some r) (fun ⟨n, i1⟩ => [(43, pI ((i1 : Int)))]) [(41, _), (42, _)] (fun ⟨n, i1⟩ => fun A => A) (fun ⟨n, i1⟩ => n) ((((([a0.archive, a0.interface, a0.certificate] : (List ByteArray))).length + 1 : Nat), 0)) hm ((EnvSub.cons rfl (EnvSub.cons rfl (EnvSub.cons rfl EnvSub.nil)))) rfl ?_
          rintro ⟨n, i1⟩ hm
          obtain ⟨n, rfl⟩ := succ_of (f := fun n => m_index_checkRelease_L2 a0 K1 n i1) rfl hm
          change m_index_checkRelease_L2 a0 K1 (n + 1) i1 = some r at hm
          rw [m_index_checkRelease_L2] at hm
          refine TrC.seq ?_
          refine TrC.region rfl ?_
          refine L rfl rfl (PStep.lss rfl (Lk.t rfl) (Lk.t rfl)) ?_
          refine TrL.nil ?_
          refine TrE.seq ?_
          refine TrC.seq ?_
          refine TrC.condB (Lk.t rfl) (fun hc4 => ?_) (fun hc4 => ?_)
          · have hm := cond_t hm hc4
            have hs4 := hc4
            try simp only [decide_eq_true_eq, decide_eq_false_iff_not, Bool.and_eq_true, Bool.or_eq_true, Bool.not_eq_true', Bool.not_eq_false', Bool.and_eq_false_iff, Bool.or_eq_false_iff] at hs4
            refine TrC.skip ?_
            refine TrE.seq ?_
            refine TrC.seq ?_
            refine TrC.block ?_
            refine TrC.seq ?_
            refine TrC.region rfl ?_
            refine L rfl rfl (PStep.ixD (xs := ([a0.archive, a0.interface, a0.certificate] : (List ByteArray))) Tryz.runUnderlying42 Tryz.sizeOf9 rfl (Lk.slX (Lk.t rfl)) (Lk.t rfl) (by omega)) ?_
            refine L rfl rfl (PStep.ldRef Tryz.isAgg9 rfl (Lk.t rfl) rfl) ?_
            refine L rfl rfl (PStep.assign rfl (Lk.t rfl)) ?_
            refine TrL.nil ?_
            refine TrE.seq ?_
            refine TrC.seq ?_
            refine TrC.region rfl ?_
            refine L rfl rfl (PStep.move rfl (Lk.t rfl)) ?_
            refine L rfl rfl (PStep.slen Tryz.runUnderlying9 rfl (Lk.t rfl)) ?_
            refine L rfl rfl (PStep.neq rfl (Lk.t rfl) Lk.c) ?_
            refine L rfl rfl (PStep.move rfl (Lk.t rfl)) ?_
            refine LW rfl (WStep.guard rfl rfl rfl rfl (fun hg => PStep.move rfl (Lk.t rfl))) ?_
            refine LW rfl (WStep.guard rfl rfl rfl rfl (fun hg => PStep.slen Tryz.runUnderlying9 rfl (Lk.g rfl hg))) ?_
            refine LW rfl (WStep.guard rfl rfl rfl rfl (fun hg => PStep.neq rfl (Lk.g rfl hg) Lk.c)) ?_
            refine L rfl rfl (PStep.pickAnd rfl (Lk.t rfl) (fun hq => Lk.g rfl hq)) ?_
            refine TrL.nil ?_
            refine TrE.seq ?_
            refine TrC.condB (Lk.t rfl) (fun hc5 => ?_) (fun hc5 => ?_)
            · have hm := cond_t hm hc5
              have hs5 := hc5
              try simp only [decide_eq_true_eq, decide_eq_false_iff_not, Bool.and_eq_true, Bool.or_eq_true, Bool.not_eq_true', Bool.not_eq_false', Bool.and_eq_false_iff, Bool.or_eq_false_iff] at hs5
              refine TrC.seq ?_
              refine TrC.region rfl ?_
              refine L rfl rfl (PStep.assign rfl Lk.c) ?_
              refine TrL.nil ?_
              refine TrE.seq ?_
              refine TrC.ret (TrE.blockR <| TrE.thenR <| TrE.thenR <| TrE.blockR <| TrE.thenR <| ?_)
              cases hm
              exact TrE.retOK (RetOK.eq (show _ = _ from rfl) (RetOK.tmp rfl (Lk.t (t := 2) rfl) (List.nil_sublist _)))
            · have hm := cond_f hm hc5
              have hs5 := hc5
              try simp only [decide_eq_true_eq, decide_eq_false_iff_not, Bool.and_eq_true, Bool.or_eq_true, Bool.not_eq_true', Bool.not_eq_false', Bool.and_eq_false_iff, Bool.or_eq_false_iff] at hs5
              refine TrC.skip ?_
              refine TrE.blockN ?_
              refine TrE.seq ?_
              refine TrC.region rfl ?_
              refine L rfl rfl (PStep.add64 rfl (Lk.t rfl) Lk.c (by omega)) ?_
              refine L rfl rfl (PStep.move rfl (Lk.t rfl)) ?_
              refine TrL.nil ?_
              refine TrE.again ((n, (i1 + 1))) hm (Nat.lt_succ_self n) ((EnvSub.cons rfl (EnvSub.cons rfl (EnvSub.cons rfl EnvSub.nil)))) rfl
          · have hm := cond_f hm hc4
            have hs4 := hc4
            try simp only [decide_eq_true_eq, decide_eq_false_iff_not, Bool.and_eq_true, Bool.or_eq_true, Bool.not_eq_true', Bool.not_eq_false', Bool.and_eq_false_iff, Bool.or_eq_false_iff] at hs4
            refine TrC.exit (TrE.thenX <| TrE.thenX <| TrE.blockHit <| ?_)
            refine TrE.meetX (()) hm (EnvSub.nil) rfl
        · rintro _ hm
          change K1 () = some r at hm
          subst hK1
          refine TrC.seq ?_
          refine TrC.region rfl ?_
          refine L rfl rfl (PStep.assign rfl Lk.c) ?_
          refine TrL.nil ?_
          refine TrE.seq ?_
          refine TrC.ret (?_)
          cases hm
          exact TrE.retOK (RetOK.eq (show _ = _ from rfl) (RetOK.tmp rfl (Lk.t (t := 2) rfl) (List.nil_sublist _)))
def m_index_key (a0 : Release) : Option (Selected) :=
  some (((⟨a0.path, a0.version⟩ : Selected)))
theorem s_index_key (a0 : Release) (r : Selected) (hm : m_index_key a0 = some r) : Fn Tryz.prog 108 [pT (a0 : Release)] (pT (r : Selected)) := by
  unfold m_index_key at hm
  refine Spec.mk Tryz.func108 rfl rfl fun B => ?_
  refine TrC.seq ?_
  refine TrC.region rfl ?_
  refine TrL.alloc (AStep.boxK rfl rfl (Lk.t rfl)) rfl (fun b1 => ?_)
  refine TrL.alloc (AStep.alloc Tryz.zeroValue59 rfl zc59 rfl rfl) rfl (fun b2 => ?_)
  refine TrL.nil ?_
  refine TrE.seq ?_
  refine TrC.seq ?_
  refine TrC.region rfl ?_
  refine L rfl rfl (PStep.faLoc fo89_0 rfl (Lk.t rfl)) ?_
  refine L rfl rfl (PStep.ldLoc 1 Tryz.isAgg9 rfl (Lk.t rfl) rfl rfl) ?_
  refine L rfl rfl (PStep.faLoc fo89_1 rfl (Lk.t rfl)) ?_
  refine L rfl rfl (PStep.ldLocV (α := Version) (v := a0.version) 1 Tryz.isAgg57 Tryz.sizeOf57 rfl (Lk.t rfl) rfl rfl) ?_
  refine L rfl rfl (mk59_01 rfl (Lk.t rfl) (Lk.t rfl)) ?_
  refine LS rfl rfl (Step.storeW 0 Tryz.sizeOf59 rfl (Lk.t rfl) (Lk.t rfl) rfl rfl rfl) ?_
  refine TrL.nil ?_
  refine TrE.seq ?_
  refine TrC.ret (?_)
  cases hm
  exact TrE.retOK (RetOK.eq (show _ = _ from rfl) (RetOK.cell 0 Tryz.isAgg59 Tryz.sizeOf59 rfl (Lk.t rfl) rfl rfl (List.nil_sublist _)))
def m_index_compare (a0 : Release) (a1 : Release) : Option (Int) :=
  some ((firstNZ (([(cmpS a0.path a1.path), (cmpV a0.version a1.version)] : (List Int)))))
theorem s_index_compare (a0 : Release) (a1 : Release) (r : Int) (hm : m_index_compare a0 a1 = some r) : Fn Tryz.prog 109 [pT (a0 : Release), pT (a1 : Release)] (pI (r)) := by
  unfold m_index_compare at hm
  refine Spec.mk Tryz.func109 rfl rfl fun B => ?_
  refine TrC.seq ?_
  refine TrC.region rfl ?_
  refine TrL.alloc (AStep.boxK rfl rfl (Lk.t rfl)) rfl (fun b1 => ?_)
  refine TrL.alloc (AStep.boxK rfl rfl (Lk.t rfl)) rfl (fun b2 => ?_)
  refine L rfl rfl (PStep.assign rfl Lk.c) ?_
  refine TrL.nil ?_
  refine TrE.seq ?_
  refine TrC.seq ?_
  refine TrC.flow 13 mixed rfl (by kernel_rfl) (by kernel_rfl) ?_
  refine F rfl rfl (PStep.faLoc fo89_0 rfl (Lk.t rfl)) ?_
  refine F rfl rfl (PStep.ldLoc 1 Tryz.isAgg9 rfl (Lk.t rfl) rfl rfl) ?_
  refine F rfl rfl (PStep.faLoc fo89_0 rfl (Lk.t rfl)) ?_
  refine F rfl rfl (PStep.ldLoc 0 Tryz.isAgg9 rfl (Lk.t rfl) rfl rfl) ?_
  refine F rfl rfl (PStep.call (s_cmpS a0.path a1.path ) Tryz.call157 rfl (LkAll.cons (Lk.t rfl) (LkAll.cons (Lk.t rfl) LkAll.nil))) ?_
  refine F rfl rfl (PStep.faLoc fo89_1 rfl (Lk.t rfl)) ?_
  refine F rfl rfl (PStep.ldLocV (α := Version) (v := a0.version) 1 Tryz.isAgg57 Tryz.sizeOf57 rfl (Lk.t rfl) rfl rfl) ?_
  refine F rfl rfl (PStep.faLoc fo89_1 rfl (Lk.t rfl)) ?_
  refine F rfl rfl (PStep.ldLocV (α := Version) (v := a1.version) 0 Tryz.isAgg57 Tryz.sizeOf57 rfl (Lk.t rfl) rfl rfl) ?_
  refine F rfl rfl (PStep.call (s_cmpV a0.version a1.version ) Tryz.call158 rfl (LkAll.cons (Lk.t rfl) (LkAll.cons (Lk.t rfl) LkAll.nil))) ?_
  refine F rfl rfl (PStep.litX ([(cmpS a0.path a1.path), (cmpV a0.version a1.version)] : (List Int)) slT154 rfl ⟨rfl, Lk.eI (Lk.t rfl), ⟨rfl, Lk.eI (Lk.t rfl), trivial⟩⟩ rfl rfl) ?_
  refine F rfl rfl (PStep.call (s_Or (([(cmpS a0.path a1.path), (cmpV a0.version a1.version)] : (List Int))) ) Tryz.call156 rfl (LkAll.cons (Lk.slX (Lk.t rfl)) LkAll.nil)) ?_
  refine F rfl rfl (PStep.assign rfl (Lk.t rfl)) ?_
  refine FlowH.nil ?_
  refine ⟨rfl, ?_⟩
  refine AllocK.none rfl ?_
  refine TrL.nil ?_
  refine TrE.seq ?_
  refine TrC.ret (?_)
  cases hm
  exact TrE.retOK (RetOK.eq (show _ = _ from rfl) (RetOK.tmp rfl (Lk.t (t := 4) rfl) (List.nil_sublist _)))
def m_index_Check_L2 (a0 : Index) (K1 : Unit → Option (Int)) : Nat → Nat → Option (Int)
  | 0, _ => none
  | n + 1, i1 =>
    (bif (decide ((i1 : Int) < (a0.releases.length : Int))) then bnd (m_index_checkRelease (((ix a0.releases ((i1 : Int)))))) fun x1 => (bif (decide (x1 ≠ (0 : Int))) then some x1
  else (bif (decide ((i1 : Int) = (0 : Int))) then m_index_Check_L2 a0 K1 n ((i1 + 1))
  else chk (-9223372036854775808 ≤ ((i1 : Int) - (1 : Int)) ∧ ((i1 : Int) - (1 : Int)) ≤ 9223372036854775807) <| chk (0 ≤ ((i1 : Int) - (1 : Int)) ∧ ((i1 : Int) - (1 : Int)) < (a0.releases.length : Int)) <| bnd (m_index_key (((ix a0.releases (((i1 : Int) - (1 : Int))))))) fun x2 => bnd (m_index_key (((ix a0.releases ((i1 : Int)))))) fun x3 => (bif (decide (x2 = x3)) then some ((5 : Int))
  else bnd (m_index_compare (((ix a0.releases (((i1 : Int) - (1 : Int)))))) (((ix a0.releases ((i1 : Int)))))) fun x4 => (bif (decide ((0 : Int) < x4)) then some ((1 : Int))
  else m_index_Check_L2 a0 K1 n ((i1 + 1))))))
  else K1 ())
def m_index_Check (a0 : Index) : Option (Int) :=
  (bif (decide ((256 : Int) < (a0.releases.length : Int))) then some ((7 : Int))
  else joinM (fun (_ : Unit) =>
    some ((0 : Int))) fun K1 =>
    m_index_Check_L2 a0 K1 (a0.releases.length + 1) 0)
theorem s_index_Check (a0 : Index) (r : Int) (hm : m_index_Check a0 = some r) : Fn Tryz.prog 64 [pT (a0 : Index)] (pI (r)) := by
  unfold m_index_Check at hm
  refine Spec.mk Tryz.func64 rfl rfl fun B => ?_
  refine TrC.seq ?_
  refine TrC.region rfl ?_
  refine TrL.alloc (AStep.boxK rfl rfl (Lk.t rfl)) rfl (fun b1 => ?_)
  refine L rfl rfl (PStep.assign rfl Lk.c) ?_
  refine TrL.nil ?_
  refine TrE.seq ?_
  refine TrC.seq ?_
  refine TrC.seq ?_
  refine TrC.region rfl ?_
  refine L rfl rfl (PStep.faLoc fo25_0 rfl (Lk.t rfl)) ?_
  refine L rfl rfl (PStep.ldLoc 0 Tryz.isAgg22 rfl (Lk.t rfl) rfl rfl) ?_
  refine L rfl rfl (PStep.len (xs := a0.releases) (tys := #[]) Tryz.runUnderlying22 rfl (Lk.t rfl)) ?_
  refine L rfl rfl (PStep.gtr rfl (Lk.t rfl) Lk.c) ?_
  refine TrL.nil ?_
  refine TrE.seq ?_
  refine TrC.condB (Lk.t rfl) (fun hc1 => ?_) (fun hc1 => ?_)
  · have hm := cond_t hm hc1
    have hs1 := hc1
    try simp only [decide_eq_true_eq, decide_eq_false_iff_not, Bool.and_eq_true, Bool.or_eq_true, Bool.not_eq_true', Bool.not_eq_false', Bool.and_eq_false_iff, Bool.or_eq_false_iff] at hs1
    refine TrC.seq ?_
    refine TrC.region rfl ?_
    refine L rfl rfl (PStep.assign rfl Lk.c) ?_
    refine TrL.nil ?_
    refine TrE.seq ?_
    refine TrC.ret (TrE.thenR <| ?_)
    cases hm
    exact TrE.retOK (RetOK.eq (show _ = _ from rfl) (RetOK.tmp rfl (Lk.t (t := 2) rfl) (List.nil_sublist _)))
  · have hm := cond_f hm hc1
    have hs1 := hc1
    try simp only [decide_eq_true_eq, decide_eq_false_iff_not, Bool.and_eq_true, Bool.or_eq_true, Bool.not_eq_true', Bool.not_eq_false', Bool.and_eq_false_iff, Bool.or_eq_false_iff] at hs1
    refine TrC.skip ?_
    refine TrE.seq ?_
    obtain ⟨K1, hK1, hm⟩ := joinK hm
    refine TrC.meetM (X := Unit) (fun _ => K1 () = some r) (fun _ => []) [] (fun _ => fun A => A) EnvSub.nil ?_ ?_
    · refine TrC.seq ?_
      refine TrC.region rfl ?_
      refine L rfl rfl (PStep.faLoc fo25_0 rfl (Lk.t rfl)) ?_
      refine L rfl rfl (PStep.ldLoc 0 Tryz.isAgg22 rfl (Lk.t rfl) rfl rfl) ?_
      refine L rfl rfl (PStep.len (xs := a0.releases) (tys := #[]) Tryz.runUnderlying22 rfl (Lk.t rfl)) ?_
      refine L rfl rfl (PStep.move rfl Lk.c) ?_
      refine TrL.nil ?_
      refine TrE.seq ?_
      refine TrC.block ?_
      refine TrC.know (Lk.t (t := 12) rfl) pSl.lt fun hl1 => ?_
      refine TrC.loopM (X := Nat × Nat) (fun ⟨n, i1⟩ => m_index_Check_L2 a0 K1 n i1 = some r) (fun ⟨n, i1⟩ => [(14, pI ((i1 : Int)))]) [(1, _), (12, _), (13, _)] (fun ⟨n, i1⟩ => fun A => A) (fun ⟨n, i1⟩ => n) (((a0.releases.length + 1 : Nat), 0)) hm ((EnvSub.cons rfl (EnvSub.cons rfl (EnvSub.cons rfl (EnvSub.cons rfl EnvSub.nil))))) rfl ?_
      rintro ⟨n, i1⟩ hm
      obtain ⟨n, rfl⟩ := succ_of (f := fun n => m_index_Check_L2 a0 K1 n i1) rfl hm
      change m_index_Check_L2 a0 K1 (n + 1) i1 = some r at hm
      rw [m_index_Check_L2] at hm
      refine TrC.seq ?_
      refine TrC.region rfl ?_
      refine L rfl rfl (PStep.lss rfl (Lk.t rfl) (Lk.t rfl)) ?_
      refine TrL.nil ?_
      refine TrE.seq ?_
      refine TrC.seq ?_
      refine TrC.condB (Lk.t rfl) (fun hc2 => ?_) (fun hc2 => ?_)
      · have hm := cond_t hm hc2
        have hs2 := hc2
        try simp only [decide_eq_true_eq, decide_eq_false_iff_not, Bool.and_eq_true, Bool.or_eq_true, Bool.not_eq_true', Bool.not_eq_false', Bool.and_eq_false_iff, Bool.or_eq_false_iff] at hs2
        refine TrC.skip ?_
        refine TrE.seq ?_
        refine TrC.seq ?_
        refine TrC.block ?_
        refine TrC.seq ?_
        refine TrC.region rfl ?_
        refine L rfl rfl (PStep.move rfl (Lk.t rfl)) ?_
        refine L rfl rfl (PStep.ixD (xs := a0.releases) Tryz.runUnderlying22 Tryz.sizeOf89 rfl (Lk.t rfl) (Lk.t rfl) (by omega)) ?_
        refine L rfl rfl (PStep.ldRefV (α := Release) (v := (ix a0.releases ((i1 : Int)))) Tryz.isAgg89 Tryz.sizeOf89 rfl (Lk.t rfl) rfl) ?_
        refine TrL.alloc (AStep.alloc Tryz.zeroValue89 rfl zc89 rfl rfl) rfl (fun b2 => ?_)
        refine L rfl rfl (PStep.assign rfl (Lk.t rfl)) ?_
        refine LS rfl rfl (Step.storeW 0 Tryz.sizeOf89 rfl (Lk.t rfl) (Lk.t rfl) rfl rfl rfl) ?_
        refine TrL.nil ?_
        refine TrE.seq ?_
        refine TrC.seq ?_
        refine TrC.seq ?_
        refine TrC.region rfl ?_
        refine L rfl rfl (PStep.ldLocV (α := Release) (v := ((ix a0.releases ((i1 : Int))))) 0 Tryz.isAgg89 Tryz.sizeOf89 rfl (Lk.t rfl) rfl rfl) ?_
        obtain ⟨x1, hx1, hm⟩ := bnd_some hm
        refine L rfl rfl (PStep.call ((s_index_checkRelease (((ix a0.releases ((i1 : Int))))) x1 hx1)) Tryz.call107 rfl (LkAll.cons (Lk.t rfl) LkAll.nil)) ?_
        refine L rfl rfl (PStep.assign rfl (Lk.t rfl)) ?_
        refine TrL.nil ?_
        refine TrE.seq ?_
        refine TrC.seq ?_
        refine TrC.region rfl ?_
        refine L rfl rfl (PStep.move rfl (Lk.t rfl)) ?_
        refine L rfl rfl (PStep.neq rfl (Lk.t rfl) Lk.c) ?_
        refine TrL.nil ?_
        refine TrE.seq ?_
        refine TrC.condB (Lk.t rfl) (fun hc3 => ?_) (fun hc3 => ?_)
        · have hm := cond_t hm hc3
          have hs3 := hc3
          try simp only [decide_eq_true_eq, decide_eq_false_iff_not, Bool.and_eq_true, Bool.or_eq_true, Bool.not_eq_true', Bool.not_eq_false', Bool.and_eq_false_iff, Bool.or_eq_false_iff] at hs3
          refine TrC.seq ?_
          refine TrC.region rfl ?_
          refine L rfl rfl (PStep.move rfl (Lk.t rfl)) ?_
          refine L rfl rfl (PStep.assign rfl (Lk.t rfl)) ?_
          refine TrL.nil ?_
          refine TrE.seq ?_
          refine TrC.ret (TrE.thenR <| TrE.blockR <| TrE.thenR <| TrE.thenR <| TrE.blockR <| TrE.thenR <| ?_)
          cases hm
          exact TrE.retOK (RetOK.eq (show _ = _ from rfl) (RetOK.tmp rfl (Lk.t (t := 2) rfl) (List.nil_sublist _)))
        · have hm := cond_f hm hc3
          have hs3 := hc3
          try simp only [decide_eq_true_eq, decide_eq_false_iff_not, Bool.and_eq_true, Bool.or_eq_true, Bool.not_eq_true', Bool.not_eq_false', Bool.and_eq_false_iff, Bool.or_eq_false_iff] at hs3
          refine TrC.skip ?_
          refine TrE.seq ?_
          refine TrC.seq ?_
          refine TrC.seq ?_
          refine TrC.region rfl ?_
          refine L rfl rfl (PStep.move rfl (Lk.t rfl)) ?_
          refine L rfl rfl (PStep.eql rfl (Lk.t rfl) Lk.c) ?_
          refine TrL.nil ?_
          refine TrE.seq ?_
          refine TrC.condB (Lk.t rfl) (fun hc4 => ?_) (fun hc4 => ?_)
          · have hm := cond_t hm hc4
            have hs4 := hc4
            try simp only [decide_eq_true_eq, decide_eq_false_iff_not, Bool.and_eq_true, Bool.or_eq_true, Bool.not_eq_true', Bool.not_eq_false', Bool.and_eq_false_iff, Bool.or_eq_false_iff] at hs4
            refine TrC.exit (TrE.thenX <| TrE.blockHit <| ?_)
            refine TrE.seq ?_
            refine TrC.region rfl ?_
            refine L rfl rfl (PStep.add64 rfl (Lk.t rfl) Lk.c (by omega)) ?_
            refine L rfl rfl (PStep.move rfl (Lk.t rfl)) ?_
            refine TrL.nil ?_
            refine TrE.dropF 1 ?_
            refine TrE.again ((n, (i1 + 1))) hm (Nat.lt_succ_self n) ((EnvSub.cons rfl (EnvSub.cons rfl (EnvSub.cons rfl (EnvSub.cons rfl EnvSub.nil))))) rfl
          · have hm := cond_f hm hc4
            have hs4 := hc4
            try simp only [decide_eq_true_eq, decide_eq_false_iff_not, Bool.and_eq_true, Bool.or_eq_true, Bool.not_eq_true', Bool.not_eq_false', Bool.and_eq_false_iff, Bool.or_eq_false_iff] at hs4
            refine TrC.skip ?_
            refine TrE.seq ?_
            refine TrC.seq ?_
            refine TrC.region rfl ?_
            refine L rfl rfl (PStep.faLoc fo25_0 rfl (Lk.t rfl)) ?_
            refine L rfl rfl (PStep.ldLoc 1 Tryz.isAgg22 rfl (Lk.t rfl) rfl rfl) ?_
            refine L rfl rfl (PStep.move rfl (Lk.t rfl)) ?_
            obtain ⟨hk1, hm⟩ := chk_some hm
            refine L rfl rfl (PStep.sub64 rfl (Lk.t rfl) Lk.c hk1) ?_
            obtain ⟨hk2, hm⟩ := chk_some hm
            refine L rfl rfl (PStep.ixD (xs := a0.releases) Tryz.runUnderlying22 Tryz.sizeOf89 rfl (Lk.t rfl) (Lk.t rfl) hk2) ?_
            refine L rfl rfl (PStep.ldRefV (α := Release) (v := (ix a0.releases (((i1 : Int) - (1 : Int))))) Tryz.isAgg89 Tryz.sizeOf89 rfl (Lk.t rfl) rfl) ?_
            refine TrL.alloc (AStep.alloc Tryz.zeroValue89 rfl zc89 rfl rfl) rfl (fun b3 => ?_)
            refine LS rfl rfl (Step.storeW 0 Tryz.sizeOf89 rfl (Lk.t rfl) (Lk.t rfl) rfl rfl rfl) ?_
            refine TrL.nil ?_
            refine TrE.seq ?_
            refine TrC.seq ?_
            refine TrC.flow 5 mixed rfl (by kernel_rfl) (by kernel_rfl) ?_
            refine F rfl rfl (PStep.ldLocV (α := Release) (v := ((ix a0.releases (((i1 : Int) - (1 : Int)))))) 0 Tryz.isAgg89 Tryz.sizeOf89 rfl (Lk.t rfl) rfl rfl) ?_
            obtain ⟨x2, hx2, hm⟩ := bnd_some hm
            refine F rfl rfl (PStep.call ((s_index_key (((ix a0.releases (((i1 : Int) - (1 : Int)))))) x2 hx2)) Tryz.call108 rfl (LkAll.cons (Lk.t rfl) LkAll.nil)) ?_
            refine F rfl rfl (PStep.ldLocV (α := Release) (v := ((ix a0.releases ((i1 : Int))))) 1 Tryz.isAgg89 Tryz.sizeOf89 rfl (Lk.t rfl) rfl rfl) ?_
            obtain ⟨x3, hx3, hm⟩ := bnd_some hm
            refine F rfl rfl (PStep.call ((s_index_key (((ix a0.releases ((i1 : Int))))) x3 hx3)) Tryz.call108 rfl (LkAll.cons (Lk.t rfl) LkAll.nil)) ?_
            refine F rfl rfl (PStep.Eq eqT59 cellsSelected rfl (Lk.t rfl) (Lk.t rfl)) ?_
            refine FlowH.nil ?_
            refine ⟨rfl, ?_⟩
            refine AllocK.none rfl ?_
            refine TrL.nil ?_
            refine TrE.seq ?_
            refine TrC.condB (Lk.t rfl) (fun hc5 => ?_) (fun hc5 => ?_)
            · have hm := cond_t hm hc5
              have hs5 := hc5
              try simp only [decide_eq_true_eq, decide_eq_false_iff_not, Bool.and_eq_true, Bool.or_eq_true, Bool.not_eq_true', Bool.not_eq_false', Bool.and_eq_false_iff, Bool.or_eq_false_iff] at hs5
              refine TrC.seq ?_
              refine TrC.region rfl ?_
              refine L rfl rfl (PStep.assign rfl Lk.c) ?_
              refine TrL.nil ?_
              refine TrE.seq ?_
              refine TrC.ret (TrE.blockR <| TrE.thenR <| TrE.thenR <| TrE.blockR <| TrE.thenR <| ?_)
              cases hm
              exact TrE.retOK (RetOK.eq (show _ = _ from rfl) (RetOK.tmp rfl (Lk.t (t := 2) rfl) (List.nil_sublist _)))
            · have hm := cond_f hm hc5
              have hs5 := hc5
              try simp only [decide_eq_true_eq, decide_eq_false_iff_not, Bool.and_eq_true, Bool.or_eq_true, Bool.not_eq_true', Bool.not_eq_false', Bool.and_eq_false_iff, Bool.or_eq_false_iff] at hs5
              refine TrC.seq ?_
              refine TrC.region rfl ?_
              refine L rfl rfl (PStep.ldLocV (α := Release) (v := ((ix a0.releases (((i1 : Int) - (1 : Int)))))) 0 Tryz.isAgg89 Tryz.sizeOf89 rfl (Lk.t rfl) rfl rfl) ?_
              refine L rfl rfl (PStep.ldLocV (α := Release) (v := ((ix a0.releases ((i1 : Int))))) 1 Tryz.isAgg89 Tryz.sizeOf89 rfl (Lk.t rfl) rfl rfl) ?_
              obtain ⟨x4, hx4, hm⟩ := bnd_some hm
              refine L rfl rfl (PStep.call ((s_index_compare (((ix a0.releases (((i1 : Int) - (1 : Int)))))) (((ix a0.releases ((i1 : Int))))) x4 hx4)) Tryz.call109 rfl (LkAll.cons (Lk.t rfl) (LkAll.cons (Lk.t rfl) LkAll.nil))) ?_
              refine L rfl rfl (PStep.gtr rfl (Lk.t rfl) Lk.c) ?_
              refine TrL.nil ?_
              refine TrE.seq ?_
              refine TrC.condB (Lk.t rfl) (fun hc6 => ?_) (fun hc6 => ?_)
              · have hm := cond_t hm hc6
                have hs6 := hc6
                try simp only [decide_eq_true_eq, decide_eq_false_iff_not, Bool.and_eq_true, Bool.or_eq_true, Bool.not_eq_true', Bool.not_eq_false', Bool.and_eq_false_iff, Bool.or_eq_false_iff] at hs6
                refine TrC.seq ?_
                refine TrC.region rfl ?_
                refine L rfl rfl (PStep.assign rfl Lk.c) ?_
                refine TrL.nil ?_
                refine TrE.seq ?_
                refine TrC.ret (TrE.blockR <| TrE.thenR <| TrE.thenR <| TrE.blockR <| TrE.thenR <| ?_)
                cases hm
                exact TrE.retOK (RetOK.eq (show _ = _ from rfl) (RetOK.tmp rfl (Lk.t (t := 2) rfl) (List.nil_sublist _)))
              · have hm := cond_f hm hc6
                have hs6 := hc6
                try simp only [decide_eq_true_eq, decide_eq_false_iff_not, Bool.and_eq_true, Bool.or_eq_true, Bool.not_eq_true', Bool.not_eq_false', Bool.and_eq_false_iff, Bool.or_eq_false_iff] at hs6
                refine TrC.skip ?_
                refine TrE.blockN ?_
                refine TrE.seq ?_
                refine TrC.region rfl ?_
                refine L rfl rfl (PStep.add64 rfl (Lk.t rfl) Lk.c (by omega)) ?_
                refine L rfl rfl (PStep.move rfl (Lk.t rfl)) ?_
                refine TrL.nil ?_
                refine TrE.dropF 2 ?_
                refine TrE.again ((n, (i1 + 1))) hm (Nat.lt_succ_self n) ((EnvSub.cons rfl (EnvSub.cons rfl (EnvSub.cons rfl (EnvSub.cons rfl EnvSub.nil))))) rfl
      · have hm := cond_f hm hc2
        have hs2 := hc2
        try simp only [decide_eq_true_eq, decide_eq_false_iff_not, Bool.and_eq_true, Bool.or_eq_true, Bool.not_eq_true', Bool.not_eq_false', Bool.and_eq_false_iff, Bool.or_eq_false_iff] at hs2
        refine TrC.exit (TrE.thenX <| TrE.thenX <| TrE.blockHit <| ?_)
        refine TrE.meetX (()) hm (EnvSub.nil) rfl
    · rintro _ hm
      change K1 () = some r at hm
      subst hK1
      refine TrC.seq ?_
      refine TrC.region rfl ?_
      refine L rfl rfl (PStep.assign rfl Lk.c) ?_
      refine TrL.nil ?_
      refine TrE.seq ?_
      refine TrC.ret (?_)
      cases hm
      exact TrE.retOK (RetOK.eq (show _ = _ from rfl) (RetOK.tmp rfl (Lk.t (t := 2) rfl) (List.nil_sublist _)))
def m_proof_kinds_1 (a0 : Inference) : Option (Inference) :=
  some (((⟨a0.kind, a0.path, a0.place, (0 : Int), a0.left, a0.right⟩ : Inference)))
theorem s_proof_kinds_1 (a0 : Inference) (r : Inference) (hm : m_proof_kinds_1 a0 = some r) : Fn Tryz.prog 160 [pT (a0 : Inference)] (pT (r : Inference)) := by
  unfold m_proof_kinds_1 at hm
  refine Spec.mk Tryz.func160 rfl rfl fun B => ?_
  refine TrC.seq ?_
  refine TrC.region rfl ?_
  refine TrL.alloc (AStep.boxK rfl rfl (Lk.t rfl)) rfl (fun b1 => ?_)
  refine TrL.alloc (AStep.alloc Tryz.zeroValue68 rfl zc68 rfl rfl) rfl (fun b2 => ?_)
  refine TrL.nil ?_
  refine TrE.seq ?_
  refine TrC.seq ?_
  refine TrC.region rfl ?_
  refine L rfl rfl (PStep.faLoc fo68_3 rfl (Lk.t rfl)) ?_
  refine LS rfl rfl (Step.store1 1 Tryz.sizeOf3 rfl (Lk.t rfl) (show Lk _ _ (pI ((0 : Int))) from Lk.c) rfl rfl rfl) ?_
  refine TrL.nil ?_
  refine TrE.seq ?_
  refine TrC.seq ?_
  refine TrC.region rfl ?_
  refine L rfl rfl (PStep.ldLocV (α := Inference) (v := (⟨a0.kind, a0.path, a0.place, (0 : Int), a0.left, a0.right⟩ : Inference)) 1 Tryz.isAgg68 Tryz.sizeOf68 rfl (Lk.t rfl) rfl rfl) ?_
  refine LS rfl rfl (Step.storeW 0 Tryz.sizeOf68 rfl (Lk.t rfl) (Lk.t rfl) rfl rfl rfl) ?_
  refine TrL.nil ?_
  refine TrE.seq ?_
  refine TrC.ret (?_)
  cases hm
  exact TrE.retOK (RetOK.eq (show _ = _ from rfl) (RetOK.cell 0 Tryz.isAgg68 Tryz.sizeOf68 rfl (Lk.t rfl) rfl rfl (List.nil_sublist _)))
def m_proof_checker_root (a0 : Checker) (a1 : Inference) : Option ((List Term) × Bool) :=
  (bif ((decide (a1.number < (0 : Int))) || (decide ((a0.roots_.length : Int) ≤ a1.number))) then some (([] : (List Term)), false)
  else chk (0 ≤ a1.number ∧ a1.number < (a0.roots_.length : Int)) <| chk (((ix a0.roots_ a1.number)).set_.length ≤ 1000000) <| some ((rootI ((ix a0.roots_ a1.number))), true))
theorem s_proof_checker_root (a0 : Checker) (a1 : Inference) (bb0 : Nat) (oo0_3 : OS) (r : (List Term) × Bool) (hm : m_proof_checker_root a0 a1 = some r) : SpecX (X := Unit) Tryz.prog 161 [pPtr bb0 0, pT (a1 : Inference)] [hCells bb0 83 [pSl (a0.index_.releases : (List Release)), pV (.slice (a0.index_.interfaces).at_ (a0.index_.interfaces).len (a0.index_.interfaces).cap), pSl (a0.roots_ : (List Requirement)), pSh oo0_3 (a0.derived : (List (List Term)))], hRow true 51 oo0_3 (a0.derived : (List (List Term)))] (fun _ => pTup [pSl (r.1 : (List Term)), pB (r.2)]) (fun _ => [hCells bb0 83 [pSl (a0.index_.releases : (List Release)), pV (.slice (a0.index_.interfaces).at_ (a0.index_.interfaces).len (a0.index_.interfaces).cap), pSl (a0.roots_ : (List Requirement)), pSh oo0_3 (a0.derived : (List (List Term)))], hRow true 51 oo0_3 (a0.derived : (List (List Term)))]) := by
  unfold m_proof_checker_root at hm
  refine SpecX.mk Tryz.func161 rfl rfl fun B => ?_
  refine TrC.seq ?_
  refine TrC.region rfl ?_
  refine TrL.alloc (AStep.boxK rfl rfl (Lk.t rfl)) rfl (fun b1 => ?_)
  refine L rfl rfl (PStep.assign rfl Lk.c) ?_
  refine L rfl rfl (PStep.assign rfl Lk.c) ?_
  refine TrL.nil ?_
  refine TrE.seq ?_
  refine TrC.seq ?_
  refine TrC.seq ?_
  refine TrC.flow 13 mixed rfl (by kernel_rfl) (by kernel_rfl) ?_
  refine F rfl rfl (PStep.faLoc fo68_3 rfl (Lk.t rfl)) ?_
  refine F rfl rfl (PStep.ldLoc 0 Tryz.isAgg3 rfl (Lk.t rfl) rfl rfl) ?_
  refine F rfl rfl (PStep.lss rfl (Lk.t rfl) Lk.c) ?_
  refine F rfl rfl (PStep.move rfl (Lk.t rfl)) ?_
  refine FW rfl (WStep.guard rfl rfl rfl rfl (fun hg => PStep.faLoc fo68_3 rfl (Lk.t rfl))) ?_
  refine FW rfl (WStep.guard rfl rfl rfl rfl (fun hg => PStep.ldLoc 0 Tryz.isAgg3 rfl (Lk.g rfl hg) rfl rfl)) ?_
  refine FW rfl (WStep.guard rfl rfl rfl rfl (fun hg => PStep.move rfl (Lk.t rfl))) ?_
  refine FW rfl (WStep.guard rfl rfl rfl rfl (fun hg => PStep.nilLoc rfl (Lk.g rfl hg))) ?_
  refine FW rfl (WStep.guard rfl rfl rfl rfl (fun hg => PStep.faLoc fo83_1 rfl (Lk.g rfl hg))) ?_
  refine FW rfl (WStep.guard rfl rfl rfl rfl (fun hg => PStep.ldLoc 1 Tryz.isAgg26 rfl (Lk.g rfl hg) rfl rfl)) ?_
  refine FW rfl (WStep.guard rfl rfl rfl rfl (fun hg => PStep.len (xs := a0.roots_) (tys := #[]) Tryz.runUnderlying26 rfl (Lk.g rfl hg))) ?_
  refine FW rfl (WStep.guard rfl rfl rfl rfl (fun hg => PStep.geq rfl (Lk.g rfl hg) (Lk.g rfl hg))) ?_
  refine F rfl rfl (PStep.pickOr rfl (Lk.t rfl) (fun hq => Lk.g rfl hq)) ?_
  refine FlowH.nil ?_
  refine ⟨rfl, ?_⟩
  refine AllocK.none rfl ?_
  refine TrL.nil ?_
  refine TrE.seq ?_
  refine TrC.condB (Lk.t rfl) (fun hc1 => ?_) (fun hc1 => ?_)
  · have hm := cond_t hm hc1
    have hs1 := hc1
    try simp only [decide_eq_true_eq, decide_eq_false_iff_not, Bool.and_eq_true, Bool.or_eq_true, Bool.not_eq_true', Bool.not_eq_false', Bool.and_eq_false_iff, Bool.or_eq_false_iff] at hs1
    refine TrC.seq ?_
    refine TrC.region rfl ?_
    refine L rfl rfl (PStep.assign rfl Lk.c) ?_
    refine L rfl rfl (PStep.assign rfl Lk.c) ?_
    refine TrL.nil ?_
    refine TrE.seq ?_
    refine TrC.ret (TrE.thenR <| ?_)
    cases hm
    exact TrE.retOKX (RetOKX.of (()) (RetOK.eq (show _ = _ from rfl) (RetOK.tmp2 rfl (Lk.nilSl (α := Term) (Lk.t (t := 4) rfl)) (Lk.t (t := 5) rfl) (List.Sublist.cons _ (List.Sublist.cons_cons _ (List.Sublist.cons_cons _ (List.nil_sublist _)))))))
  · have hm := cond_f hm hc1
    have hs1 := hc1
    try simp only [decide_eq_true_eq, decide_eq_false_iff_not, Bool.and_eq_true, Bool.or_eq_true, Bool.not_eq_true', Bool.not_eq_false', Bool.and_eq_false_iff, Bool.or_eq_false_iff] at hs1
    refine TrC.skip ?_
    refine TrE.seq ?_
    refine TrC.seq ?_
    refine TrC.flow 11 mixed rfl (by kernel_rfl) (by kernel_rfl) ?_
    refine F rfl rfl (PStep.move rfl (Lk.t rfl)) ?_
    refine F rfl rfl (PStep.nilLoc rfl (Lk.t rfl)) ?_
    refine F rfl rfl (PStep.faLoc fo83_1 rfl (Lk.t rfl)) ?_
    refine F rfl rfl (PStep.ldLoc 1 Tryz.isAgg26 rfl (Lk.t rfl) rfl rfl) ?_
    refine F rfl rfl (PStep.faLoc fo68_3 rfl (Lk.t rfl)) ?_
    refine F rfl rfl (PStep.ldLoc 0 Tryz.isAgg3 rfl (Lk.t rfl) rfl rfl) ?_
    obtain ⟨hk1, hm⟩ := chk_some hm
    refine F rfl rfl (PStep.ixD (xs := a0.roots_) Tryz.runUnderlying26 Tryz.sizeOf120 rfl (Lk.t rfl) (Lk.t rfl) hk1) ?_
    refine F rfl rfl (PStep.ldRefV (α := Requirement) (v := (ix a0.roots_ a1.number)) Tryz.isAgg120 Tryz.sizeOf120 rfl (Lk.t rfl) rfl) ?_
    obtain ⟨hk2, hm⟩ := chk_some hm
    refine F rfl rfl (PStep.call (s_Root ((ix a0.roots_ a1.number)) hk2) Tryz.call191 rfl (LkAll.cons (Lk.t rfl) LkAll.nil)) ?_
    refine F rfl rfl (PStep.assign rfl (Lk.t rfl)) ?_
    refine F rfl rfl (PStep.assign rfl Lk.c) ?_
    refine FlowH.nil ?_
    refine ⟨rfl, ?_⟩
    refine AllocK.none rfl ?_
    refine TrL.nil ?_
    refine TrE.seq ?_
    refine TrC.ret (?_)
    cases hm
    exact TrE.retOKX (RetOKX.of (()) (RetOK.eq (show _ = _ from rfl) (RetOK.tmp2 rfl (Lk.t (t := 4) rfl) (Lk.t (t := 5) rfl) (List.Sublist.cons _ (List.Sublist.cons_cons _ (List.Sublist.cons_cons _ (List.nil_sublist _)))))))
def m_proof_kinds_2 (a0 : Inference) : Option (Inference) :=
  some (((⟨a0.kind, (⟨#[]⟩ : ByteArray), (0 : Int), (0 : Int), a0.left, a0.right⟩ : Inference)))
theorem s_proof_kinds_2 (a0 : Inference) (r : Inference) (hm : m_proof_kinds_2 a0 = some r) : Fn Tryz.prog 162 [pT (a0 : Inference)] (pT (r : Inference)) := by
  unfold m_proof_kinds_2 at hm
  refine Spec.mk Tryz.func162 rfl rfl fun B => ?_
  refine TrC.seq ?_
  refine TrC.region rfl ?_
  refine TrL.alloc (AStep.boxK rfl rfl (Lk.t rfl)) rfl (fun b1 => ?_)
  refine TrL.alloc (AStep.alloc Tryz.zeroValue68 rfl zc68 rfl rfl) rfl (fun b2 => ?_)
  refine TrL.nil ?_
  refine TrE.seq ?_
  refine TrC.seq ?_
  refine TrC.region rfl ?_
  refine L rfl rfl (PStep.faLoc fo68_1 rfl (Lk.t rfl)) ?_
  refine LS rfl rfl (Step.store1 1 Tryz.sizeOf9 rfl (Lk.t rfl) (show Lk _ _ (pS ((⟨#[]⟩ : ByteArray))) from Lk.c) rfl rfl rfl) ?_
  refine L rfl rfl (PStep.faLoc fo68_2 rfl (Lk.t rfl)) ?_
  refine LS rfl rfl (Step.store1 1 Tryz.sizeOf3 rfl (Lk.t rfl) (show Lk _ _ (pI ((0 : Int))) from Lk.c) rfl rfl rfl) ?_
  refine L rfl rfl (PStep.faLoc fo68_3 rfl (Lk.t rfl)) ?_
  refine LS rfl rfl (Step.store1 1 Tryz.sizeOf3 rfl (Lk.t rfl) (show Lk _ _ (pI ((0 : Int))) from Lk.c) rfl rfl rfl) ?_
  refine TrL.nil ?_
  refine TrE.seq ?_
  refine TrC.seq ?_
  refine TrC.region rfl ?_
  refine L rfl rfl (PStep.ldLocV (α := Inference) (v := (⟨a0.kind, (⟨#[]⟩ : ByteArray), (0 : Int), (0 : Int), a0.left, a0.right⟩ : Inference)) 1 Tryz.isAgg68 Tryz.sizeOf68 rfl (Lk.t rfl) rfl rfl) ?_
  refine LS rfl rfl (Step.storeW 0 Tryz.sizeOf68 rfl (Lk.t rfl) (Lk.t rfl) rfl rfl rfl) ?_
  refine TrL.nil ?_
  refine TrE.seq ?_
  refine TrC.ret (?_)
  cases hm
  exact TrE.retOK (RetOK.eq (show _ = _ from rfl) (RetOK.cell 0 Tryz.isAgg68 Tryz.sizeOf68 rfl (Lk.t rfl) rfl rfl (List.nil_sublist _)))
def m_proof_checker_release_L2 (a0 : Checker) (a1 : ByteArray) (a2 : Int) (K1 : Unit → Option (Release × Bool)) : Nat → Nat → Option (Release × Bool)
  | 0, _ => none
  | n + 1, i1 =>
    (bif (decide ((i1 : Int) < (a0.index_.releases.length : Int))) then (bif ((decide (((ix a0.index_.releases ((i1 : Int)))).path = a1)) && (decide ((placeOf ((((ix a0.index_.releases ((i1 : Int)))).version))).1 = a2))) then some ((((ix a0.index_.releases ((i1 : Int))))), true)
  else m_proof_checker_release_L2 a0 a1 a2 K1 n ((i1 + 1)))
  else K1 ())
def m_proof_checker_release (a0 : Checker) (a1 : ByteArray) (a2 : Int) : Option (Release × Bool) :=
  joinM (fun (_ : Unit) =>
    some (((⟨ByteArray.empty, zVersion, [], ByteArray.empty, ByteArray.empty, ByteArray.empty, false⟩ : Release)), false)) fun K1 =>
    m_proof_checker_release_L2 a0 a1 a2 K1 (a0.index_.releases.length + 1) 0
theorem s_proof_checker_release (a0 : Checker) (a1 : ByteArray) (a2 : Int) (bb0 : Nat) (oo0_3 : OS) (r : Release × Bool) (hm : m_proof_checker_release a0 a1 a2 = some r) : SpecX (X := Unit) Tryz.prog 192 [pPtr bb0 0, pS (a1), pI (a2)] [hCells bb0 83 [pSl (a0.index_.releases : (List Release)), pV (.slice (a0.index_.interfaces).at_ (a0.index_.interfaces).len (a0.index_.interfaces).cap), pSl (a0.roots_ : (List Requirement)), pSh oo0_3 (a0.derived : (List (List Term)))], hRow true 51 oo0_3 (a0.derived : (List (List Term)))] (fun _ => pTup [pT (r.1 : Release), pB (r.2)]) (fun _ => [hCells bb0 83 [pSl (a0.index_.releases : (List Release)), pV (.slice (a0.index_.interfaces).at_ (a0.index_.interfaces).len (a0.index_.interfaces).cap), pSl (a0.roots_ : (List Requirement)), pSh oo0_3 (a0.derived : (List (List Term)))], hRow true 51 oo0_3 (a0.derived : (List (List Term)))]) := by
  unfold m_proof_checker_release at hm
  refine SpecX.mk Tryz.func192 rfl rfl fun B => ?_
  refine TrC.seq ?_
  refine TrC.region rfl ?_
  refine TrL.alloc (AStep.alloc Tryz.zeroValue89 rfl zc89 rfl rfl) rfl (fun b1 => ?_)
  refine L rfl rfl (PStep.assign rfl Lk.c) ?_
  refine TrL.nil ?_
  refine TrE.seq ?_
  obtain ⟨K1, hK1, hm⟩ := joinK hm
  refine TrC.meetM (X := Unit) (fun _ => K1 () = some r) (fun _ => []) [(6, _)] (fun _ => fun A => A) (EnvSub.cons rfl EnvSub.nil) ?_ ?_
  · refine TrC.seq ?_
    refine TrC.region rfl ?_
    refine L rfl rfl (PStep.move rfl (Lk.t rfl)) ?_
    refine L rfl rfl (PStep.nilLoc rfl (Lk.t rfl)) ?_
    refine L rfl rfl (PStep.faLoc fo83_0 rfl (Lk.t rfl)) ?_
    refine L rfl rfl (PStep.faLoc fo25_0 rfl (Lk.t rfl)) ?_
    refine L rfl rfl (PStep.ldLoc 1 Tryz.isAgg22 rfl (Lk.t rfl) rfl rfl) ?_
    refine L rfl rfl (PStep.len (xs := a0.index_.releases) (tys := #[]) Tryz.runUnderlying22 rfl (Lk.t rfl)) ?_
    refine L rfl rfl (PStep.move rfl Lk.c) ?_
    refine TrL.nil ?_
    refine TrE.seq ?_
    refine TrC.block ?_
    refine TrC.know (Lk.t (t := 16) rfl) pSl.lt fun hl1 => ?_
    refine TrC.loopM (X := Nat × Nat) (fun ⟨n, i1⟩ => m_proof_checker_release_L2 a0 a1 a2 K1 n i1 = some r) (fun ⟨n, i1⟩ => [(18, pI ((i1 : Int)))]) [(1, _), (2, _), (6, _), (16, _), (17, _)] (fun ⟨n, i1⟩ => fun A => A) (fun ⟨n, i1⟩ => n) (((a0.index_.releases.length + 1 : Nat), 0)) hm ((EnvSub.cons rfl (EnvSub.cons rfl (EnvSub.cons rfl (EnvSub.cons rfl (EnvSub.cons rfl (EnvSub.cons rfl EnvSub.nil))))))) rfl ?_
    rintro ⟨n, i1⟩ hm
    obtain ⟨n, rfl⟩ := succ_of (f := fun n => m_proof_checker_release_L2 a0 a1 a2 K1 n i1) rfl hm
    change m_proof_checker_release_L2 a0 a1 a2 K1 (n + 1) i1 = some r at hm
    rw [m_proof_checker_release_L2] at hm
    refine TrC.seq ?_
    refine TrC.region rfl ?_
    refine L rfl rfl (PStep.lss rfl (Lk.t rfl) (Lk.t rfl)) ?_
    refine TrL.nil ?_
    refine TrE.seq ?_
    refine TrC.seq ?_
    refine TrC.condB (Lk.t rfl) (fun hc1 => ?_) (fun hc1 => ?_)
    · have hm := cond_t hm hc1
      have hs1 := hc1
      try simp only [decide_eq_true_eq, decide_eq_false_iff_not, Bool.and_eq_true, Bool.or_eq_true, Bool.not_eq_true', Bool.not_eq_false', Bool.and_eq_false_iff, Bool.or_eq_false_iff] at hs1
      refine TrC.skip ?_
      refine TrE.seq ?_
      refine TrC.seq ?_
      refine TrC.block ?_
      refine TrC.seq ?_
      refine TrC.region rfl ?_
      refine L rfl rfl (PStep.ixD (xs := a0.index_.releases) Tryz.runUnderlying22 Tryz.sizeOf89 rfl (Lk.t rfl) (Lk.t rfl) (by omega)) ?_
      refine L rfl rfl (PStep.ldRefV (α := Release) (v := (ix a0.index_.releases ((i1 : Int)))) Tryz.isAgg89 Tryz.sizeOf89 rfl (Lk.t rfl) rfl) ?_
      refine TrL.alloc (AStep.alloc Tryz.zeroValue89 rfl zc89 rfl rfl) rfl (fun b2 => ?_)
      refine LS rfl rfl (Step.storeW 0 Tryz.sizeOf89 rfl (Lk.t rfl) (Lk.t rfl) rfl rfl rfl) ?_
      refine TrL.nil ?_
      refine TrE.seq ?_
      refine TrC.seq ?_
      refine TrC.region rfl ?_
      refine L rfl rfl (PStep.faLoc fo89_1 rfl (Lk.t rfl)) ?_
      refine L rfl rfl (PStep.ldLocV (α := Version) (v := (((ix a0.index_.releases ((i1 : Int)))).version)) 0 Tryz.isAgg57 Tryz.sizeOf57 rfl (Lk.t rfl) rfl rfl) ?_
      refine L rfl rfl (PStep.call (s_Place ((((ix a0.index_.releases ((i1 : Int)))).version)) ) Tryz.call56 rfl (LkAll.cons (Lk.t rfl) LkAll.nil)) ?_
      refine L rfl rfl (PStep.move rfl (Lk.t rfl)) ?_
      refine L rfl rfl (PStep.extract rfl (Lk.t rfl) rfl) ?_
      refine L rfl rfl (PStep.extract rfl (Lk.t rfl) rfl) ?_
      refine L rfl rfl (PStep.assign rfl (Lk.t rfl)) ?_
      refine L rfl rfl (PStep.assign rfl (Lk.t rfl)) ?_
      refine TrL.nil ?_
      refine TrE.seq ?_
      refine TrC.seq ?_
      refine TrC.region rfl ?_
      refine L rfl rfl (PStep.faLoc fo89_0 rfl (Lk.t rfl)) ?_
      refine L rfl rfl (PStep.ldLoc 0 Tryz.isAgg9 rfl (Lk.t rfl) rfl rfl) ?_
      refine L rfl rfl (PStep.move rfl (Lk.t rfl)) ?_
      refine L rfl rfl (PStep.seql rfl (Lk.t rfl) (Lk.t rfl)) ?_
      refine L rfl rfl (PStep.move rfl (Lk.t rfl)) ?_
      refine LW rfl (WStep.guard rfl rfl rfl rfl (fun hg => PStep.move rfl (Lk.t rfl))) ?_
      refine LW rfl (WStep.guard rfl rfl rfl rfl (fun hg => PStep.move rfl (Lk.t rfl))) ?_
      refine LW rfl (WStep.guard rfl rfl rfl rfl (fun hg => PStep.eql rfl (Lk.g rfl hg) (Lk.g rfl hg))) ?_
      refine L rfl rfl (PStep.pickAnd rfl (Lk.t rfl) (fun hq => Lk.g rfl hq)) ?_
      refine TrL.nil ?_
      refine TrE.seq ?_
      refine TrC.condB (Lk.t rfl) (fun hc2 => ?_) (fun hc2 => ?_)
      · have hm := cond_t hm hc2
        have hs2 := hc2
        try simp only [decide_eq_true_eq, decide_eq_false_iff_not, Bool.and_eq_true, Bool.or_eq_true, Bool.not_eq_true', Bool.not_eq_false', Bool.and_eq_false_iff, Bool.or_eq_false_iff] at hs2
        refine TrC.seq ?_
        refine TrC.region rfl ?_
        refine L rfl rfl (PStep.ldLocV (α := Release) (v := ((ix a0.index_.releases ((i1 : Int))))) 0 Tryz.isAgg89 Tryz.sizeOf89 rfl (Lk.t rfl) rfl rfl) ?_
        refine LS rfl rfl (Step.storeW 1 Tryz.sizeOf89 rfl (Lk.t rfl) (Lk.t rfl) rfl rfl rfl) ?_
        refine L rfl rfl (PStep.assign rfl Lk.c) ?_
        refine TrL.nil ?_
        refine TrE.seq ?_
        refine TrC.ret (TrE.blockR <| TrE.thenR <| TrE.thenR <| TrE.blockR <| TrE.thenR <| ?_)
        cases hm
        exact TrE.retOKX (RetOKX.of (()) (RetOK.eq (show _ = _ from rfl) (RetOK.cell2 1 Tryz.isAgg89 Tryz.sizeOf89 rfl (Lk.t rfl) rfl rfl (Lk.t (t := 7) rfl) (List.Sublist.cons _ (List.Sublist.cons _ (List.Sublist.cons_cons _ (List.Sublist.cons_cons _ (List.nil_sublist _))))))))
      · have hm := cond_f hm hc2
        have hs2 := hc2
        try simp only [decide_eq_true_eq, decide_eq_false_iff_not, Bool.and_eq_true, Bool.or_eq_true, Bool.not_eq_true', Bool.not_eq_false', Bool.and_eq_false_iff, Bool.or_eq_false_iff] at hs2
        refine TrC.skip ?_
        refine TrE.blockN ?_
        refine TrE.seq ?_
        refine TrC.region rfl ?_
        refine L rfl rfl (PStep.add64 rfl (Lk.t rfl) Lk.c (by omega)) ?_
        refine L rfl rfl (PStep.move rfl (Lk.t rfl)) ?_
        refine TrL.nil ?_
        refine TrE.dropF 1 ?_
        refine TrE.again ((n, (i1 + 1))) hm (Nat.lt_succ_self n) ((EnvSub.cons rfl (EnvSub.cons rfl (EnvSub.cons rfl (EnvSub.cons rfl (EnvSub.cons rfl (EnvSub.cons rfl EnvSub.nil))))))) rfl
    · have hm := cond_f hm hc1
      have hs1 := hc1
      try simp only [decide_eq_true_eq, decide_eq_false_iff_not, Bool.and_eq_true, Bool.or_eq_true, Bool.not_eq_true', Bool.not_eq_false', Bool.and_eq_false_iff, Bool.or_eq_false_iff] at hs1
      refine TrC.exit (TrE.thenX <| TrE.thenX <| TrE.blockHit <| ?_)
      refine TrE.meetX (()) hm ((EnvSub.cons rfl EnvSub.nil)) rfl
  · rintro _ hm
    change K1 () = some r at hm
    subst hK1
    refine TrC.seq ?_
    refine TrC.region rfl ?_
    refine L rfl rfl (mk89_ rfl ) ?_
    refine LS rfl rfl (Step.storeW 0 Tryz.sizeOf89 rfl (Lk.t rfl) (Lk.t rfl) rfl rfl rfl) ?_
    refine L rfl rfl (PStep.assign rfl Lk.c) ?_
    refine TrL.nil ?_
    refine TrE.seq ?_
    refine TrC.ret (?_)
    cases hm
    exact TrE.retOKX (RetOKX.of (()) (RetOK.eq (show _ = _ from rfl) (RetOK.cell2 0 Tryz.isAgg89 Tryz.sizeOf89 rfl (Lk.t rfl) rfl rfl (Lk.t (t := 7) rfl) (List.Sublist.cons _ (List.Sublist.cons_cons _ (List.Sublist.cons_cons _ (List.nil_sublist _)))))))
def m_proof_checker_requires (a0 : Checker) (a1 : Inference) : Option ((List Term) × Bool) :=
  bnd (m_proof_checker_release a0 a1.path a1.place) fun x1 => (bif (((!x1.2) || (decide (a1.number < (0 : Int)))) || (decide ((x1.1.requirements.length : Int) ≤ a1.number))) then some (([] : (List Term)), false)
  else chk (0 ≤ a1.number ∧ a1.number < (x1.1.requirements.length : Int)) <| chk (((ix x1.1.requirements a1.number)).set_.length ≤ 1000000) <| chk (0 ≤ a1.place ∧ a1.place ≤ 1000000) <| some ((requiresI a1.path a1.place ((ix x1.1.requirements a1.number))), (decide ((0 : Int) < (((requiresI a1.path a1.place ((ix x1.1.requirements a1.number)))).length : Int)))))
theorem s_proof_checker_requires (a0 : Checker) (a1 : Inference) (bb0 : Nat) (oo0_3 : OS) (r : (List Term) × Bool) (hm : m_proof_checker_requires a0 a1 = some r) : SpecX (X := Unit) Tryz.prog 163 [pPtr bb0 0, pT (a1 : Inference)] [hCells bb0 83 [pSl (a0.index_.releases : (List Release)), pV (.slice (a0.index_.interfaces).at_ (a0.index_.interfaces).len (a0.index_.interfaces).cap), pSl (a0.roots_ : (List Requirement)), pSh oo0_3 (a0.derived : (List (List Term)))], hRow true 51 oo0_3 (a0.derived : (List (List Term)))] (fun _ => pTup [pSl (r.1 : (List Term)), pB (r.2)]) (fun _ => [hCells bb0 83 [pSl (a0.index_.releases : (List Release)), pV (.slice (a0.index_.interfaces).at_ (a0.index_.interfaces).len (a0.index_.interfaces).cap), pSl (a0.roots_ : (List Requirement)), pSh oo0_3 (a0.derived : (List (List Term)))], hRow true 51 oo0_3 (a0.derived : (List (List Term)))]) := by
  unfold m_proof_checker_requires at hm
  refine SpecX.mk Tryz.func163 rfl rfl fun B => ?_
  refine TrC.seq ?_
  refine TrC.region rfl ?_
  refine TrL.alloc (AStep.boxK rfl rfl (Lk.t rfl)) rfl (fun b1 => ?_)
  refine L rfl rfl (PStep.assign rfl Lk.c) ?_
  refine L rfl rfl (PStep.assign rfl Lk.c) ?_
  refine TrL.nil ?_
  refine TrE.seq ?_
  refine TrC.seq ?_
  refine TrC.region rfl ?_
  refine L rfl rfl (PStep.move rfl (Lk.t rfl)) ?_
  refine L rfl rfl (PStep.faLoc fo68_1 rfl (Lk.t rfl)) ?_
  refine L rfl rfl (PStep.ldLoc 0 Tryz.isAgg9 rfl (Lk.t rfl) rfl rfl) ?_
  refine L rfl rfl (PStep.faLoc fo68_2 rfl (Lk.t rfl)) ?_
  refine L rfl rfl (PStep.ldLoc 0 Tryz.isAgg3 rfl (Lk.t rfl) rfl rfl) ?_
  obtain ⟨x1, hx1, hm⟩ := bnd_some hm
  refine TrL.front 2 rfl ?_
  refine TrL.front 2 rfl ?_
  refine TrL.callFD (s_proof_checker_release a0 a1.path a1.place bb0 oo0_3 x1 hx1) Tryz.call192 rfl rfl rfl (LkAll.cons (Lk.t rfl) (LkAll.cons (Lk.t rfl) (LkAll.cons (Lk.t rfl) LkAll.nil))) rfl ?_
  intro _
  refine TrL.conv (E' := (15, pTup [pT (x1.1 : Release), pB (x1.2)]) :: _) rfl (A' := hCells bb0 83 [pSl (a0.index_.releases : (List Release)), pV (.slice (a0.index_.interfaces).at_ (a0.index_.interfaces).len (a0.index_.interfaces).cap), pSl (a0.roots_ : (List Requirement)), pSh oo0_3 (a0.derived : (List (List Term)))] :: hRow true 51 oo0_3 (a0.derived : (List (List Term))) :: _) rfl ?_
  refine L rfl rfl (PStep.move rfl (Lk.t rfl)) ?_
  refine L rfl rfl (PStep.extract rfl (Lk.t rfl) rfl) ?_
  refine L rfl rfl (PStep.extract rfl (Lk.t rfl) rfl) ?_
  refine TrL.alloc (AStep.alloc Tryz.zeroValue89 rfl zc89 rfl rfl) rfl (fun b2 => ?_)
  refine LS rfl rfl (Step.storeW 0 Tryz.sizeOf89 rfl (Lk.t rfl) (Lk.t rfl) rfl rfl rfl) ?_
  refine L rfl rfl (PStep.assign rfl (Lk.t rfl)) ?_
  refine TrL.nil ?_
  refine TrE.seq ?_
  refine TrC.seq ?_
  refine TrC.seq ?_
  refine TrC.region rfl ?_
  refine L rfl rfl (PStep.move rfl (Lk.t rfl)) ?_
  refine L rfl rfl (PStep.not rfl (Lk.t rfl)) ?_
  refine L rfl rfl (PStep.move rfl (Lk.t rfl)) ?_
  refine LW rfl (WStep.guard rfl rfl rfl rfl (fun hg => PStep.faLoc fo68_3 rfl (Lk.t rfl))) ?_
  refine LW rfl (WStep.guard rfl rfl rfl rfl (fun hg => PStep.ldLoc 3 Tryz.isAgg3 rfl (Lk.g rfl hg) rfl rfl)) ?_
  refine LW rfl (WStep.guard rfl rfl rfl rfl (fun hg => PStep.lss rfl (Lk.g rfl hg) Lk.c)) ?_
  refine L rfl rfl (PStep.pickOr rfl (Lk.t rfl) (fun hq => Lk.g rfl hq)) ?_
  refine L rfl rfl (PStep.move rfl (Lk.t rfl)) ?_
  refine LW rfl (WStep.guard rfl rfl rfl rfl (fun hg => PStep.faLoc fo68_3 rfl (Lk.t rfl))) ?_
  refine LW rfl (WStep.guard rfl rfl rfl rfl (fun hg => PStep.ldLoc 3 Tryz.isAgg3 rfl (Lk.g rfl hg) rfl rfl)) ?_
  refine LW rfl (WStep.guard rfl rfl rfl rfl (fun hg => PStep.faLoc fo89_2 rfl (Lk.t rfl))) ?_
  refine LW rfl (WStep.guard rfl rfl rfl rfl (fun hg => PStep.ldLoc 0 Tryz.isAgg26 rfl (Lk.g rfl hg) rfl rfl)) ?_
  refine LW rfl (WStep.guard rfl rfl rfl rfl (fun hg => PStep.len (xs := x1.1.requirements) (tys := #[]) Tryz.runUnderlying26 rfl (Lk.g rfl hg))) ?_
  refine LW rfl (WStep.guard rfl rfl rfl rfl (fun hg => PStep.geq rfl (Lk.g rfl hg) (Lk.g rfl hg))) ?_
  refine L rfl rfl (PStep.pickOr rfl (Lk.t rfl) (fun hq => Lk.g rfl hq)) ?_
  refine TrL.nil ?_
  refine TrE.seq ?_
  refine TrC.condB (Lk.t rfl) (fun hc1 => ?_) (fun hc1 => ?_)
  · have hm := cond_t hm hc1
    have hs1 := hc1
    try simp only [decide_eq_true_eq, decide_eq_false_iff_not, Bool.and_eq_true, Bool.or_eq_true, Bool.not_eq_true', Bool.not_eq_false', Bool.and_eq_false_iff, Bool.or_eq_false_iff] at hs1
    refine TrC.seq ?_
    refine TrC.region rfl ?_
    refine L rfl rfl (PStep.assign rfl Lk.c) ?_
    refine L rfl rfl (PStep.assign rfl Lk.c) ?_
    refine TrL.nil ?_
    refine TrE.seq ?_
    refine TrC.ret (TrE.thenR <| ?_)
    cases hm
    exact TrE.retOKX (RetOKX.of (()) (RetOK.eq (show _ = _ from rfl) (RetOK.tmp2 rfl (Lk.nilSl (α := Term) (Lk.t (t := 4) rfl)) (Lk.t (t := 5) rfl) (List.Sublist.cons _ (List.Sublist.cons_cons _ (List.Sublist.cons_cons _ (List.nil_sublist _)))))))
  · have hm := cond_f hm hc1
    have hs1 := hc1
    try simp only [decide_eq_true_eq, decide_eq_false_iff_not, Bool.and_eq_true, Bool.or_eq_true, Bool.not_eq_true', Bool.not_eq_false', Bool.and_eq_false_iff, Bool.or_eq_false_iff] at hs1
    refine TrC.skip ?_
    refine TrE.seq ?_
    refine TrC.seq ?_
    refine TrC.flow 12 mixed rfl (by kernel_rfl) (by kernel_rfl) ?_
    refine F rfl rfl (PStep.faLoc fo68_1 rfl (Lk.t rfl)) ?_
    refine F rfl rfl (PStep.ldLoc 3 Tryz.isAgg9 rfl (Lk.t rfl) rfl rfl) ?_
    refine F rfl rfl (PStep.faLoc fo68_2 rfl (Lk.t rfl)) ?_
    refine F rfl rfl (PStep.ldLoc 3 Tryz.isAgg3 rfl (Lk.t rfl) rfl rfl) ?_
    refine F rfl rfl (PStep.faLoc fo89_2 rfl (Lk.t rfl)) ?_
    refine F rfl rfl (PStep.ldLoc 0 Tryz.isAgg26 rfl (Lk.t rfl) rfl rfl) ?_
    refine F rfl rfl (PStep.faLoc fo68_3 rfl (Lk.t rfl)) ?_
    refine F rfl rfl (PStep.ldLoc 3 Tryz.isAgg3 rfl (Lk.t rfl) rfl rfl) ?_
    obtain ⟨hk1, hm⟩ := chk_some hm
    refine F rfl rfl (PStep.ixD (xs := x1.1.requirements) Tryz.runUnderlying26 Tryz.sizeOf120 rfl (Lk.t rfl) (Lk.t rfl) hk1) ?_
    refine F rfl rfl (PStep.ldRefV (α := Requirement) (v := (ix x1.1.requirements a1.number)) Tryz.isAgg120 Tryz.sizeOf120 rfl (Lk.t rfl) rfl) ?_
    obtain ⟨hk2, hm⟩ := chk_some hm
    obtain ⟨hk3, hm⟩ := chk_some hm
    refine F rfl rfl (PStep.call (s_Requires a1.path a1.place ((ix x1.1.requirements a1.number)) hk2 hk3) Tryz.call193 rfl (LkAll.cons (Lk.t rfl) (LkAll.cons (Lk.t rfl) (LkAll.cons (Lk.t rfl) LkAll.nil)))) ?_
    refine F rfl rfl (PStep.assign rfl (Lk.t rfl)) ?_
    refine FlowH.nil ?_
    refine ⟨rfl, ?_⟩
    refine AllocK.none rfl ?_
    refine TrL.nil ?_
    refine TrE.seq ?_
    refine TrC.seq ?_
    refine TrC.region rfl ?_
    refine L rfl rfl (PStep.move rfl (Lk.t rfl)) ?_
    refine L rfl rfl (PStep.move rfl (Lk.t rfl)) ?_
    refine L rfl rfl (PStep.len (xs := (requiresI a1.path a1.place ((ix x1.1.requirements a1.number)))) (tys := #[]) Tryz.runUnderlying51 rfl (Lk.t rfl)) ?_
    refine L rfl rfl (PStep.gtr rfl (Lk.t rfl) Lk.c) ?_
    refine L rfl rfl (PStep.assign rfl (Lk.t rfl)) ?_
    refine L rfl rfl (PStep.assign rfl (Lk.t rfl)) ?_
    refine TrL.nil ?_
    refine TrE.seq ?_
    refine TrC.ret (?_)
    cases hm
    exact TrE.retOKX (RetOKX.of (()) (RetOK.eq (show _ = _ from rfl) (RetOK.tmp2 rfl (Lk.t (t := 4) rfl) (Lk.t (t := 5) rfl) (List.Sublist.cons _ (List.Sublist.cons_cons _ (List.Sublist.cons_cons _ (List.nil_sublist _)))))))
def m_proof_kinds_3 (a0 : Inference) : Option (Inference) :=
  some (((⟨a0.kind, (⟨#[]⟩ : ByteArray), a0.place, a0.number, a0.left, a0.right⟩ : Inference)))
theorem s_proof_kinds_3 (a0 : Inference) (r : Inference) (hm : m_proof_kinds_3 a0 = some r) : Fn Tryz.prog 164 [pT (a0 : Inference)] (pT (r : Inference)) := by
  unfold m_proof_kinds_3 at hm
  refine Spec.mk Tryz.func164 rfl rfl fun B => ?_
  refine TrC.seq ?_
  refine TrC.region rfl ?_
  refine TrL.alloc (AStep.boxK rfl rfl (Lk.t rfl)) rfl (fun b1 => ?_)
  refine TrL.alloc (AStep.alloc Tryz.zeroValue68 rfl zc68 rfl rfl) rfl (fun b2 => ?_)
  refine TrL.nil ?_
  refine TrE.seq ?_
  refine TrC.seq ?_
  refine TrC.region rfl ?_
  refine L rfl rfl (PStep.faLoc fo68_1 rfl (Lk.t rfl)) ?_
  refine LS rfl rfl (Step.store1 1 Tryz.sizeOf9 rfl (Lk.t rfl) (show Lk _ _ (pS ((⟨#[]⟩ : ByteArray))) from Lk.c) rfl rfl rfl) ?_
  refine TrL.nil ?_
  refine TrE.seq ?_
  refine TrC.seq ?_
  refine TrC.region rfl ?_
  refine L rfl rfl (PStep.ldLocV (α := Inference) (v := (⟨a0.kind, (⟨#[]⟩ : ByteArray), a0.place, a0.number, a0.left, a0.right⟩ : Inference)) 1 Tryz.isAgg68 Tryz.sizeOf68 rfl (Lk.t rfl) rfl rfl) ?_
  refine LS rfl rfl (Step.storeW 0 Tryz.sizeOf68 rfl (Lk.t rfl) (Lk.t rfl) rfl rfl rfl) ?_
  refine TrL.nil ?_
  refine TrE.seq ?_
  refine TrC.ret (?_)
  cases hm
  exact TrE.retOK (RetOK.eq (show _ = _ from rfl) (RetOK.cell 0 Tryz.isAgg68 Tryz.sizeOf68 rfl (Lk.t rfl) rfl rfl (List.nil_sublist _)))
def m_index_newTable_L2 (a0 : Index) (K1 : List (ByteArray × (List Release)) → List (Selected × Release) → Option (Table × Int)) : Nat → List (ByteArray × (List Release)) → List (Selected × Release) → Nat → Option (Table × Int)
  | 0, _, _, _ => none
  | n + 1, mm3, mm4, i1 =>
    (bif (decide ((i1 : Int) < (a0.releases.length : Int))) then bnd (m_index_key (((ix a0.releases ((i1 : Int)))))) fun x2 => chk ((((getM mm3 (((ix a0.releases ((i1 : Int)))).path)).getD [])).length + (([((ix a0.releases ((i1 : Int))))] : (List Release))).length ≤ 4294967296) <| m_index_newTable_L2 a0 K1 n ((putM (((ix a0.releases ((i1 : Int)))).path) ((((getM mm3 (((ix a0.releases ((i1 : Int)))).path)).getD []) ++ ([((ix a0.releases ((i1 : Int))))] : (List Release)))) mm3)) ((putM x2 (((ix a0.releases ((i1 : Int))))) mm4)) ((i1 + 1))
  else K1 mm3 mm4)
def m_index_newTable (a0 : Index) : Option (Table × Int) :=
  bnd (m_index_Check a0) fun x1 => (bif (decide (x1 ≠ (0 : Int))) then some ((⟨([] : List (Selected × Release)), ([] : List (ByteArray × (List Release)))⟩ : Table), x1)
  else joinM (fun (mm1 : List (ByteArray × (List Release))) (mm2 : List (Selected × Release)) =>
    some ((⟨mm2, mm1⟩ : Table), (0 : Int))) fun K1 =>
    m_index_newTable_L2 a0 K1 (a0.releases.length + 1) (([] : List (ByteArray × (List Release)))) (([] : List (Selected × Release))) 0)
theorem s_index_newTable (a0 : Index) (r : Table × Int) (hm : m_index_newTable a0 = some r) : Fn Tryz.prog 84 [pT (a0 : Index)] (pTup [pT (r.1 : Table), pI (r.2)]) := by
  unfold m_index_newTable at hm
  refine Spec.mk Tryz.func84 rfl rfl fun B => ?_
  refine TrC.seq ?_
  refine TrC.region rfl ?_
  refine TrL.alloc (AStep.boxK rfl rfl (Lk.t rfl)) rfl (fun b1 => ?_)
  refine TrL.alloc (AStep.alloc Tryz.zeroValue141 rfl zc141 rfl rfl) rfl (fun b2 => ?_)
  refine L rfl rfl (PStep.assign rfl Lk.c) ?_
  refine TrL.nil ?_
  refine TrE.seq ?_
  refine TrC.seq ?_
  refine TrC.region rfl ?_
  refine TrL.allocG (AStep.makeMap (fun x : Selected => Value.agg (valsSelected x).toArray) (fun v : Release => pT v) rfl rfl) rfl (fun r1 => ?_)
  refine TrL.allocG (AStep.makeMapO (α := Release) (fun x : ByteArray => Value.string x) rfl rfl) rfl (fun r2 => ?_)
  refine L rfl rfl ((PStep.build [(0, [pMp r1.b]), (1, [pMp r2.b])] stT141 rfl zc141 rfl ⟨⟨rfl, Nat.le_of_ble_eq_true rfl, (Lk.t rfl).cs1⟩, ⟨rfl, Nat.le_of_ble_eq_true rfl, (Lk.t rfl).cs1⟩, trivial⟩ rfl)) ?_
  refine TrL.alloc (AStep.alloc Tryz.zeroValue141 rfl zc141 rfl rfl) rfl (fun b3 => ?_)
  refine LS rfl rfl (Step.storeW 0 Tryz.sizeOf141 rfl (Lk.t rfl) (Lk.t rfl) rfl rfl rfl) ?_
  refine TrL.nil ?_
  refine TrE.seq ?_
  refine TrC.seq ?_
  refine TrC.seq ?_
  refine TrC.region rfl ?_
  refine L rfl rfl (PStep.ldLocV (α := Index) (v := a0) 4 Tryz.isAgg25 Tryz.sizeOf25 rfl (Lk.t rfl) rfl rfl) ?_
  obtain ⟨x1, hx1, hm⟩ := bnd_some hm
  refine L rfl rfl (PStep.call ((s_index_Check a0 x1 hx1)) Tryz.call64 rfl (LkAll.cons (Lk.t rfl) LkAll.nil)) ?_
  refine L rfl rfl (PStep.assign rfl (Lk.t rfl)) ?_
  refine TrL.nil ?_
  refine TrE.seq ?_
  refine TrC.seq ?_
  refine TrC.region rfl ?_
  refine L rfl rfl (PStep.move rfl (Lk.t rfl)) ?_
  refine L rfl rfl (PStep.neq rfl (Lk.t rfl) Lk.c) ?_
  refine TrL.nil ?_
  refine TrE.seq ?_
  refine TrC.condB (Lk.t rfl) (fun hc1 => ?_) (fun hc1 => ?_)
  · have hm := cond_t hm hc1
    have hs1 := hc1
    try simp only [decide_eq_true_eq, decide_eq_false_iff_not, Bool.and_eq_true, Bool.or_eq_true, Bool.not_eq_true', Bool.not_eq_false', Bool.and_eq_false_iff, Bool.or_eq_false_iff] at hs1
    refine TrC.seq ?_
    refine TrC.region rfl ?_
    refine L rfl rfl (PStep.ldLocP 0 Tryz.isAgg141 Tryz.sizeOf141 rfl (Lk.t rfl) rfl rfl rfl) ?_
    refine L rfl rfl (PStep.move rfl (Lk.t rfl)) ?_
    refine LS rfl rfl (Step.storeW 3 Tryz.sizeOf141 rfl (Lk.t rfl) (Lk.t rfl) rfl rfl rfl) ?_
    refine L rfl rfl (PStep.assign rfl (Lk.t rfl)) ?_
    refine TrL.nil ?_
    refine TrE.seq ?_
    refine TrC.ret (TrE.thenR <| ?_)
    refine TrE.settleMC 2 3 0 rfl rfl rfl ?_
    refine TrE.settleMC 1 3 1 rfl rfl rfl ?_
    refine TrE.weakC 3 1 rfl rfl msO ?_
    cases hm
    exact TrE.retOK (RetOK.eq (show _ = _ from rfl) (RetOK.cell2 3 Tryz.isAgg141 Tryz.sizeOf141 rfl (Lk.t rfl) rfl rfl (Lk.t (t := 3) rfl) (List.nil_sublist _)))
  · have hm := cond_f hm hc1
    have hs1 := hc1
    try simp only [decide_eq_true_eq, decide_eq_false_iff_not, Bool.and_eq_true, Bool.or_eq_true, Bool.not_eq_true', Bool.not_eq_false', Bool.and_eq_false_iff, Bool.or_eq_false_iff] at hs1
    refine TrC.skip ?_
    refine TrE.seq ?_
    obtain ⟨K1, hK1, hm⟩ := joinK hm
    refine TrC.meetM (X := (List (ByteArray × (List Release))) × (List (Selected × Release)) × List OS) (fun ⟨mm1, mm2, o1⟩ => K1 mm1 mm2 = some r) (fun ⟨mm1, mm2, o1⟩ => []) [(2, _), (4, _)] (fun ⟨mm1, mm2, o1⟩ => fun A => (List.take 5 (List.set (List.set A 1 (hMapO (fun x : ByteArray => Value.string x) r2.b (mm1 : List (ByteArray × (List Release))) o1)) 2 (hMap (fun x : Selected => Value.agg (valsSelected x).toArray) (fun v : Release => pT v) r1.b mm2)) ++ rowsO 89 (mm1 : List (ByteArray × (List Release))) o1)) (EnvSub.cons rfl (EnvSub.cons rfl EnvSub.nil)) ?_ ?_
    · refine TrC.seq ?_
      refine TrC.region rfl ?_
      refine L rfl rfl (PStep.faLoc fo25_0 rfl (Lk.t rfl)) ?_
      refine L rfl rfl (PStep.ldLoc 4 Tryz.isAgg22 rfl (Lk.t rfl) rfl rfl) ?_
      refine L rfl rfl (PStep.len (xs := a0.releases) (tys := #[]) Tryz.runUnderlying22 rfl (Lk.t rfl)) ?_
      refine L rfl rfl (PStep.move rfl Lk.c) ?_
      refine TrL.nil ?_
      refine TrE.seq ?_
      refine TrC.block ?_
      refine TrC.know (Lk.t (t := 18) rfl) pSl.lt fun hl1 => ?_
      refine TrC.loopM (X := Nat × (List (ByteArray × (List Release))) × (List (Selected × Release)) × Nat × List OS) (fun ⟨n, mm3, mm4, i1, o2⟩ => m_index_newTable_L2 a0 K1 n mm3 mm4 i1 = some r) (fun ⟨n, mm3, mm4, i1, o2⟩ => [(20, pI ((i1 : Int)))]) [(2, _), (4, _), (18, _), (19, _)] (fun ⟨n, mm3, mm4, i1, o2⟩ => fun A => (List.take 5 (List.set (List.set A 1 (hMapO (fun x : ByteArray => Value.string x) r2.b (mm3 : List (ByteArray × (List Release))) o2)) 2 (hMap (fun x : Selected => Value.agg (valsSelected x).toArray) (fun v : Release => pT v) r1.b mm4)) ++ rowsO 89 (mm3 : List (ByteArray × (List Release))) o2)) (fun ⟨n, mm3, mm4, i1, o2⟩ => n) (((a0.releases.length + 1 : Nat), ([] : List (ByteArray × (List Release))), ([] : List (Selected × Release)), 0, ([] : List OS))) hm ((EnvSub.cons rfl (EnvSub.cons rfl (EnvSub.cons rfl (EnvSub.cons rfl (EnvSub.cons rfl EnvSub.nil)))))) rfl ?_
      rintro ⟨n, mm3, mm4, i1, o2⟩ hm
      obtain ⟨n, rfl⟩ := succ_of (f := fun n => m_index_newTable_L2 a0 K1 n mm3 mm4 i1) rfl hm
      change m_index_newTable_L2 a0 K1 (n + 1) mm3 mm4 i1 = some r at hm
      rw [m_index_newTable_L2] at hm
      refine TrC.seq ?_
      refine TrC.region rfl ?_
      refine L rfl rfl (PStep.lss rfl (Lk.t rfl) (Lk.t rfl)) ?_
      refine TrL.nil ?_
      refine TrE.seq ?_
      refine TrC.seq ?_
      refine TrC.condB (Lk.t rfl) (fun hc2 => ?_) (fun hc2 => ?_)
      · have hm := cond_t hm hc2
        have hs2 := hc2
        try simp only [decide_eq_true_eq, decide_eq_false_iff_not, Bool.and_eq_true, Bool.or_eq_true, Bool.not_eq_true', Bool.not_eq_false', Bool.and_eq_false_iff, Bool.or_eq_false_iff] at hs2
        refine TrC.skip ?_
        refine TrE.seq ?_
        refine TrC.seq ?_
        refine TrC.block ?_
        refine TrC.seq ?_
        refine TrC.region rfl ?_
        refine L rfl rfl (PStep.ixD (xs := a0.releases) Tryz.runUnderlying22 Tryz.sizeOf89 rfl (Lk.t rfl) (Lk.t rfl) (by omega)) ?_
        refine L rfl rfl (PStep.ldRefV (α := Release) (v := (ix a0.releases ((i1 : Int)))) Tryz.isAgg89 Tryz.sizeOf89 rfl (Lk.t rfl) rfl) ?_
        refine TrL.alloc (AStep.alloc Tryz.zeroValue89 rfl zc89 rfl rfl) rfl (fun b4 => ?_)
        refine LS rfl rfl (Step.storeW 0 Tryz.sizeOf89 rfl (Lk.t rfl) (Lk.t rfl) rfl rfl rfl) ?_
        refine TrL.nil ?_
        refine TrE.seq ?_
        refine TrC.seq ?_
        refine TrC.flow 5 mixed rfl (by kernel_rfl) (by kernel_rfl) ?_
        refine F rfl rfl (PStep.faLoc fo141_0 rfl (Lk.t rfl)) ?_
        refine F rfl rfl (PStep.ldLoc 1 Tryz.isAgg138 rfl (Lk.t rfl) rfl rfl) ?_
        refine F rfl rfl (PStep.ldLocV (α := Release) (v := ((ix a0.releases ((i1 : Int))))) 0 Tryz.isAgg89 Tryz.sizeOf89 rfl (Lk.t rfl) rfl rfl) ?_
        obtain ⟨x2, hx2, hm⟩ := bnd_some hm
        refine F rfl rfl (PStep.call ((s_index_key (((ix a0.releases ((i1 : Int))))) x2 hx2)) Tryz.call108 rfl (LkAll.cons (Lk.t rfl) LkAll.nil)) ?_
        refine F rfl rfl (PStep.ldLocV (α := Release) (v := ((ix a0.releases ((i1 : Int))))) 0 Tryz.isAgg89 Tryz.sizeOf89 rfl (Lk.t rfl) rfl rfl) ?_
        refine FlowH.nil ?_
        refine ⟨rfl, ?_⟩
        refine AllocK.none rfl ?_
        refine LS rfl rfl (Step.mapUpdate 3 (kv := fun x : Selected => Value.agg (valsSelected x).toArray) (pv := fun v : Release => pT v) mpT138 key59 (.inl rfl) (Lk.t rfl) (Lk.exact (Lk.t rfl) (cellsSelected _)) (Lk.t rfl) rfl) ?_
        refine TrL.nil ?_
        refine TrE.seq ?_
        refine TrC.rowOutO (A0 := [_, _, _, _, _, _]) 89 (((ix a0.releases ((i1 : Int)))).path) rfl ?_
        refine TrC.lin1 12 mixed rfl (by kernel_rfl) (by kernel_rfl) rfl ?_
        refine M rfl rfl (PStep.faLoc fo141_1 rfl (Lk.t rfl)) ?_
        refine M rfl rfl (PStep.ldLoc 1 Tryz.isAgg139 rfl (Lk.t rfl) rfl rfl) ?_
        refine M rfl rfl (PStep.faLoc fo89_0 rfl (Lk.t rfl)) ?_
        refine M rfl rfl (PStep.ldLoc 0 Tryz.isAgg9 rfl (Lk.t rfl) rfl rfl) ?_
        refine M rfl rfl (PStep.faLoc fo141_1 rfl (Lk.t rfl)) ?_
        refine M rfl rfl (PStep.ldLoc 1 Tryz.isAgg139 rfl (Lk.t rfl) rfl rfl) ?_
        refine M rfl rfl (PStep.faLoc fo89_0 rfl (Lk.t rfl)) ?_
        refine M rfl rfl (PStep.ldLoc 0 Tryz.isAgg9 rfl (Lk.t rfl) rfl rfl) ?_
        refine M rfl rfl (PStep.lookupO 2 mpT139 key9 Tryz.zeroValue22 rfl (Lk.t rfl) (Lk.t rfl) rfl) ?_
        refine M rfl rfl (PStep.ldLocV (α := Release) (v := ((ix a0.releases ((i1 : Int))))) 0 Tryz.isAgg89 Tryz.sizeOf89 rfl (Lk.t rfl) rfl rfl) ?_
        refine M rfl rfl (PStep.litX ([((ix a0.releases ((i1 : Int))))] : (List Release)) slT22 rfl ⟨rfl, Lk.agg (Lk.t rfl), trivial⟩ rfl rfl) ?_
        obtain ⟨hk1, hm⟩ := chk_some hm
        refine MT (h0 := hRow true 89 (atO (((ix a0.releases ((i1 : Int)))).path) mm3 o2) (((getM mm3 (((ix a0.releases ((i1 : Int)))).path)).getD []) : (List Release))) (p := (fun z => pSh z ((((getM mm3 (((ix a0.releases ((i1 : Int)))).path)).getD []) ++ ([((ix a0.releases ((i1 : Int))))] : (List Release))) : (List Release)))) (h := (fun z => hRow true 89 z ((((getM mm3 (((ix a0.releases ((i1 : Int)))).path)).getD []) ++ ([((ix a0.releases ((i1 : Int))))] : (List Release))) : (List Release)))) rfl (TStepG.share <| TStepG.append apT22 rfl rfl (Lk.shOwn (Lk.t rfl)) (Lk.slX (Lk.t rfl)) (by have := hk1; omega)) ?_
        refine FlowL.nil ?_
        refine ⟨rfl, trivial, fun β => ?_⟩
        refine TrL.conv (E' := (40, pSh (β 11) ((((getM mm3 (((ix a0.releases ((i1 : Int)))).path)).getD []) ++ ([((ix a0.releases ((i1 : Int))))] : (List Release))) : (List Release))) :: _) rfl (A' := hRow true 89 (β 11) ((((getM mm3 (((ix a0.releases ((i1 : Int)))).path)).getD []) ++ ([((ix a0.releases ((i1 : Int))))] : (List Release))) : (List Release)) :: _) rfl ?_
        refine LS rfl rfl (Step.mapUpdateO 3 mpT139 key9 rfl (Lk.t rfl) (Lk.t rfl) (Lk.t rfl) rfl) ?_
        refine TrL.rowInO (A0 := [_, _, _, _, _, _]) 89 (((ix a0.releases ((i1 : Int)))).path) rfl ?_
        refine TrL.nil ?_
        refine TrE.blockN ?_
        refine TrE.seq ?_
        refine TrC.region rfl ?_
        refine L rfl rfl (PStep.add64 rfl (Lk.t rfl) Lk.c (by omega)) ?_
        refine L rfl rfl (PStep.move rfl (Lk.t rfl)) ?_
        refine TrL.nil ?_
        refine TrE.dropF 1 ?_
        refine TrE.again ((n, (putM (((ix a0.releases ((i1 : Int)))).path) ((((getM mm3 (((ix a0.releases ((i1 : Int)))).path)).getD []) ++ ([((ix a0.releases ((i1 : Int))))] : (List Release)))) mm3), (putM x2 (((ix a0.releases ((i1 : Int))))) mm4), (i1 + 1), (putO (((ix a0.releases ((i1 : Int)))).path) ((β 11)) ((((getM mm3 (((ix a0.releases ((i1 : Int)))).path)).getD []) ++ ([((ix a0.releases ((i1 : Int))))] : (List Release)))) mm3 o2))) hm (Nat.lt_succ_self n) ((EnvSub.cons rfl (EnvSub.cons rfl (EnvSub.cons rfl (EnvSub.cons rfl (EnvSub.cons rfl EnvSub.nil)))))) rfl
      · have hm := cond_f hm hc2
        have hs2 := hc2
        try simp only [decide_eq_true_eq, decide_eq_false_iff_not, Bool.and_eq_true, Bool.or_eq_true, Bool.not_eq_true', Bool.not_eq_false', Bool.and_eq_false_iff, Bool.or_eq_false_iff] at hs2
        refine TrC.exit (TrE.thenX <| TrE.thenX <| TrE.blockHit <| ?_)
        refine TrE.meetX ((mm3, mm4, o2)) hm ((EnvSub.cons rfl (EnvSub.cons rfl EnvSub.nil))) rfl
    · rintro ⟨mm1, mm2, o1⟩ hm
      change K1 mm1 mm2 = some r at hm
      subst hK1
      refine TrC.seq ?_
      refine TrC.region rfl ?_
      refine L rfl rfl (PStep.ldLocP 0 Tryz.isAgg141 Tryz.sizeOf141 rfl (Lk.t rfl) rfl rfl rfl) ?_
      refine LS rfl rfl (Step.storeW 3 Tryz.sizeOf141 rfl (Lk.t rfl) (Lk.t rfl) rfl rfl rfl) ?_
      refine L rfl rfl (PStep.assign rfl Lk.c) ?_
      refine TrL.nil ?_
      refine TrE.seq ?_
      refine TrC.ret (?_)
      refine TrE.settleMC 2 3 0 rfl rfl rfl ?_
      refine TrE.settleMC 1 3 1 rfl rfl rfl ?_
      refine TrE.weakC 3 1 rfl rfl msO ?_
      cases hm
      exact TrE.retOK (RetOK.eq (show _ = _ from rfl) (RetOK.cell2 3 Tryz.isAgg141 Tryz.sizeOf141 rfl (Lk.t rfl) rfl rfl (Lk.t (t := 3) rfl) (List.nil_sublist _)))
def m_index_place (a0 : Release) : Option (Int) :=
  some ((placeOf a0.version).1)
theorem s_index_place (a0 : Release) (r : Int) (hm : m_index_place a0 = some r) : Fn Tryz.prog 88 [pT (a0 : Release)] (pI (r)) := by
  unfold m_index_place at hm
  refine Spec.mk Tryz.func88 rfl rfl fun B => ?_
  refine TrC.seq ?_
  refine TrC.region rfl ?_
  refine TrL.alloc (AStep.boxK rfl rfl (Lk.t rfl)) rfl (fun b1 => ?_)
  refine L rfl rfl (PStep.assign rfl Lk.c) ?_
  refine TrL.nil ?_
  refine TrE.seq ?_
  refine TrC.seq ?_
  refine TrC.region rfl ?_
  refine L rfl rfl (PStep.faLoc fo89_1 rfl (Lk.t rfl)) ?_
  refine L rfl rfl (PStep.ldLocV (α := Version) (v := a0.version) 0 Tryz.isAgg57 Tryz.sizeOf57 rfl (Lk.t rfl) rfl rfl) ?_
  refine L rfl rfl (PStep.call (s_Place a0.version ) Tryz.call56 rfl (LkAll.cons (Lk.t rfl) LkAll.nil)) ?_
  refine L rfl rfl (PStep.move rfl (Lk.t rfl)) ?_
  refine L rfl rfl (PStep.extract rfl (Lk.t rfl) rfl) ?_
  refine L rfl rfl (PStep.extract rfl (Lk.t rfl) rfl) ?_
  refine L rfl rfl (PStep.assign rfl (Lk.t rfl)) ?_
  refine L rfl rfl (PStep.assign rfl (Lk.t rfl)) ?_
  refine TrL.nil ?_
  refine TrE.seq ?_
  refine TrC.seq ?_
  refine TrC.region rfl ?_
  refine L rfl rfl (PStep.move rfl (Lk.t rfl)) ?_
  refine L rfl rfl (PStep.assign rfl (Lk.t rfl)) ?_
  refine TrL.nil ?_
  refine TrE.seq ?_
  refine TrC.ret (?_)
  cases hm
  exact TrE.retOK (RetOK.eq (show _ = _ from rfl) (RetOK.tmp rfl (Lk.t (t := 2) rfl) (List.nil_sublist _)))
def m_index_Available_L3 (x1 : Table × Int) (a1 : ByteArray) (K1 : (List Span) → Option ((List Span))) : Nat → (List Span) → Nat → Option ((List Span))
  | 0, _, _ => none
  | n + 1, l2, i1 =>
    (bif (decide ((i1 : Int) < ((((getM x1.1.paths a1).getD [])).length : Int))) then (bif (!((ix (((getM x1.1.paths a1).getD [])) ((i1 : Int)))).yanked) then bnd (m_index_place (((ix (((getM x1.1.paths a1).getD [])) ((i1 : Int)))))) fun x2 => bnd (m_index_place (((ix (((getM x1.1.paths a1).getD [])) ((i1 : Int)))))) fun x3 => chk (-9223372036854775808 ≤ (x3 + (1 : Int)) ∧ (x3 + (1 : Int)) ≤ 9223372036854775807) <| chk (l2.length + (([(⟨x2, (x3 + (1 : Int))⟩ : Span)] : (List Span))).length ≤ 4294967296) <| m_index_Available_L3 x1 a1 K1 n ((l2 ++ ([(⟨x2, (x3 + (1 : Int))⟩ : Span)] : (List Span)))) ((i1 + 1))
  else m_index_Available_L3 x1 a1 K1 n l2 ((i1 + 1)))
  else K1 l2)
def m_index_Available (a0 : Index) (a1 : ByteArray) : Option ((List Span)) :=
  bnd (m_index_newTable a0) fun x1 => joinM (fun (l1 : (List Span)) =>
    chk (l1.length ≤ 1000000000) <| some ((canon l1))) fun K1 =>
    m_index_Available_L3 x1 a1 K1 ((((getM x1.1.paths a1).getD [])).length + 1) (([] : (List Span))) 0
theorem s_index_Available (a0 : Index) (a1 : ByteArray) (r : (List Span)) (hm : m_index_Available a0 a1 = some r) : Fn Tryz.prog 195 [pT (a0 : Index), pS (a1)] (pSl (r : (List Span))) := by
  unfold m_index_Available at hm
  refine Spec.mk Tryz.func195 rfl rfl fun B => ?_
  refine TrC.seq ?_
  refine TrC.region rfl ?_
  refine TrL.alloc (AStep.boxK rfl rfl (Lk.t rfl)) rfl (fun b1 => ?_)
  refine L rfl rfl (PStep.assign rfl Lk.c) ?_
  refine TrL.nil ?_
  refine TrE.seq ?_
  refine TrC.seq ?_
  refine TrC.region rfl ?_
  refine L rfl rfl (PStep.ldLocV (α := Index) (v := a0) 0 Tryz.isAgg25 Tryz.sizeOf25 rfl (Lk.t rfl) rfl rfl) ?_
  obtain ⟨x1, hx1, hm⟩ := bnd_some hm
  refine L rfl rfl (PStep.call ((s_index_newTable a0 x1 hx1)) Tryz.call84 rfl (LkAll.cons (Lk.t rfl) LkAll.nil)) ?_
  refine L rfl rfl (PStep.move rfl (Lk.t rfl)) ?_
  refine L rfl rfl (PStep.extract rfl (Lk.t rfl) rfl) ?_
  refine L rfl rfl (PStep.extract rfl (Lk.t rfl) rfl) ?_
  refine TrL.alloc (AStep.alloc Tryz.zeroValue141 rfl zc141 rfl rfl) rfl (fun b2 => ?_)
  refine LS rfl rfl (Step.storeW 0 Tryz.sizeOf141 rfl (Lk.t rfl) (Lk.t rfl) rfl rfl rfl) ?_
  refine L rfl rfl (PStep.assign rfl (Lk.t rfl)) ?_
  refine TrL.nil ?_
  refine TrE.seq ?_
  refine TrC.seq ?_
  refine TrC.region rfl ?_
  refine L rfl rfl (PStep.assign rfl Lk.c) ?_
  refine TrL.nil ?_
  refine TrE.seq ?_
  refine TrC.lay (hRow false 118 .nil (([] : (List Span)) : (List Span))) rfl ?_
  obtain ⟨K1, hK1, hm⟩ := joinK hm
  refine TrC.meetM (X := (List Span) × OS) (fun ⟨l1, o1⟩ => K1 l1 = some r) (fun ⟨l1, o1⟩ => [(7, pOwn o1 (l1 : (List Span)))]) [] (fun ⟨l1, o1⟩ => fun A => (List.set A 0 (hRow false 118 o1 (l1 : (List Span))))) EnvSub.nil ?_ ?_
  · refine TrC.seq ?_
    refine TrC.region rfl ?_
    refine L rfl rfl (PStep.faLoc fo141_1 rfl (Lk.t rfl)) ?_
    refine L rfl rfl (PStep.ldLoc 1 Tryz.isAgg139 rfl (Lk.t rfl) rfl rfl) ?_
    refine L rfl rfl (PStep.move rfl (Lk.t rfl)) ?_
    refine L rfl rfl (PStep.lookupS (kv := fun x : ByteArray => Value.string x) (pv := fun v : (List Release) => pSl v) [] mpT139 key9 Tryz.zeroValue22 (fun S => pSl.nil S) rfl (Lk.t rfl) (Lk.t rfl)) ?_
    refine L rfl rfl (PStep.len (xs := ((getM x1.1.paths a1).getD [])) (tys := #[]) Tryz.runUnderlying22 rfl (Lk.t rfl)) ?_
    refine L rfl rfl (PStep.move rfl Lk.c) ?_
    refine TrL.nil ?_
    refine TrE.seq ?_
    refine TrC.block ?_
    refine TrC.know (Lk.t (t := 18) rfl) pSl.lt fun hl1 => ?_
    refine TrC.loopM (X := Nat × (List Span) × Nat × OS) (fun ⟨n, l2, i1, o2⟩ => m_index_Available_L3 x1 a1 K1 n l2 i1 = some r) (fun ⟨n, l2, i1, o2⟩ => [(20, pI ((i1 : Int))), (7, pOwn o2 (l2 : (List Span)))]) [(18, _), (19, _)] (fun ⟨n, l2, i1, o2⟩ => fun A => (List.set A 0 (hRow false 118 o2 (l2 : (List Span))))) (fun ⟨n, l2, i1, o2⟩ => n) ((((((getM x1.1.paths a1).getD [])).length + 1 : Nat), ([] : (List Span)), 0, .nil)) hm ((EnvSub.cons rfl (EnvSub.consI rfl nilOwn (EnvSub.cons rfl (EnvSub.cons rfl EnvSub.nil))))) rfl ?_
    rintro ⟨n, l2, i1, o2⟩ hm
    obtain ⟨n, rfl⟩ := succ_of (f := fun n => m_index_Available_L3 x1 a1 K1 n l2 i1) rfl hm
    change m_index_Available_L3 x1 a1 K1 (n + 1) l2 i1 = some r at hm
    rw [m_index_Available_L3] at hm
    refine TrC.seq ?_
    refine TrC.region rfl ?_
    refine L rfl rfl (PStep.lss rfl (Lk.t rfl) (Lk.t rfl)) ?_
    refine TrL.nil ?_
    refine TrE.seq ?_
    refine TrC.seq ?_
    refine TrC.condB (Lk.t rfl) (fun hc1 => ?_) (fun hc1 => ?_)
    · have hm := cond_t hm hc1
      have hs1 := hc1
      try simp only [decide_eq_true_eq, decide_eq_false_iff_not, Bool.and_eq_true, Bool.or_eq_true, Bool.not_eq_true', Bool.not_eq_false', Bool.and_eq_false_iff, Bool.or_eq_false_iff] at hs1
      refine TrC.skip ?_
      refine TrE.seq ?_
      refine TrC.seq ?_
      refine TrC.block ?_
      refine TrC.seq ?_
      refine TrC.region rfl ?_
      refine L rfl rfl (PStep.ixD (xs := ((getM x1.1.paths a1).getD [])) Tryz.runUnderlying22 Tryz.sizeOf89 rfl (Lk.t rfl) (Lk.t rfl) (by omega)) ?_
      refine L rfl rfl (PStep.ldRefV (α := Release) (v := (ix (((getM x1.1.paths a1).getD [])) ((i1 : Int)))) Tryz.isAgg89 Tryz.sizeOf89 rfl (Lk.t rfl) rfl) ?_
      refine TrL.alloc (AStep.alloc Tryz.zeroValue89 rfl zc89 rfl rfl) rfl (fun b3 => ?_)
      refine LS rfl rfl (Step.storeW 0 Tryz.sizeOf89 rfl (Lk.t rfl) (Lk.t rfl) rfl rfl rfl) ?_
      refine TrL.nil ?_
      refine TrE.seq ?_
      refine TrC.seq ?_
      refine TrC.region rfl ?_
      refine L rfl rfl (PStep.faLoc fo89_6 rfl (Lk.t rfl)) ?_
      refine L rfl rfl (PStep.ldLoc 0 Tryz.isAgg4 rfl (Lk.t rfl) rfl rfl) ?_
      refine L rfl rfl (PStep.not rfl (Lk.t rfl)) ?_
      refine TrL.nil ?_
      refine TrE.seq ?_
      refine TrC.condB (Lk.t rfl) (fun hc2 => ?_) (fun hc2 => ?_)
      · have hm := cond_t hm hc2
        have hs2 := hc2
        try simp only [decide_eq_true_eq, decide_eq_false_iff_not, Bool.and_eq_true, Bool.or_eq_true, Bool.not_eq_true', Bool.not_eq_false', Bool.and_eq_false_iff, Bool.or_eq_false_iff] at hs2
        refine TrC.flow 8 mixed rfl (by kernel_rfl) (by kernel_rfl) ?_
        refine F rfl rfl (PStep.move rfl (Lk.t rfl)) ?_
        refine F rfl rfl (PStep.ldLocV (α := Release) (v := ((ix (((getM x1.1.paths a1).getD [])) ((i1 : Int))))) 0 Tryz.isAgg89 Tryz.sizeOf89 rfl (Lk.t rfl) rfl rfl) ?_
        obtain ⟨x2, hx2, hm⟩ := bnd_some hm
        refine F rfl rfl (PStep.call ((s_index_place (((ix (((getM x1.1.paths a1).getD [])) ((i1 : Int))))) x2 hx2)) Tryz.call88 rfl (LkAll.cons (Lk.t rfl) LkAll.nil)) ?_
        refine F rfl rfl (PStep.ldLocV (α := Release) (v := ((ix (((getM x1.1.paths a1).getD [])) ((i1 : Int))))) 0 Tryz.isAgg89 Tryz.sizeOf89 rfl (Lk.t rfl) rfl rfl) ?_
        obtain ⟨x3, hx3, hm⟩ := bnd_some hm
        refine F rfl rfl (PStep.call ((s_index_place (((ix (((getM x1.1.paths a1).getD [])) ((i1 : Int))))) x3 hx3)) Tryz.call88 rfl (LkAll.cons (Lk.t rfl) LkAll.nil)) ?_
        obtain ⟨hk2, hm⟩ := chk_some hm
        refine F rfl rfl (PStep.add64 rfl (Lk.t rfl) Lk.c hk2) ?_
        refine F rfl rfl (mk118_01 rfl (Lk.t rfl) (Lk.t rfl)) ?_
        refine F rfl rfl (PStep.litX ([(⟨x2, (x3 + (1 : Int))⟩ : Span)] : (List Span)) slT105 rfl ⟨rfl, Lk.agg (Lk.t rfl), trivial⟩ rfl rfl) ?_
        refine FlowH.nil ?_
        refine ⟨rfl, ?_⟩
        refine AllocK.none rfl ?_
        obtain ⟨hk3, hm⟩ := chk_some hm
        refine TrL.append 1 apT105 rfl rfl rfl (Lk.t rfl) (Lk.slX (Lk.t rfl)) rfl (by have := hk3; omega) (fun r1 => ?_)
        refine L rfl rfl (PStep.assign rfl (Lk.t rfl)) ?_
        refine TrL.nil ?_
        refine TrE.blockN ?_
        refine TrE.seq ?_
        refine TrC.region rfl ?_
        refine L rfl rfl (PStep.add64 rfl (Lk.t rfl) Lk.c (by omega)) ?_
        refine L rfl rfl (PStep.move rfl (Lk.t rfl)) ?_
        refine TrL.nil ?_
        refine TrE.dropF 1 ?_
        refine TrE.again ((n, (l2 ++ ([(⟨x2, (x3 + (1 : Int))⟩ : Span)] : (List Span))), (i1 + 1), r1)) hm (Nat.lt_succ_self n) ((EnvSub.cons rfl (EnvSub.cons rfl (EnvSub.cons rfl (EnvSub.cons rfl EnvSub.nil))))) rfl
      · have hm := cond_f hm hc2
        have hs2 := hc2
        try simp only [decide_eq_true_eq, decide_eq_false_iff_not, Bool.and_eq_true, Bool.or_eq_true, Bool.not_eq_true', Bool.not_eq_false', Bool.and_eq_false_iff, Bool.or_eq_false_iff] at hs2
        refine TrC.skip ?_
        refine TrE.blockN ?_
        refine TrE.seq ?_
        refine TrC.region rfl ?_
        refine L rfl rfl (PStep.add64 rfl (Lk.t rfl) Lk.c (by omega)) ?_
        refine L rfl rfl (PStep.move rfl (Lk.t rfl)) ?_
        refine TrL.nil ?_
        refine TrE.dropF 1 ?_
        refine TrE.again ((n, l2, (i1 + 1), o2)) hm (Nat.lt_succ_self n) ((EnvSub.cons rfl (EnvSub.cons rfl (EnvSub.cons rfl (EnvSub.cons rfl EnvSub.nil))))) rfl
    · have hm := cond_f hm hc1
      have hs1 := hc1
      try simp only [decide_eq_true_eq, decide_eq_false_iff_not, Bool.and_eq_true, Bool.or_eq_true, Bool.not_eq_true', Bool.not_eq_false', Bool.and_eq_false_iff, Bool.or_eq_false_iff] at hs1
      refine TrC.exit (TrE.thenX <| TrE.thenX <| TrE.blockHit <| ?_)
      refine TrE.meetX ((l2, o2)) hm ((EnvSub.cons rfl EnvSub.nil)) rfl
  · rintro ⟨l1, o1⟩ hm
    change K1 l1 = some r at hm
    subst hK1
    refine TrC.seq ?_
    refine TrC.share 0 7 rfl rfl ?_
    refine TrC.region rfl ?_
    refine L rfl rfl (PStep.move rfl (Lk.t rfl)) ?_
    obtain ⟨hk1, hm⟩ := chk_some hm
    refine L rfl rfl (PStep.call (s_Canonical l1 hk1) Tryz.call102 rfl (LkAll.cons (Lk.shSl (Lk.t rfl)) LkAll.nil)) ?_
    refine L rfl rfl (PStep.assign rfl (Lk.t rfl)) ?_
    refine TrL.nil ?_
    refine TrE.seq ?_
    refine TrC.ret (?_)
    cases hm
    exact TrE.retOK (RetOK.eq (show _ = _ from rfl) (RetOK.tmp rfl (Lk.slX (Lk.t (t := 4) rfl)) (List.nil_sublist _)))
def m_proof_checker_none (a0 : Checker) (a1 : Inference) : Option ((List Term) × Bool) :=
  bnd (m_index_Available a0.index_ a1.path) fun x1 => chk (x1.length ≤ 1000000) <| some ((noneI a1.path x1), (decide ((0 : Int) < (((noneI a1.path x1)).length : Int))))
theorem s_proof_checker_none (a0 : Checker) (a1 : Inference) (bb0 : Nat) (oo0_3 : OS) (r : (List Term) × Bool) (hm : m_proof_checker_none a0 a1 = some r) : SpecX (X := Unit) Tryz.prog 165 [pPtr bb0 0, pT (a1 : Inference)] [hCells bb0 83 [pSl (a0.index_.releases : (List Release)), pV (.slice (a0.index_.interfaces).at_ (a0.index_.interfaces).len (a0.index_.interfaces).cap), pSl (a0.roots_ : (List Requirement)), pSh oo0_3 (a0.derived : (List (List Term)))], hRow true 51 oo0_3 (a0.derived : (List (List Term)))] (fun _ => pTup [pSl (r.1 : (List Term)), pB (r.2)]) (fun _ => [hCells bb0 83 [pSl (a0.index_.releases : (List Release)), pV (.slice (a0.index_.interfaces).at_ (a0.index_.interfaces).len (a0.index_.interfaces).cap), pSl (a0.roots_ : (List Requirement)), pSh oo0_3 (a0.derived : (List (List Term)))], hRow true 51 oo0_3 (a0.derived : (List (List Term)))]) := by
  unfold m_proof_checker_none at hm
  refine SpecX.mk Tryz.func165 rfl rfl fun B => ?_
  refine TrC.seq ?_
  refine TrC.region rfl ?_
  refine TrL.alloc (AStep.boxK rfl rfl (Lk.t rfl)) rfl (fun b1 => ?_)
  refine L rfl rfl (PStep.assign rfl Lk.c) ?_
  refine L rfl rfl (PStep.assign rfl Lk.c) ?_
  refine TrL.nil ?_
  refine TrE.seq ?_
  refine TrC.seq ?_
  refine TrC.flow 11 mixed rfl (by kernel_rfl) (by kernel_rfl) ?_
  refine F rfl rfl (PStep.faLoc fo68_1 rfl (Lk.t rfl)) ?_
  refine F rfl rfl (PStep.ldLoc 0 Tryz.isAgg9 rfl (Lk.t rfl) rfl rfl) ?_
  refine F rfl rfl (PStep.move rfl (Lk.t rfl)) ?_
  refine F rfl rfl (PStep.nilLoc rfl (Lk.t rfl)) ?_
  refine F rfl rfl (PStep.faLoc fo83_0 rfl (Lk.t rfl)) ?_
  refine F rfl rfl (PStep.ldLocV (α := Index) (v := a0.index_) 1 Tryz.isAgg25 Tryz.sizeOf25 rfl (Lk.t rfl) rfl rfl) ?_
  refine F rfl rfl (PStep.faLoc fo68_1 rfl (Lk.t rfl)) ?_
  refine F rfl rfl (PStep.ldLoc 0 Tryz.isAgg9 rfl (Lk.t rfl) rfl rfl) ?_
  obtain ⟨x1, hx1, hm⟩ := bnd_some hm
  refine F rfl rfl (PStep.call ((s_index_Available a0.index_ a1.path x1 hx1)) Tryz.call195 rfl (LkAll.cons (Lk.t rfl) (LkAll.cons (Lk.t rfl) LkAll.nil))) ?_
  obtain ⟨hk1, hm⟩ := chk_some hm
  refine F rfl rfl (PStep.call (s_None a1.path x1 hk1) Tryz.call194 rfl (LkAll.cons (Lk.t rfl) (LkAll.cons (Lk.t rfl) LkAll.nil))) ?_
  refine F rfl rfl (PStep.assign rfl (Lk.t rfl)) ?_
  refine FlowH.nil ?_
  refine ⟨rfl, ?_⟩
  refine AllocK.none rfl ?_
  refine TrL.nil ?_
  refine TrE.seq ?_
  refine TrC.seq ?_
  refine TrC.region rfl ?_
  refine L rfl rfl (PStep.move rfl (Lk.t rfl)) ?_
  refine L rfl rfl (PStep.move rfl (Lk.t rfl)) ?_
  refine L rfl rfl (PStep.len (xs := (noneI a1.path x1)) (tys := #[]) Tryz.runUnderlying51 rfl (Lk.t rfl)) ?_
  refine L rfl rfl (PStep.gtr rfl (Lk.t rfl) Lk.c) ?_
  refine L rfl rfl (PStep.assign rfl (Lk.t rfl)) ?_
  refine L rfl rfl (PStep.assign rfl (Lk.t rfl)) ?_
  refine TrL.nil ?_
  refine TrE.seq ?_
  refine TrC.ret (?_)
  cases hm
  exact TrE.retOKX (RetOKX.of (()) (RetOK.eq (show _ = _ from rfl) (RetOK.tmp2 rfl (Lk.t (t := 4) rfl) (Lk.t (t := 5) rfl) (List.Sublist.cons _ (List.Sublist.cons_cons _ (List.Sublist.cons_cons _ (List.nil_sublist _)))))))
def m_proof_kinds_4 (a0 : Inference) : Option (Inference) :=
  some (((⟨a0.kind, (⟨#[]⟩ : ByteArray), a0.place, a0.number, (0 : Int), (0 : Int)⟩ : Inference)))
theorem s_proof_kinds_4 (a0 : Inference) (r : Inference) (hm : m_proof_kinds_4 a0 = some r) : Fn Tryz.prog 166 [pT (a0 : Inference)] (pT (r : Inference)) := by
  unfold m_proof_kinds_4 at hm
  refine Spec.mk Tryz.func166 rfl rfl fun B => ?_
  refine TrC.seq ?_
  refine TrC.region rfl ?_
  refine TrL.alloc (AStep.boxK rfl rfl (Lk.t rfl)) rfl (fun b1 => ?_)
  refine TrL.alloc (AStep.alloc Tryz.zeroValue68 rfl zc68 rfl rfl) rfl (fun b2 => ?_)
  refine TrL.nil ?_
  refine TrE.seq ?_
  refine TrC.seq ?_
  refine TrC.region rfl ?_
  refine L rfl rfl (PStep.faLoc fo68_1 rfl (Lk.t rfl)) ?_
  refine LS rfl rfl (Step.store1 1 Tryz.sizeOf9 rfl (Lk.t rfl) (show Lk _ _ (pS ((⟨#[]⟩ : ByteArray))) from Lk.c) rfl rfl rfl) ?_
  refine L rfl rfl (PStep.faLoc fo68_4 rfl (Lk.t rfl)) ?_
  refine LS rfl rfl (Step.store1 1 Tryz.sizeOf3 rfl (Lk.t rfl) (show Lk _ _ (pI ((0 : Int))) from Lk.c) rfl rfl rfl) ?_
  refine L rfl rfl (PStep.faLoc fo68_5 rfl (Lk.t rfl)) ?_
  refine LS rfl rfl (Step.store1 1 Tryz.sizeOf3 rfl (Lk.t rfl) (show Lk _ _ (pI ((0 : Int))) from Lk.c) rfl rfl rfl) ?_
  refine TrL.nil ?_
  refine TrE.seq ?_
  refine TrC.seq ?_
  refine TrC.region rfl ?_
  refine L rfl rfl (PStep.ldLocV (α := Inference) (v := (⟨a0.kind, (⟨#[]⟩ : ByteArray), a0.place, a0.number, (0 : Int), (0 : Int)⟩ : Inference)) 1 Tryz.isAgg68 Tryz.sizeOf68 rfl (Lk.t rfl) rfl rfl) ?_
  refine LS rfl rfl (Step.storeW 0 Tryz.sizeOf68 rfl (Lk.t rfl) (Lk.t rfl) rfl rfl rfl) ?_
  refine TrL.nil ?_
  refine TrE.seq ?_
  refine TrC.ret (?_)
  cases hm
  exact TrE.retOK (RetOK.eq (show _ = _ from rfl) (RetOK.cell 0 Tryz.isAgg68 Tryz.sizeOf68 rfl (Lk.t rfl) rfl rfl (List.nil_sublist _)))
def m_slices_IndexFunc_Incompatibility_Term_L2 (a0 : (List Term)) (a1 : Term → Option (Bool)) (K1 : Unit → Option (Int)) : Nat → Nat → Option (Int)
  | 0, _ => none
  | n + 1, i1 =>
    (bif (decide ((i1 : Int) < (a0.length : Int))) then bnd (a1 ((ix a0 ((i1 : Int))))) fun x1 => (bif x1 then some ((i1 : Int))
  else m_slices_IndexFunc_Incompatibility_Term_L2 a0 a1 K1 n ((i1 + 1)))
  else K1 ())
def m_slices_IndexFunc_Incompatibility_Term (a0 : (List Term)) (a1 : Term → Option (Bool)) : Option (Int) :=
  joinM (fun (_ : Unit) =>
    some ((-1 : Int))) fun K1 =>
    m_slices_IndexFunc_Incompatibility_Term_L2 a0 a1 K1 (a0.length + 1) 0
theorem s_slices_IndexFunc_Incompatibility_Term (a0 : (List Term)) (a1 : Term → Option (Bool)) (r : Int) (hm : m_slices_IndexFunc_Incompatibility_Term a0 a1 = some r) : Fn Tryz.prog 176 [pSl (a0 : (List Term)), pF1 Tryz.prog (a1) (fun a => pT (a : Term)) (fun r => pB (r))] (pI (r)) := by
  unfold m_slices_IndexFunc_Incompatibility_Term at hm
  refine Spec.mk Tryz.func176 rfl rfl fun B => ?_
  refine TrC.seq ?_
  refine TrC.region rfl ?_
  refine L rfl rfl (PStep.assign rfl Lk.c) ?_
  refine TrL.nil ?_
  refine TrE.seq ?_
  obtain ⟨K1, hK1, hm⟩ := joinK hm
  refine TrC.meetM (X := Unit) (fun _ => K1 () = some r) (fun _ => []) [] (fun _ => fun A => A) EnvSub.nil ?_ ?_
  · refine TrC.seq ?_
    refine TrC.region rfl ?_
    refine L rfl rfl (PStep.move rfl (Lk.t rfl)) ?_
    refine L rfl rfl (PStep.len (xs := a0) (tys := #[]) Tryz.runUnderlying51 rfl (Lk.t rfl)) ?_
    refine L rfl rfl (PStep.move rfl Lk.c) ?_
    refine TrL.nil ?_
    refine TrE.seq ?_
    refine TrC.block ?_
    refine TrC.know (Lk.t (t := 0) rfl) pSl.lt fun hl1 => ?_
    refine TrC.loopM (X := Nat × Nat) (fun ⟨n, i1⟩ => m_slices_IndexFunc_Incompatibility_Term_L2 a0 a1 K1 n i1 = some r) (fun ⟨n, i1⟩ => [(8, pI ((i1 : Int)))]) [(0, _), (1, _), (7, _)] (fun ⟨n, i1⟩ => fun A => A) (fun ⟨n, i1⟩ => n) (((a0.length + 1 : Nat), 0)) hm ((EnvSub.cons rfl (EnvSub.cons rfl (EnvSub.cons rfl (EnvSub.cons rfl EnvSub.nil))))) rfl ?_
    rintro ⟨n, i1⟩ hm
    obtain ⟨n, rfl⟩ := succ_of (f := fun n => m_slices_IndexFunc_Incompatibility_Term_L2 a0 a1 K1 n i1) rfl hm
    change m_slices_IndexFunc_Incompatibility_Term_L2 a0 a1 K1 (n + 1) i1 = some r at hm
    rw [m_slices_IndexFunc_Incompatibility_Term_L2] at hm
    refine TrC.seq ?_
    refine TrC.region rfl ?_
    refine L rfl rfl (PStep.lss rfl (Lk.t rfl) (Lk.t rfl)) ?_
    refine TrL.nil ?_
    refine TrE.seq ?_
    refine TrC.seq ?_
    refine TrC.condB (Lk.t rfl) (fun hc1 => ?_) (fun hc1 => ?_)
    · have hm := cond_t hm hc1
      have hs1 := hc1
      try simp only [decide_eq_true_eq, decide_eq_false_iff_not, Bool.and_eq_true, Bool.or_eq_true, Bool.not_eq_true', Bool.not_eq_false', Bool.and_eq_false_iff, Bool.or_eq_false_iff] at hs1
      refine TrC.skip ?_
      refine TrE.seq ?_
      refine TrC.seq ?_
      refine TrC.block ?_
      refine TrC.seq ?_
      refine TrC.region rfl ?_
      refine L rfl rfl (PStep.move rfl (Lk.t rfl)) ?_
      refine L rfl rfl (PStep.assign rfl (Lk.t rfl)) ?_
      refine TrL.nil ?_
      refine TrE.seq ?_
      refine TrC.seq ?_
      refine TrC.region rfl ?_
      refine L rfl rfl (PStep.move rfl (Lk.t rfl)) ?_
      refine L rfl rfl (PStep.move rfl (Lk.t rfl)) ?_
      refine L rfl rfl (PStep.move rfl (Lk.t rfl)) ?_
      refine L rfl rfl (PStep.ixD (xs := a0) Tryz.runUnderlying51 Tryz.sizeOf107 rfl (Lk.t rfl) (Lk.t rfl) (by omega)) ?_
      refine L rfl rfl (PStep.ldRefV (α := Term) (v := (ix a0 ((i1 : Int)))) Tryz.isAgg107 Tryz.sizeOf107 rfl (Lk.t rfl) rfl) ?_
      obtain ⟨x1, hx1, hm⟩ := bnd_some hm
      refine L rfl rfl (PStep.callV ⟨((ix a0 ((i1 : Int))), x1), hx1⟩ rfl (Lk.t rfl) (LkAll.cons (Lk.t rfl) LkAll.nil)) ?_
      refine TrL.nil ?_
      refine TrE.seq ?_
      refine TrC.condB (Lk.t rfl) (fun hc2 => ?_) (fun hc2 => ?_)
      · have hm := cond_t hm hc2
        have hs2 := hc2
        try simp only [decide_eq_true_eq, decide_eq_false_iff_not, Bool.and_eq_true, Bool.or_eq_true, Bool.not_eq_true', Bool.not_eq_false', Bool.and_eq_false_iff, Bool.or_eq_false_iff] at hs2
        refine TrC.seq ?_
        refine TrC.region rfl ?_
        refine L rfl rfl (PStep.move rfl (Lk.t rfl)) ?_
        refine L rfl rfl (PStep.assign rfl (Lk.t rfl)) ?_
        refine TrL.nil ?_
        refine TrE.seq ?_
        refine TrC.ret (TrE.blockR <| TrE.thenR <| TrE.thenR <| TrE.blockR <| TrE.thenR <| ?_)
        cases hm
        exact TrE.retOK (RetOK.eq (show _ = _ from rfl) (RetOK.tmp rfl (Lk.t (t := 4) rfl) (List.nil_sublist _)))
      · have hm := cond_f hm hc2
        have hs2 := hc2
        try simp only [decide_eq_true_eq, decide_eq_false_iff_not, Bool.and_eq_true, Bool.or_eq_true, Bool.not_eq_true', Bool.not_eq_false', Bool.and_eq_false_iff, Bool.or_eq_false_iff] at hs2
        refine TrC.skip ?_
        refine TrE.blockN ?_
        refine TrE.seq ?_
        refine TrC.region rfl ?_
        refine L rfl rfl (PStep.add64 rfl (Lk.t rfl) Lk.c (by omega)) ?_
        refine L rfl rfl (PStep.move rfl (Lk.t rfl)) ?_
        refine TrL.nil ?_
        refine TrE.again ((n, (i1 + 1))) hm (Nat.lt_succ_self n) ((EnvSub.cons rfl (EnvSub.cons rfl (EnvSub.cons rfl (EnvSub.cons rfl EnvSub.nil))))) rfl
    · have hm := cond_f hm hc1
      have hs1 := hc1
      try simp only [decide_eq_true_eq, decide_eq_false_iff_not, Bool.and_eq_true, Bool.or_eq_true, Bool.not_eq_true', Bool.not_eq_false', Bool.and_eq_false_iff, Bool.or_eq_false_iff] at hs1
      refine TrC.exit (TrE.thenX <| TrE.thenX <| TrE.blockHit <| ?_)
      refine TrE.meetX (()) hm (EnvSub.nil) rfl
  · rintro _ hm
    change K1 () = some r at hm
    subst hK1
    refine TrC.seq ?_
    refine TrC.region rfl ?_
    refine L rfl rfl (PStep.assign rfl Lk.c) ?_
    refine TrL.nil ?_
    refine TrE.seq ?_
    refine TrC.ret (?_)
    cases hm
    exact TrE.retOK (RetOK.eq (show _ = _ from rfl) (RetOK.tmp rfl (Lk.t (t := 4) rfl) (List.nil_sublist _)))
def m_term_split_1 (a0 : Term) (f0 : ByteArray) : Option (Bool) :=
  some ((decide (a0.path = f0)))
theorem s_term_split_1 (a0 : Term) (f0 : ByteArray) (r : Bool) (hm : m_term_split_1 a0 f0 = some r) : Fn Tryz.prog 246 [pT (a0 : Term), pRef [pS (f0)]] (pB (r)) := by
  unfold m_term_split_1 at hm
  refine Spec.mk Tryz.func246 rfl rfl fun B => ?_
  refine TrC.seq ?_
  refine TrC.region rfl ?_
  refine TrL.alloc (AStep.boxK rfl rfl (Lk.t rfl)) rfl (fun b1 => ?_)
  refine L rfl rfl (PStep.assign rfl Lk.c) ?_
  refine TrL.nil ?_
  refine TrE.seq ?_
  refine TrC.seq ?_
  refine TrC.region rfl ?_
  refine L rfl rfl (PStep.faLoc fo107_0 rfl (Lk.t rfl)) ?_
  refine L rfl rfl (PStep.ldLoc 0 Tryz.isAgg9 rfl (Lk.t rfl) rfl rfl) ?_
  refine L rfl rfl (PStep.ldRef Tryz.isAgg9 rfl (Lk.t rfl) rfl) ?_
  refine L rfl rfl (PStep.seql rfl (Lk.t rfl) (Lk.t rfl)) ?_
  refine L rfl rfl (PStep.assign rfl (Lk.t rfl)) ?_
  refine TrL.nil ?_
  refine TrE.seq ?_
  refine TrC.ret (?_)
  cases hm
  exact TrE.retOK (RetOK.eq (show _ = _ from rfl) (RetOK.tmp rfl (Lk.t (t := 3) rfl) (List.nil_sublist _)))
def m_slices_Delete_Incompatibility_Term (a0 : (List Term)) (a1 a2 : Int) : Option (List Term) := chk (0 ≤ a1 ∧ a1 ≤ a2 ∧ a2 ≤ (a0.length : Int)) <| some (a0.take a1.toNat ++ a0.drop a2.toNat)
theorem s_slices_Delete_Incompatibility_Term (a0 : (List Term)) (a1 a2 : Int) (r : (List Term)) (hm : m_slices_Delete_Incompatibility_Term a0 a1 a2 = some r) (o : OS) : SpecX (X := OS) Tryz.prog 247 [pOwn o a0, pI a1, pI a2] [hOwn 107 o a0] (fun o => pOwn o r) (fun o => [hOwn 107 o r]) := by
  unfold m_slices_Delete_Incompatibility_Term at hm
  obtain ⟨hk, hm⟩ := chk_some hm
  cases hm
  obtain ⟨i, rfl⟩ : ∃ i : Nat, a1 = i := ⟨a1.toNat, by omega⟩
  obtain ⟨j, rfl⟩ : ∃ j : Nat, a2 = j := ⟨a2.toNat, by omega⟩
  simp only [Int.toNat_natCast]
  have hij : i ≤ j ∧ j ≤ a0.length := by omega
  refine SpecX.mk Tryz.func247 rfl rfl fun B => ?_
  cases o with
  | nil =>
    refine TrC.know (Lk.t (t := 0) rfl) (fun v S h => h.2) fun hnil => ?_
    subst hnil
    have hi0 : i = 0 ∧ j = 0 := by have := hij.2; simp only [List.length_nil] at this; omega
    obtain ⟨rfl, rfl⟩ := hi0
    refine TrC.seq ?_
    refine TrC.region rfl ?_
    refine L rfl rfl (PStep.assign rfl Lk.c) ?_
    refine TrL.nil ?_
    refine TrE.seq ?_
    refine TrC.seq ?_
    refine TrC.region rfl ?_
    refine L rfl rfl (PStep.move rfl (Lk.t rfl)) ?_
    refine L rfl rfl (PStep.move rfl (Lk.t rfl)) ?_
    refine L rfl rfl (PStep.move rfl (Lk.t rfl)) ?_
    refine L rfl rfl (PStep.move rfl (Lk.t rfl)) ?_
    refine L rfl rfl (PStep.lenOwn  Tryz.runUnderlying51 rfl (Lk.t rfl)) ?_
    refine L rfl rfl (PStep.slV3 (n := 0) (c := 0) 0 0 0 Tryz.runUnderlying51 Tryz.sizeOf107 rfl (Lk.nilV (Lk.t rfl)) (Lk.t rfl) (Lk.t rfl) (Lk.t rfl) (by omega)) ?_
    refine TrL.nil ?_
    refine TrE.seq ?_
    refine TrC.seq ?_
    refine TrC.seq ?_
    refine TrC.region rfl ?_
    refine L rfl rfl (PStep.move rfl (Lk.t rfl)) ?_
    refine L rfl rfl (PStep.move rfl (Lk.t rfl)) ?_
    refine L rfl rfl (PStep.eql rfl (Lk.t rfl) (Lk.t rfl)) ?_
    refine TrL.nil ?_
    refine TrE.seq ?_
    refine TrC.condB (Lk.t rfl) (fun hc => ?_) (fun hc => ?_)
    · refine TrC.seq ?_
      refine TrC.region rfl ?_
      refine L rfl rfl (PStep.move rfl (Lk.t rfl)) ?_
      refine L rfl rfl (PStep.assign rfl (Lk.t rfl)) ?_
      refine TrL.nil ?_
      refine TrE.seq ?_
      refine TrC.ret (TrE.thenR <| ?_)
      skip
      exact TrE.retOKX (RetOKX.row1 0 .nil rfl (by rw [List.take_append_drop]; exact Lk.t rfl) rfl (by rw [List.take_append_drop]))
    · simp at hc
  | «at» b c =>
    refine TrC.capA 0 rfl fun hcap => ?_
    refine TrC.seq ?_
    refine TrC.region rfl ?_
    refine L rfl rfl (PStep.assign rfl Lk.c) ?_
    refine TrL.nil ?_
    refine TrE.seq ?_
    refine TrC.seq ?_
    refine TrC.region rfl ?_
    refine L rfl rfl (PStep.move rfl (Lk.t rfl)) ?_
    refine L rfl rfl (PStep.move rfl (Lk.t rfl)) ?_
    refine L rfl rfl (PStep.move rfl (Lk.t rfl)) ?_
    refine L rfl rfl (PStep.move rfl (Lk.t rfl)) ?_
    refine L rfl rfl (PStep.lenOwn  Tryz.runUnderlying51 rfl (Lk.t rfl)) ?_
    refine L rfl rfl (PStep.slV3 (n := a0.length) (c := c) i j a0.length Tryz.runUnderlying51 Tryz.sizeOf107 rfl (Lk.atV (Lk.t rfl)) (Lk.t rfl) (Lk.t rfl) (Lk.t rfl) (by omega)) ?_
    refine TrL.nil ?_
    refine TrE.seq ?_
    refine TrC.seq ?_
    refine TrC.seq ?_
    refine TrC.region rfl ?_
    refine L rfl rfl (PStep.move rfl (Lk.t rfl)) ?_
    refine L rfl rfl (PStep.move rfl (Lk.t rfl)) ?_
    refine L rfl rfl (PStep.eql rfl (Lk.t rfl) (Lk.t rfl)) ?_
    refine TrL.nil ?_
    refine TrE.seq ?_
    refine TrC.condB (Lk.t rfl) (fun hc => ?_) (fun hc => ?_)
    · refine TrC.seq ?_
      refine TrC.region rfl ?_
      refine L rfl rfl (PStep.move rfl (Lk.t rfl)) ?_
      refine L rfl rfl (PStep.assign rfl (Lk.t rfl)) ?_
      refine TrL.nil ?_
      refine TrE.seq ?_
      refine TrC.ret (TrE.thenR <| ?_)
      have hij0 : (i : Int) = j := by simpa using hc
      have hij' : i = j := by omega
      subst hij'
      exact TrE.retOKX (RetOKX.row1 0 (.at b c) rfl (by rw [List.take_append_drop]; exact Lk.t rfl) rfl (by rw [List.take_append_drop]))
    · have hne : ¬ (i : Int) = j := by simpa using hc
      have hlt : i < j := by omega
      refine TrC.skip ?_
      refine TrE.seq ?_
      refine TrC.seq ?_
      refine TrC.region rfl ?_
      refine L rfl rfl (PStep.move rfl (Lk.t rfl)) ?_
      refine L rfl rfl (PStep.lenOwn  Tryz.runUnderlying51 rfl (Lk.t rfl)) ?_
      refine L rfl rfl (PStep.assign rfl (Lk.t rfl)) ?_
      refine TrL.nil ?_
      refine TrE.seq ?_
      refine TrC.seq ?_
      refine TrC.lin1 7 mixed rfl (by kernel_rfl) (by kernel_rfl) rfl ?_
      refine M rfl rfl (PStep.move rfl (Lk.t rfl)) ?_
      refine M rfl rfl (PStep.move rfl (Lk.t rfl)) ?_
      refine M rfl rfl (PStep.slV (n := a0.length) (c := c) (ad' := some ⟨b, 0, none⟩) 0 i Tryz.runUnderlying51 Tryz.sizeOf107 rfl (Lk.t rfl).atV rfl ⟨_, Lk.t rfl⟩ hcap (by omega) (by rw [if_neg (by omega)]; simp [add_plain])) ?_
      refine M rfl rfl (PStep.move rfl (Lk.t rfl)) ?_
      refine M rfl rfl (PStep.move rfl (Lk.t rfl)) ?_
      refine M rfl rfl (PStep.slV (n := a0.length) (c := c) j a0.length Tryz.runUnderlying51 Tryz.sizeOf107 rfl (Lk.t rfl).atV ⟨_, Lk.t rfl⟩ rfl hcap (by omega) rfl) ?_
      refine MT rfl (TStepG.appendSelf (α := Term) i j apT51 rfl rfl (Lk.t rfl) (Lk.t rfl) hij hcap (fun h => by rw [if_neg (by omega)]; simp [add_plain]; rfl)) ?_
      refine FlowL.nil ?_
      refine ⟨rfl, trivial, fun β => ?_⟩
      refine TrL.conv (E' := (26, pV (.slice (some ⟨b, 0, none⟩) (i + (a0.length - j)) c)) :: _) rfl (A' := hOwn 107 (.at b c) (a0.take i ++ a0.drop j) :: _) rfl ?_
      refine L rfl rfl (PStep.assign rfl (Lk.t rfl)) ?_
      refine TrL.nil ?_
      refine TrE.seq ?_
      refine TrC.seq ?_
      refine TrC.region rfl ?_
      refine L rfl rfl (PStep.move rfl (Lk.t rfl)) ?_
      refine L rfl rfl (PStep.move rfl (Lk.t rfl)) ?_
      refine L rfl rfl (PStep.lenV Tryz.runUnderlying51 rfl (Lk.t rfl)) ?_
      refine L rfl rfl (PStep.move rfl (Lk.t rfl)) ?_
      refine L rfl rfl (PStep.slV (c := c) (ad' := some ⟨b, (i + (a0.length - j)) * Enc.n Term, none⟩) (i + (a0.length - j)) a0.length Tryz.runUnderlying51 Tryz.sizeOf107 rfl (Lk.t rfl) ⟨_, Lk.t rfl⟩ ⟨_, Lk.t rfl⟩ (by omega) (by omega) (by rw [if_neg (by omega)]; simp [add_plain]; rfl)) ?_
      refine LS rfl rfl (Step.clearV 0 (α := Term) (b := b) (c := c) (ys := a0.take i ++ a0.drop j) (off := i + (a0.length - j)) (m := a0.length - (i + (a0.length - j))) Tryz.underlying51 Tryz.zeroValue107 rfl (by simp [Value.cells, Value.oneCell']) rfl (Lk.t rfl) (by omega) (by simp; omega) (by omega) rfl) ?_
      refine TrL.nil ?_
      refine TrE.seq ?_
      refine TrC.seq ?_
      refine TrC.region rfl ?_
      refine L rfl rfl (PStep.move rfl (Lk.t rfl)) ?_
      refine L rfl rfl (PStep.assign rfl (Lk.t rfl)) ?_
      refine TrL.nil ?_
      refine TrE.seq ?_
      refine TrC.ret ?_
      refine TrE.retOKX (RetOKX.row1 0 (.at b c) rfl ((Lk.t (t := 6) rfl).imp fun v S h => ?_) rfl rfl)
      have h : v = _ := h
      rw [h]
      show _ = Value.slice _ _ _
      simp; omega
def m_slices_Clone_Incompatibility_Term (a0 : (List Term)) : Option ((List Term)) := chk (a0.length ≤ 4294967296) <| some a0
theorem s_slices_Clone_Incompatibility_Term (a0 : (List Term)) (r : (List Term)) (hm : m_slices_Clone_Incompatibility_Term a0 = some r) : FnRow Tryz.prog 248 [pSl a0] (fun o => pOwn o r) (fun o => hOwn 107 o r) := by
  unfold m_slices_Clone_Incompatibility_Term at hm
  obtain ⟨hk, hm⟩ := chk_some hm
  cases hm
  refine SpecX.mk Tryz.func248 rfl rfl fun B => ?_
  refine TrC.seq ?_
  refine TrC.region rfl ?_
  refine L rfl rfl (PStep.assign rfl Lk.c) ?_
  refine TrL.nil ?_
  refine TrE.seq ?_
  refine TrC.seq ?_
  refine TrC.seq ?_
  refine TrC.region rfl ?_
  refine L rfl rfl (PStep.move rfl (Lk.t rfl)) ?_
  refine L rfl rfl (PStep.eqNil Tryz.underlying51 rfl (Lk.t rfl)) ?_
  refine TrL.nil ?_
  refine TrE.seq ?_
  refine TrC.condN (Lk.t rfl) (fun hc => ?_) ?_
  · refine TrC.seq ?_
    refine TrC.region rfl ?_
    refine L rfl rfl (PStep.assign rfl Lk.c) ?_
    refine TrL.nil ?_
    refine TrE.seq ?_
    refine TrC.ret (TrE.thenR <| ?_)
    refine TrE.lay (hOwn 107 .nil a0) rfl ?_
    subst hc
    exact TrE.retOKX (RetOKX.row1 0 .nil rfl (Lk.ownNil (Lk.t rfl)) rfl rfl)
  refine TrC.skip ?_
  refine TrE.seq ?_
  refine TrC.seq ?_
  refine TrC.region rfl ?_
  refine TrL.allocG (AStep.litOwn ([] : (List Term)) slT51 rfl rfl trivial rfl rfl) rfl (fun r1 => ?_)
  refine L rfl rfl (PStep.move rfl (Lk.t rfl)) ?_
  refine TrL.append 0 apT51 rfl rfl rfl (Lk.t rfl) (Lk.t rfl) rfl (by simp only [List.length_nil, Nat.zero_add]; omega) (fun r2 => ?_)
  refine L rfl rfl (PStep.assign rfl (Lk.t rfl)) ?_
  refine TrL.nil ?_
  refine TrE.seq ?_
  refine TrC.ret ?_
  exact TrE.retOKX (RetOKX.row1 0 r2 rfl (Lk.t rfl) rfl rfl)
def m_term_split (a0 : (List Term)) (a1 : ByteArray) : Option (Term × (List Term) × Bool) :=
  chk (∀ t ∈ a0, TOK t) <| chk (a0.length ≤ 1000000) <| bnd (m_slices_IndexFunc_Incompatibility_Term ((canonT a0).1) ((fun z0 => m_term_split_1 z0 a1))) fun x1 => (bif ((!(canonT a0).2) || (decide (x1 < (0 : Int)))) then some (((⟨ByteArray.empty, false, []⟩ : Term)), ([] : (List Term)), false)
  else chk (0 ≤ x1 ∧ x1 < (((canonT a0).1).length : Int)) <| bnd (m_slices_Clone_Incompatibility_Term ((canonT a0).1)) fun x2 => chk (-9223372036854775808 ≤ (x1 + (1 : Int)) ∧ (x1 + (1 : Int)) ≤ 9223372036854775807) <| bnd (m_slices_Delete_Incompatibility_Term x2 x1 ((x1 + (1 : Int)))) fun x3 => some (((ix ((canonT a0).1) x1)), x3, true))
theorem s_term_split (a0 : (List Term)) (a1 : ByteArray) (r : Term × (List Term) × Bool) (hm : m_term_split a0 a1 = some r) : FnRow Tryz.prog 224 [pSl (a0 : (List Term)), pS (a1)] (fun o => pTup [pT (r.1 : Term), pOwn o (r.2.1 : (List Term)), pB (r.2.2)]) (fun o => hOwn 107 o (r.2.1 : (List Term))) := by
  unfold m_term_split at hm
  refine SpecX.mk Tryz.func224 rfl rfl fun B => ?_
  refine TrC.seq ?_
  refine TrC.region rfl ?_
  refine TrL.alloc (AStep.box1 rfl rfl (Lk.t rfl)) rfl (fun b1 => ?_)
  refine TrL.alloc (AStep.alloc Tryz.zeroValue107 rfl zc107 rfl rfl) rfl (fun b2 => ?_)
  refine L rfl rfl (PStep.assign rfl Lk.c) ?_
  refine L rfl rfl (PStep.assign rfl Lk.c) ?_
  refine TrL.nil ?_
  refine TrE.seq ?_
  refine TrC.seq ?_
  refine TrC.region rfl ?_
  refine L rfl rfl (PStep.move rfl (Lk.t rfl)) ?_
  obtain ⟨hk1, hm⟩ := chk_some hm
  obtain ⟨hk2, hm⟩ := chk_some hm
  refine L rfl rfl (PStep.call (s_CanonT a0 hk1 hk2) Tryz.call29 rfl (LkAll.cons (Lk.t rfl) LkAll.nil)) ?_
  refine L rfl rfl (PStep.move rfl (Lk.t rfl)) ?_
  refine L rfl rfl (PStep.extract rfl (Lk.t rfl) rfl) ?_
  refine L rfl rfl (PStep.extract rfl (Lk.t rfl) rfl) ?_
  refine L rfl rfl (PStep.assign rfl (Lk.t rfl)) ?_
  refine L rfl rfl (PStep.assign rfl (Lk.t rfl)) ?_
  refine TrL.nil ?_
  refine TrE.seq ?_
  refine TrC.seq ?_
  refine TrC.settleC 1 3 rfl rfl ?_
  refine TrC.region rfl ?_
  refine L rfl rfl (PStep.move rfl (Lk.t rfl)) ?_
  refine L rfl rfl (PStep.mkFun (ps := fun x : {x : Term × Bool // (fun z0 => m_term_split_1 z0 a1) x.1 = some x.2} => [pT (x.1.1 : Term)]) (p := fun x => pB (x.1.2)) (fun x => s_term_split_1 x.1.1 a1 x.1.2 x.2) Tryz.call246 rfl (LkAll.cons (Lk.t rfl) LkAll.nil)) ?_
  obtain ⟨x1, hx1, hm⟩ := bnd_some hm
  refine L rfl rfl (PStep.call ((s_slices_IndexFunc_Incompatibility_Term ((canonT a0).1) ((fun z0 => m_term_split_1 z0 a1)) x1 hx1)) Tryz.call176 rfl (LkAll.cons (Lk.t rfl) (LkAll.cons (Lk.t rfl) LkAll.nil))) ?_
  refine L rfl rfl (PStep.assign rfl (Lk.t rfl)) ?_
  refine TrL.nil ?_
  refine TrE.seq ?_
  refine TrC.seq ?_
  refine TrC.seq ?_
  refine TrC.region rfl ?_
  refine L rfl rfl (PStep.move rfl (Lk.t rfl)) ?_
  refine L rfl rfl (PStep.not rfl (Lk.t rfl)) ?_
  refine L rfl rfl (PStep.move rfl (Lk.t rfl)) ?_
  refine LW rfl (WStep.guard rfl rfl rfl rfl (fun hg => PStep.move rfl (Lk.t rfl))) ?_
  refine LW rfl (WStep.guard rfl rfl rfl rfl (fun hg => PStep.lss rfl (Lk.g rfl hg) Lk.c)) ?_
  refine L rfl rfl (PStep.pickOr rfl (Lk.t rfl) (fun hq => Lk.g rfl hq)) ?_
  refine TrL.nil ?_
  refine TrE.seq ?_
  refine TrC.condB (Lk.t rfl) (fun hc1 => ?_) (fun hc1 => ?_)
  · have hm := cond_t hm hc1
    have hs1 := hc1
    try simp only [decide_eq_true_eq, decide_eq_false_iff_not, Bool.and_eq_true, Bool.or_eq_true, Bool.not_eq_true', Bool.not_eq_false', Bool.and_eq_false_iff, Bool.or_eq_false_iff] at hs1
    refine TrC.seq ?_
    refine TrC.region rfl ?_
    refine L rfl rfl (mk107_ rfl ) ?_
    refine LS rfl rfl (Step.storeW 0 Tryz.sizeOf107 rfl (Lk.t rfl) (Lk.t rfl) rfl rfl rfl) ?_
    refine L rfl rfl (PStep.assign rfl Lk.c) ?_
    refine L rfl rfl (PStep.assign rfl Lk.c) ?_
    refine TrL.nil ?_
    refine TrE.seq ?_
    refine TrC.ret (TrE.thenR <| ?_)
    refine TrE.lay (hRow false 107 .nil (([] : (List Term)) : (List Term))) rfl ?_
    cases hm
    exact TrE.retOKX (RetOKX.of .nil (RetOK.eq (show _ = _ from rfl) (RetOK.cell3 1 Tryz.isAgg107 Tryz.sizeOf107 rfl (Lk.t rfl) rfl rfl (Lk.ownNil (α := Term) (Lk.t (t := 5) rfl)) (Lk.t (t := 6) rfl) (sub1 0 rfl))))
  · have hm := cond_f hm hc1
    have hs1 := hc1
    try simp only [decide_eq_true_eq, decide_eq_false_iff_not, Bool.and_eq_true, Bool.or_eq_true, Bool.not_eq_true', Bool.not_eq_false', Bool.and_eq_false_iff, Bool.or_eq_false_iff] at hs1
    refine TrC.skip ?_
    refine TrE.seq ?_
    refine TrC.seq ?_
    refine TrC.lin0 10 mixed rfl (by kernel_rfl) (by kernel_rfl) rfl ?_
    refine M rfl rfl (PStep.move rfl (Lk.t rfl)) ?_
    refine M rfl rfl (PStep.move rfl (Lk.t rfl)) ?_
    obtain ⟨hk3, hm⟩ := chk_some hm
    refine M rfl rfl (PStep.ixD (xs := (canonT a0).1) Tryz.runUnderlying51 Tryz.sizeOf107 rfl (Lk.t rfl) (Lk.t rfl) hk3) ?_
    refine M rfl rfl (PStep.ldRefV (α := Term) (v := (ix ((canonT a0).1) x1)) Tryz.isAgg107 Tryz.sizeOf107 rfl (Lk.t rfl) rfl) ?_
    refine M rfl rfl (PStep.move rfl (Lk.t rfl)) ?_
    obtain ⟨x2, hx2, hm⟩ := bnd_some hm
    refine MR rfl (AStep.call (s_slices_Clone_Incompatibility_Term ((canonT a0).1) x2 hx2) Tryz.call248 rfl rfl (LkAll.cons (Lk.t rfl) LkAll.nil)) ?_
    refine M rfl rfl (PStep.move rfl (Lk.t rfl)) ?_
    refine M rfl rfl (PStep.move rfl (Lk.t rfl)) ?_
    obtain ⟨hk4, hm⟩ := chk_some hm
    refine M rfl rfl (PStep.add64 rfl (Lk.t rfl) Lk.c hk4) ?_
    obtain ⟨x3, hx3, hm⟩ := bnd_some hm
    refine MO 5 5 5 30 (fun z => pOwn z (x2 : (List Term))) (fun z => hRow false 107 z (x2 : (List Term))) rfl (fun q => TStepG.call (s_slices_Delete_Incompatibility_Term x2 x1 ((x1 + (1 : Int))) x3 hx3 q) Tryz.call247 rfl rfl (LkAll.cons (Lk.t rfl) (LkAll.cons (Lk.t rfl) (LkAll.cons (Lk.t rfl) LkAll.nil)))) ?_
    refine FlowL.nil ?_
    refine ⟨rfl, ⟨⟨by kernel_rfl, ⟨_, _, _, rfl, rfl⟩, .inl ⟨_, _, _, rfl, rfl, rfl, rfl⟩⟩, trivial⟩, fun β => ?_⟩
    refine TrL.conv (E' := (34, pOwn (β 9) (x3 : (List Term))) :: (30, pOwn (β 5) (x2 : (List Term))) :: _) rfl (A' := hRow false 107 (β 9) (x3 : (List Term)) :: _) rfl ?_
    refine LS rfl rfl (Step.storeW 1 Tryz.sizeOf107 rfl (Lk.t rfl) (Lk.t rfl) rfl rfl rfl) ?_
    refine L rfl rfl (PStep.assign rfl (Lk.t rfl)) ?_
    refine L rfl rfl (PStep.assign rfl Lk.c) ?_
    refine TrL.nil ?_
    refine TrE.seq ?_
    refine TrC.ret (?_)
    cases hm
    exact TrE.retOKX (RetOKX.of (β 9) (RetOK.eq (show _ = _ from rfl) (RetOK.cell3 1 Tryz.isAgg107 Tryz.sizeOf107 rfl (Lk.t rfl) rfl rfl (Lk.t (t := 5) rfl) (Lk.t (t := 6) rfl) (sub1 0 rfl))))
def m_term_Resolve (a0 : (List Term)) (a1 : (List Term)) (a2 : ByteArray) : Option ((List Term) × Int) :=
  bnd (m_term_split a0 a2) fun x1 => bnd (m_term_split a1 a2) fun x2 => (bif ((!x1.2.2) || (!x2.2.2)) then some (([] : (List Term)), (1 : Int))
  else chk (x1.2.1.length + x2.2.1.length ≤ 4294967296) <| chk (x1.1.set_.length ≤ 1000000) <| chk (x2.1.set_.length ≤ 1000000) <| chk (((x1.2.1 ++ x2.2.1)).length + (([(either x1.1 x2.1)] : (List Term))).length ≤ 4294967296) <| chk (∀ t ∈ (((x1.2.1 ++ x2.2.1) ++ ([(either x1.1 x2.1)] : (List Term)))), TOK t) <| chk ((((x1.2.1 ++ x2.2.1) ++ ([(either x1.1 x2.1)] : (List Term)))).length ≤ 1000000) <| (bif (!(canonT (((x1.2.1 ++ x2.2.1) ++ ([(either x1.1 x2.1)] : (List Term))))).2) then some (([] : (List Term)), (8 : Int))
  else some ((canonT (((x1.2.1 ++ x2.2.1) ++ ([(either x1.1 x2.1)] : (List Term))))).1, (0 : Int))))
end Go.Mp
