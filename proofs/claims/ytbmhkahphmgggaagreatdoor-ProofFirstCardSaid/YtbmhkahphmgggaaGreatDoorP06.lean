/- Part 6 of the proof of tampers_ok: plain theorems, kept by a program out of the prover's own texts. No conditions. -/
import Derived.Test.YtbmhkahphmgggaaGreatDoorP05
set_option linter.unusedVariables false
set_option linter.unusedSimpArgs false
set_option linter.unusedSectionVars false
namespace Go.Mp
open Go
theorem skipped_ok {x : Index} (hv : ValidX x) (roots : List Requirement) (d : List (List Term)) {l1 : List Selected} (hl : Vers l1) (hl1 : l1.length ≤ 1000) (l2 : List Requirement) (r0 : Release) (v : List Skip) :
    m_proof_checker_skipped ⟨x, roots, d⟩ v l1 l2 r0 = some (match skipF d l1 l2 r0 v x.releases with | some v' => (v', true) | none => ([], false)) := by
  unfold m_proof_checker_skipped
  rw [joinM_eq]
  have h := forK_eq x.releases (skipBody d l1 l2 r0) (fun v => some (v, true)) (fun n v i => m_proof_checker_skipped_L2 ⟨x, roots, d⟩ r0 l2 l1 (fun v => some (v, true)) n v i) (fun n v i => by
    simp only [m_proof_checker_skipped_L2]
    by_cases hi : ¬ (i : Int) < (x.releases.length : Int)
    · rw [decide_eq_false hi]; rfl
    have hi : (i : Int) < (x.releases.length : Int) := Classical.not_not.1 hi
    rw [decide_eq_true hi]
    simp only [cond_true]
    have hrm : ix x.releases (i : Int) ∈ x.releases := ix_mem ⟨by omega, hi⟩
    generalize ix x.releases (i : Int) = r at hrm ⊢
    unfold skipBody condR
    cases hA : ((decide (r.path ≠ r0.path) || r.yanked) || decide (plR r0 ≤ plR r)) with
    | true => rfl
    | false =>
      simp only [cond_false]
      rw [CF_Requirement_Requirement (f := fun z0 => m_proof_checker_skipped_1 z0 r0 (placeOf r.version).1) (p := fun q => decide (q.path = r0.path) && !(has q.set_ (plR r))) fun q _ => rfl, bnd_ok]
      cases hB : (l2.any fun q => decide (q.path = r0.path) && !(has q.set_ (plR r))) with
      | true => rfl
      | false =>
        simp only [cond_false, Bool.not_false, Bool.and_true, if_true]
        cases v with
        | nil =>
          simp only [List.length_nil]
          rw [chk_ok (by simp), chk_ok (by simp), chk_ok (by simp), chk_ok (by simp)]
          rfl
        | cons s v' =>
          have h0 : ix (s :: v') (0 : Int) = s := rfl
          have hlen : (decide (((s :: v').length : Int) = 0)) = false := decide_eq_false (by simp only [List.length_cons]; omega)
          have hpos : (0 : Int) ≤ 0 ∧ (0 : Int) < ((s :: v').length : Int) := by simp only [List.length_cons]; omega
          rw [h0, hlen, chk_ok (fun _ => hpos), chk_ok (fun _ => hpos), chk_ok (fun _ => hpos), chk_ok (fun _ => hpos), Bool.false_or]
          unfold goodS
          dsimp only
          cases hC : ((((decide (s.path ≠ r0.path)) || (decide (s.place ≠ plR r))) || (decide (s.inference < 0))) || (decide ((d.length : Int) ≤ s.inference))) with
          | true => rfl
          | false =>
            simp only [Bool.or_eq_false_iff, decide_eq_false_iff_not] at hC
            simp only [cond_false, m_slices_Clone_Selected_Selected]
            have hver : Vers (l1 ++ [keyR r]) := fun y hy => by
              rcases List.mem_append.1 hy with hy | hy
              · exact hl y hy
              · rw [List.mem_singleton.1 hy]; exact (hv.each r hrm).ver
            rw [chk_ok (by omega), bnd_ok, chk_ok (by simp only [List.length_singleton]; omega), chk_ok hpos, chk_ok (by omega)]
            have he := Entailed_ok hver (ix d s.inference)
            have he : m_term_Entailed (ix d s.inference) (l1 ++ [⟨r.path, r.version⟩]) = some (entB (l1 ++ [keyR r]) (ix d s.inference)) := he
            rw [he, bnd_ok]
            cases entB (l1 ++ [keyR r]) (ix d s.inference) with
            | false => rfl
            | true =>
              simp only [Bool.not_true, cond_false, Bool.not_false, Bool.and_self, if_true]
              rw [chk_ok (by simp only [List.length_cons]; omega)]
              have : ((s :: v').take (((s :: v').length : Int)).toNat).drop ((1 : Int)).toNat = v' := by
                rw [Int.toNat_natCast, List.take_length]; rfl
              rw [this]) (x.releases.length + 1) v 0 (Nat.zero_le _) (by omega)
  have h : m_proof_checker_skipped_L2 ⟨x, roots, d⟩ r0 l2 l1 (fun v => some (v, true)) (x.releases.length + 1) v 0 = _ := h
  rw [h, List.drop_zero, skipF_for]
  cases skipF d l1 l2 r0 v x.releases <;> rfl
def checkF (x : Index) (d : List (List Term)) : List Selected → List Requirement → List Selected → List Skip × Bool → List Skip × Bool
  | _, _, [], s => s
  | l1, l2, y :: ys, s => checkF x d (l1 ++ [y]) (l2 ++ (relOf x y).requirements) ys (match skipF d l1 l2 (relOf x y) s.1 x.releases with | some v' => (v', s.2 && !(relOf x y).yanked) | none => ([], false))
theorem decC_ok {x : Index} (hx : FewX x) {roots : List Requirement} {sel : List Selected} (hsl : sel.length ≤ 1000) (hs : SolvesP x roots sel) (d : List (List Term)) {l1 : List Selected} {l2 : List Requirement} {ys : List Selected} (h : Steps x sel l1 l2 ys) :
    ∀ (n : Nat) (s : List Skip × Bool), Inv x roots sel l1 l2 → ys.length < n → m_proof_checker_decide_proof_Check_1_L7 sel ⟨x, roots, d⟩ (some ⟨x, roots, d⟩) n l1 l2 s.1 s.2 = some (true, checkF x d l1 l2 ys s) := by
  induction h with
  | done hc =>
    intro n s hI hn
    cases n with
    | zero => omega
    | succ n =>
      simp only [m_proof_checker_decide_proof_Check_1_L7]
      rw [joinM_eq, nextC_ok, hc]
      rfl
  | @step l1 l2 y ys hc ha _ ih =>
    intro n s hI hn
    cases n with
    | zero => omega
    | succ n =>
      obtain ⟨y', k1, k2, k3, k4⟩ := hI.next hx hs hc
      rw [ha] at k1
      cases k1
      obtain ⟨i1, i2, i3⟩ := at_idx ha
      obtain ⟨f1, f2⟩ := found_of (hs.found y k2)
      have hl1 := hI.len
      have hl2 := k4.small
      have hl4 := k4.len
      simp only [List.length_append, List.length_singleton] at hl2 hl4
      have hver : Vers l1 := fun z hz => hs.vers hx z (hI.sub z hz)
      simp only [m_proof_checker_decide_proof_Check_1_L7]
      rw [joinM_eq, nextC_ok, hc]
      simp only [Bool.not_true, cond_false]
      rw [IF_Selected_Selected (f := fun z0 => m_proof_checker_decide_2 z0 (nextP l1 l2).1) (p := fun z => decide (z.path = (nextP l1 l2).1)) fun z _ => rfl, bnd_ok, decide_eq_false (by omega), cond_false, chk_ok ⟨i1, i2⟩, chk_ok ⟨i1, i2⟩, i3, find_ok hx hs.okx, bnd_ok, f1, f2]
      simp only [Bool.not_true, cond_false, m_proof_Check_1]
      rw [chk_ok (by rfl)]
      simp only [Option.getD_some]
      rw [skipped_ok (hs.okx.valid hx) roots d hver (by omega), bnd_ok, bnd_ok, chk_ok ⟨i1, i2⟩, chk_ok (by simp only [List.length_singleton]; omega), chk_ok (by omega)]
      have := ih n (match skipF d l1 l2 (relOf x y) s.1 x.releases with | some v' => (v', s.2 && !(relOf x y).yanked) | none => ([], false)) k4 (by simp only [List.length_cons] at hn; omega)
      simp only [checkF]
      rw [← this]
      cases skipF d l1 l2 (relOf x y) s.1 x.releases with
      | some v' => simp
      | none => simp
theorem small_ok (a : Answer) : ∃ b, m_modcertlaw36_small a = some b ∧ (b = true → a.inferences.length ≤ 400 ∧ a.selection.length ≤ 16 ∧ a.skips.length ≤ 100) := by
  refine ⟨_, rfl, fun h => ?_⟩
  simp only [Bool.and_eq_true, decide_eq_true_eq] at h
  omega
structure FoundP (x : Index) (roots : List Requirement) (d : List (List Term)) (sel : List Selected) (skips : List Skip) (ys : List Selected) : Prop where
  solves : SolvesP x roots sel
  steps : Steps x sel [] roots ys
  all : ∀ y ∈ sel, y ∈ ys
  sub : ∀ y ∈ ys, y ∈ sel
  cert : checkF x d [] roots ys (skips, true) = ([], true)
theorem Check_ok {x : Index} (hx : FewX x) {roots : List Requirement} (hr : FewR roots) {a : Answer} (h1 : a.inferences.length ≤ 401) (h2 : a.selection.length ≤ 1000) :
    ∃ c, m_proof_Check x roots a = some c ∧ (c = 0 → Okin x roots ∧ ∃ d, derFrom x roots [] a.inferences = some d ∧
      ((a.found = false ∧ a.selection = [] ∧ refB d = true) ∨ (a.found = true ∧ ∃ ys, FoundP x roots d a.selection a.skips ys))) := by
  unfold m_proof_Check
  rcases newChecker_ok hx hr h1 with ⟨_, h⟩ | ⟨hin, h⟩
  · rw [h, bnd_ok]; exact ⟨1, rfl, fun h => by omega⟩
  rw [h, bnd_ok]
  cases hd : derFrom x roots [] a.inferences with
  | none => exact ⟨18, rfl, fun h => by omega⟩
  | some d =>
    have hdl := der_len0 _ _ _ hd
    rw [List.length_nil] at hdl
    simp only
    rw [show (decide ((0 : Int) ≠ 0)) = false from rfl, cond_false]
    cases hf : a.found with
    | false =>
      simp only [Bool.not_false, cond_true]
      rw [chk_ok (fun _ => by rfl)]
      by_cases hc : ((decide (0 < (a.selection.length : Int))) || (decide (0 < (a.skips.length : Int)))) = false
      · rw [gd_ok hc]
        simp only [Option.getD_some]
        rw [refuted_ok x roots d (by omega), bnd_ok, hc, Bool.false_or]
        cases href : refB d with
        | false => exact ⟨18, rfl, fun h => by omega⟩
        | true =>
          simp only [Bool.or_eq_false_iff, decide_eq_false_iff_not] at hc
          exact ⟨0, rfl, fun _ => ⟨hin, d, rfl, .inl ⟨trivial, List.eq_nil_of_length_eq_zero (by omega), href⟩⟩⟩
      · rw [gd_no hc, bnd_ok]
        simp only [Bool.not_eq_false] at hc
        rw [hc]
        exact ⟨18, rfl, fun h => by omega⟩
    | true =>
      simp only [Bool.not_true, cond_false]
      obtain ⟨c, hc1, hc2⟩ := solves_ok hx hr h2
      rw [hc1, bnd_ok]
      by_cases hc : c = 0
      · have hs := hc2 hc
        obtain ⟨ys, k1, k2, k3⟩ := steps_ex hx hs a.selection.length [] roots (Inv.start hr hs) (by simp)
        simp only [List.nil_append] at k2 k3
        have hyl : ys.length ≤ a.selection.length := k3.len
        rw [show (decide (c ≠ 0)) = false by simpa using hc, cond_false, chk_ok (by rfl)]
        simp only [Option.getD_some, m_proof_checker_decide_proof_Check_1, m_slices_Clone_Requirement_Requirement]
        rw [chk_ok (by have := hr.len; omega), bnd_ok]
        obtain ⟨N, hN⟩ : ∃ N : Nat, N = 100000 := ⟨_, rfl⟩
        have := decC_ok hx h2 hs d k1 N (a.skips, true) (Inv.start hr hs) (by omega)
        rw [← hN, this, bnd_ok]
        cases hcf : checkF x d [] roots ys (a.skips, true) with
        | mk v ok =>
          cases ok with
          | false => exact ⟨18, rfl, fun h => by omega⟩
          | true =>
            cases v with
            | nil => exact ⟨0, rfl, fun _ => ⟨hin, d, rfl, .inr ⟨trivial, ys, hs, k1, k2, k3.sub, hcf⟩⟩⟩
            | cons s v' =>
              refine ⟨18, ?_, fun h => by omega⟩
              simp only [Bool.not_true, Bool.false_or]
              rw [decide_eq_true (by simp only [List.length_cons]; omega)]
              rfl
      · rw [show (decide (c ≠ 0)) = true by simpa using hc, cond_true]
        exact ⟨18, rfl, fun h => by omega⟩
end Go.Mp
namespace Go.Mp
open Go
theorem incr_ext : ∀ {a b : List Selected}, Incr a → Incr b → (∀ y, y ∈ a ↔ y ∈ b) → a = b
  | [], [], _, _, _ => rfl
  | [], y :: b, _, _, h => absurd ((h y).2 List.mem_cons_self) (by simp)
  | x :: a, [], _, _, h => absurd ((h x).1 List.mem_cons_self) (by simp)
  | x :: a, y :: b, ha, hb, h => by
    have ha' := List.pairwise_cons.1 ha
    have hb' := List.pairwise_cons.1 hb
    have hxy : x = y := by
      rcases List.mem_cons.1 ((h x).1 List.mem_cons_self) with e | hx
      · exact e
      · rcases List.mem_cons.1 ((h y).2 List.mem_cons_self) with e | hy
        · exact e.symm
        · have := strLt_trans (hb'.1 x hx) (ha'.1 y hy)
          rw [strLt_irrefl] at this; cases this
    subst hxy
    congr 1
    refine incr_ext ha'.2 hb'.2 fun z => ⟨fun hz => ?_, fun hz => ?_⟩
    · rcases List.mem_cons.1 ((h z).1 (List.mem_cons_of_mem _ hz)) with e | hz'
      · have := ha'.1 z hz
        rw [e, strLt_irrefl] at this; cases this
      · exact hz'
    · rcases List.mem_cons.1 ((h z).2 (List.mem_cons_of_mem _ hz)) with e | hz'
      · have := hb'.1 z hz
        rw [e, strLt_irrefl] at this; cases this
      · exact hz'
theorem skipF_all {d : List (List Term)} {l1 : List Selected} {l2 : List Requirement} {r0 : Release} : ∀ {rs : List Release} {v v' : List Skip}, skipF d l1 l2 r0 v rs = some v' → ∀ r ∈ rs, condR l2 r0 r = true → ∃ t ∈ d, entB (l1 ++ [keyR r]) t = true
  | [], _, _, _, _, hr, _ => nomatch hr
  | r1 :: rs, v, v', h, r, hr, hc => by
    simp only [skipF] at h
    split at h
    · cases v with
      | nil => cases h
      | cons s v =>
        simp only at h
        split at h
        · rename_i hg
          rcases List.mem_cons.1 hr with rfl | hr
          · unfold goodS at hg
            simp only [Bool.and_eq_true, Bool.not_eq_true', Bool.or_eq_false_iff, decide_eq_false_iff_not] at hg
            exact ⟨_, ix_mem ⟨by omega, by omega⟩, hg.2⟩
          · exact skipF_all h r hr hc
        · cases h
    · rename_i hno
      rcases List.mem_cons.1 hr with rfl | hr
      · exact absurd hc hno
      · exact skipF_all h r hr hc
theorem ent_sub {s B : List Selected} (hs : ∀ y ∈ s, y ∈ B) (hn : (B.map (·.path)).Nodup) {t : List Term} (h : entB s t = true) : lHolds t (valS B) := by
  unfold entB at h
  simp only [Bool.and_eq_true, Bool.not_eq_true', List.any_eq_false] at h
  intro z hz
  have h1 := (vB_iff s t).1 h.1 z hz
  have h2 : hasP s z.path = true := by simpa using h.2 z hz
  have e : valS s z.path = valS B z.path := by
    unfold valS
    cases ha : atPath s z.path with
    | none =>
      obtain ⟨y, hy, hyp⟩ := hasP_iff.1 h2
      exact absurd hyp (atPath_none.1 ha y hy)
    | some y =>
      obtain ⟨hy, hyp⟩ := atPath_mem ha
      rw [← hyp, atPath_of hn (hs y hy)]
  rwa [← e]
theorem checkF_false {x : Index} {d : List (List Term)} : ∀ (ys : List Selected) (l1 : List Selected) (l2 : List Requirement) (v : List Skip), (checkF x d l1 l2 ys (v, false)).2 = false
  | [], _, _, _ => rfl
  | y :: ys, l1, l2, v => by
    simp only [checkF]
    cases skipF d l1 l2 (relOf x y) v x.releases with
    | none => exact checkF_false ys _ _ _
    | some v' => rw [Bool.false_and]; exact checkF_false ys _ _ _
theorem checkF_step {x : Index} {d : List (List Term)} {l1 : List Selected} {l2 : List Requirement} {y : Selected} {ys : List Selected} {s : List Skip × Bool} (h : (checkF x d l1 l2 (y :: ys) s).2 = true) :
    ∃ v', skipF d l1 l2 (relOf x y) s.1 x.releases = some v' ∧ (relOf x y).yanked = false ∧ (checkF x d (l1 ++ [y]) (l2 ++ (relOf x y).requirements) ys (v', true)).2 = true := by
  simp only [checkF] at h
  cases e : skipF d l1 l2 (relOf x y) s.1 x.releases with
  | none => rw [e] at h; simp only at h; rw [checkF_false] at h; cases h
  | some v' =>
    rw [e] at h
    simp only at h
    cases hb : (s.2 && !(relOf x y).yanked) with
    | false => rw [hb, checkF_false] at h; cases h
    | true =>
      rw [hb] at h
      simp only [Bool.and_eq_true, Bool.not_eq_true'] at hb
      exact ⟨v', rfl, hb.2, h⟩
theorem checkF_free {x : Index} {d : List (List Term)} : ∀ {ys : List Selected} {l1 : List Selected} {l2 : List Requirement} {s : List Skip × Bool}, (checkF x d l1 l2 ys s).2 = true → ∀ y ∈ ys, (relOf x y).yanked = false
  | [], _, _, _, _, _, hy => nomatch hy
  | z :: ys, l1, l2, s, h, y, hy => by
    obtain ⟨v', _, h2, h3⟩ := checkF_step h
    rcases List.mem_cons.1 hy with rfl | hy
    · exact h2
    · exact checkF_free h3 y hy
theorem FoundP.good {x : Index} {roots : List Requirement} {d : List (List Term)} {sel : List Selected} {skips : List Skip} {ys : List Selected} (h : FoundP x roots d sel skips ys) : Good x roots sel :=
  ⟨h.solves, fun y hy => checkF_free (by rw [h.cert]) y (h.all y hy)⟩
theorem place_first {x : Index} (hx : FewX x) {roots : List Requirement} {B : List Selected} (hg : Good x roots B) {d : List (List Term)} (hd : ∀ t ∈ d, ¬ lHolds t (valS B)) {l1 : List Selected} {l2 : List Requirement} (hI : Inv x roots B l1 l2)
    {yA yB : Selected} (hA : (findK x yA).isSome = true) (hB : yB ∈ B) (hp : yA.path = yB.path) {v v' : List Skip} (hsk : skipF d l1 l2 (relOf x yA) v x.releases = some v') (hne : yA ≠ yB) : (placeOf yA.version).1 < (placeOf yB.version).1 := by
  have kA := relOf_key hA
  have kB := relOf_key (hg.found yB hB)
  have mA := relOf_mem hA
  have mB := relOf_mem (hg.found yB hB)
  refine Int.not_le.1 fun hle => ?_
  have hpp : (relOf x yA).path = (relOf x yB).path := by rw [kA.1, kB.1, hp]
  have eB : keyR (relOf x yB) = yB := by
    unfold keyR
    rw [kB.1, kB.2]
  by_cases heq : (placeOf yB.version).1 = (placeOf yA.version).1
  · have := rel_at (hg.okx.valid hx) mA mB hpp (by rw [kA.2, kB.2]; exact heq.symm)
    apply hne
    have eA : keyR (relOf x yA) = yA := by
      unfold keyR
      rw [kA.1, kA.2]
    rw [← eA, ← eB, this]
  · have hc : condR l2 (relOf x yA) (relOf x yB) = true := by
      unfold condR
      simp only [Bool.and_eq_true, Bool.not_eq_true', Bool.or_eq_false_iff, decide_eq_false_iff_not, ne_eq, Decidable.not_not, List.any_eq_false, not_and, decide_eq_true_eq]
      refine ⟨⟨⟨hpp.symm, hg.free yB hB⟩, by rw [plR, plR, kA.2, kB.2]; omega⟩, fun q hq hqp => ?_⟩
      obtain ⟨y, hy, hyp, hh⟩ := hI.sat q hq
      have : y = yB := inj_of_nodup (fun y : Selected => y.path) hg.incr.nodup y hy yB hB (by show y.path = yB.path; rw [hyp, hqp, kA.1, hp])
      rw [this] at hh
      rw [plR, kB.2, hh]; simp
    obtain ⟨t, ht, he⟩ := skipF_all hsk _ mB hc
    rw [eB] at he
    exact hd t ht (ent_sub (fun y hy => by
      rcases List.mem_append.1 hy with hy | hy
      · exact hI.sub y hy
      · rw [List.mem_singleton.1 hy]; exact hB) hg.incr.nodup he)
theorem lock {x : Index} (hx : FewX x) {roots : List Requirement} {A B : List Selected} (gA : Good x roots A) (gB : Good x roots B) {dA dB : List (List Term)} (hA : ∀ t ∈ dA, ¬ lHolds t (valS B)) (hB : ∀ t ∈ dB, ¬ lHolds t (valS A)) {l1 : List Selected} {l2 : List Requirement} {ysA : List Selected} (h : Steps x A l1 l2 ysA) :
    ∀ (ysB : List Selected) (sA sB : List Skip × Bool), Steps x B l1 l2 ysB → Inv x roots A l1 l2 → Inv x roots B l1 l2 → (checkF x dA l1 l2 ysA sA).2 = true → (checkF x dB l1 l2 ysB sB).2 = true → ysA = ysB := by
  induction h with
  | done hc =>
    intro ysB sA sB hsB _ _ _ _
    cases hsB with
    | done _ => rfl
    | step h1 _ _ => rw [hc] at h1; cases h1
  | @step l1 l2 y ys hc ha _ ih =>
    intro ysB sA sB hsB iA iB cA cB
    cases hsB with
    | done h1 => rw [hc] at h1; cases h1
    | @step _ _ z zs _ hb hsB =>
      obtain ⟨y', k1, k2, k3, k4⟩ := iA.next hx gA.toSolvesP hc
      rw [ha] at k1
      cases k1
      obtain ⟨z', m1, m2, m3, m4⟩ := iB.next hx gB.toSolvesP hc
      rw [hb] at m1
      cases m1
      obtain ⟨vA, a1, _, a3⟩ := checkF_step cA
      obtain ⟨vB, b1, _, b3⟩ := checkF_step cB
      have e : y = z := Classical.byContradiction fun hne => by
        have p1 := place_first hx gB hA iB (gA.found y k2) m2 (k3.trans m3.symm) a1 hne
        have p2 := place_first hx gA hB iA (gB.found z m2) k2 (m3.trans k3.symm) b1 (Ne.symm hne)
        omega
      subst e
      rw [ih zs _ _ hsB k4 m4 a3 b3]
theorem no_refuted {d : List (List Term)} (h : refB d = true) {f : ByteArray → Option Int} (hd : ∀ y ∈ d, ¬ lHolds y f) : False := by
  unfold refB at h
  cases hgl : d.getLast? with
  | none => rw [hgl] at h; cases h
  | some t =>
    rw [hgl] at h
    cases t with
    | cons a b => cases h
    | nil => exact hd [] (List.mem_of_getLast? hgl) fun t ht => (nomatch ht)
theorem unique_ok (x : Index) (roots : List Requirement) (a b : Answer) : m_modcertlaw36_ProofUnique x roots a b = some true := by
  unfold m_modcertlaw36_ProofUnique
  rw [awake_ok, bnd_ok]
  simp only [Bool.not_true, cond_false]
  obtain ⟨c, h1, h2⟩ := few_ok x roots
  rw [h1, bnd_ok]
  cases c with
  | false => rw [gd_no (by simp), bnd_ok, gd_no (by simp), bnd_ok, gd_no (by simp), bnd_ok, gd_no (by simp), bnd_ok]; rfl
  | true =>
    obtain ⟨hx, hr⟩ := h2 rfl
    obtain ⟨sa, ha1, ha2⟩ := small_ok a
    rw [gd_ok (by rfl), ha1, bnd_ok]
    cases sa with
    | false => rw [gd_no (by simp), bnd_ok, gd_no (by simp), bnd_ok, gd_no (by simp), bnd_ok]; rfl
    | true =>
      obtain ⟨sb, hb1, hb2⟩ := small_ok b
      rw [gd_ok (by rfl), hb1, bnd_ok]
      cases sb with
      | false => rw [gd_no (by simp), bnd_ok, gd_no (by simp), bnd_ok]; rfl
      | true =>
        obtain ⟨la1, la2, la3⟩ := ha2 rfl
        obtain ⟨lb1, lb2, lb3⟩ := hb2 rfl
        obtain ⟨ca, hca, ka⟩ := Check_ok hx hr (a := a) (by omega) (by omega)
        rw [gd_ok (by rfl), hca, bnd_ok]
        by_cases h0 : ca = 0
        · obtain ⟨cb, hcb, kb⟩ := Check_ok hx hr (a := b) (by omega) (by omega)
          rw [show ((((!true) || (!true)) || (!true)) || (decide (ca ≠ 0))) = false by simpa using h0, gd_ok rfl, hcb, bnd_ok]
          by_cases h00 : cb = 0
          · rw [show (false || (decide (cb ≠ 0))) = false by simpa using h00, cond_false]
            obtain ⟨hin, dA, hdA, cA⟩ := ka h0
            obtain ⟨_, dB, hdB, cB⟩ := kb h00
            suffices h : a.found = b.found ∧ a.selection = b.selection by
              rw [h.1, h.2, decide_eq_true rfl, gd_ok rfl, EQ_Selected_Selected, decide_eq_true rfl]; rfl
            rcases cA with ⟨fA, sA, rA⟩ | ⟨fA, ysA, pA⟩
            · rcases cB with ⟨fB, sB, rB⟩ | ⟨fB, ysB, pB⟩
              · exact ⟨fA.trans fB.symm, sA.trans sB.symm⟩
              · exact (no_refuted rA (der_sound hx pB.good _ [] dA (fun _ h => (nomatch h)) hdA)).elim
            · rcases cB with ⟨fB, sB, rB⟩ | ⟨fB, ysB, pB⟩
              · exact (no_refuted rB (der_sound hx pA.good _ [] dB (fun _ h => (nomatch h)) hdB)).elim
              · refine ⟨fA.trans fB.symm, ?_⟩
                have e := lock hx pA.good pB.good (der_sound hx pB.good _ [] dA (fun _ h => (nomatch h)) hdA) (der_sound hx pA.good _ [] dB (fun _ h => (nomatch h)) hdB) pA.steps ysB _ _ pB.steps (Inv.start hr pA.solves) (Inv.start hr pB.solves) (by rw [pA.cert]) (by rw [pB.cert])
                exact incr_ext pA.solves.incr pB.solves.incr fun y => ⟨fun hy => pB.sub y (e ▸ pA.all y hy), fun hy => pA.sub y (e ▸ pB.all y hy)⟩
          · rw [show (false || (decide (cb ≠ 0))) = true by simpa using h00]; rfl
        · rw [show ((((!true) || (!true)) || (!true)) || (decide (ca ≠ 0))) = true by simpa using h0, gd_no (by simp), bnd_ok]; rfl
end Go.Mp
namespace Go.Mp
open Go
def plOf (s : List Selected) (p : ByteArray) : Int := match atPath s p with
  | some y => (placeOf y.version).1
  | none => -1
theorem place_ok (s : List Selected) (p : ByteArray) : m_modcertlaw36_place s p = some (plOf s p) := by
  unfold m_modcertlaw36_place
  rw [joinM_eq]
  have h := forK_eq s (fun (_ : Unit) (y : Selected) k => if decide (y.path = p) then some ((placeOf y.version).1) else k ()) (fun _ => some (-1 : Int)) (fun n _ i => m_modcertlaw36_place_L2 s p (fun _ => some (-1 : Int)) n i) (fun n _ i => by
    simp only [m_modcertlaw36_place_L2]
    cases decide ((i : Int) < (s.length : Int)) with
    | false => rfl
    | true =>
      simp only [cond_true]
      cases decide ((ix s (i : Int)).path = p) <;> rfl) (s.length + 1) () 0 (Nat.zero_le _) (by omega)
  have h : m_modcertlaw36_place_L2 s p (fun _ => some (-1 : Int)) (s.length + 1) 0 = _ := h
  rw [h, List.drop_zero, forK_find (fun y : Selected => decide (y.path = p)) (fun y => (placeOf y.version).1) fun r _ s k => rfl]
  unfold plOf atPath
  cases s.find? fun y => decide (y.path = p) <;> rfl
def firstBody (A B : List Selected) (_ : Unit) (p : ByteArray) (k : Unit → Option Bool) : Option Bool :=
  if decide (plOf A p ≠ plOf B p) then some ((decide (0 ≤ plOf A p)) && (decide (plOf A p < plOf B p))) else k ()
theorem first_walk {x : Index} (hx : FewX x) {roots : List Requirement} {A B : List Selected} (gA : Good x roots A) (gB : Good x roots B) {dA : List (List Term)} (hA : ∀ t ∈ dA, ¬ lHolds t (valS B)) {l1 : List Selected} {l2 : List Requirement} {ysA : List Selected} (h : Steps x A l1 l2 ysA) :
    ∀ (sA : List Skip × Bool) (K : Option Bool), Inv x roots A l1 l2 → Inv x roots B l1 l2 → (checkF x dA l1 l2 ysA sA).2 = true → ((∀ y ∈ ysA, y ∈ B) → K = some true) → forK (firstBody A B) (fun _ => K) (ysA.map (·.path)) () = some true := by
  induction h with
  | done hc => intro sA K _ _ _ hK; exact hK fun _ h => (nomatch h)
  | @step l1 l2 y ys hc ha _ ih =>
    intro sA K iA iB cA hK
    obtain ⟨y', k1, k2, k3, k4⟩ := iA.next hx gA.toSolvesP hc
    rw [ha] at k1
    cases k1
    obtain ⟨z, m1, m2, m3, m4⟩ := iB.next hx gB.toSolvesP hc
    obtain ⟨vA, a1, _, a3⟩ := checkF_step cA
    have hpA : plOf A y.path = (placeOf y.version).1 := by unfold plOf; rw [atPath_of gA.incr.nodup k2]
    have hpz : y.path = z.path := k3.trans m3.symm
    have hpB : plOf B y.path = (placeOf z.version).1 := by unfold plOf; rw [hpz, atPath_of gB.incr.nodup m2]
    show firstBody A B () y.path (forK (firstBody A B) (fun _ => K) (ys.map (·.path))) = _
    unfold firstBody
    rw [hpA, hpB]
    by_cases e : y = z
    · subst e
      rw [if_neg (by simp)]
      refine ih _ _ k4 m4 a3 fun hall => hK fun w hw => ?_
      rcases List.mem_cons.1 hw with rfl | hw
      · exact m2
      · exact hall w hw
    · have p1 := place_first hx gB hA iB (gA.found y k2) m2 hpz a1 e
      have p0 := (placeOf_bound y.version).1
      rw [if_pos (by simp; omega), decide_eq_true p0, decide_eq_true p1]
      rfl
theorem steps_same {x : Index} {sel l1 : List Selected} {l2 : List Requirement} {ys : List Selected} (h : Steps x sel l1 l2 ys) : ∀ {zs : List Selected}, Steps x sel l1 l2 zs → ys = zs := by
  induction h with
  | done hc =>
    intro zs h
    cases h with
    | done _ => rfl
    | step h1 _ _ => rw [hc] at h1; cases h1
  | step hc ha _ ih =>
    intro zs h
    cases h with
    | done h1 => rw [hc] at h1; cases h1
    | step _ hb h =>
      rw [ha] at hb
      cases hb
      rw [ih h]
theorem first_ok (x : Index) (roots : List Requirement) (a : Answer) (s : List Selected) : m_modcertlaw36_ProofFirst x roots a s = some true := by
  unfold m_modcertlaw36_ProofFirst
  rw [awake_ok, bnd_ok]
  simp only [Bool.not_true, cond_false]
  obtain ⟨c, h1, h2⟩ := few_ok x roots
  rw [h1, bnd_ok]
  cases c with
  | false => rw [gd_no (by simp), bnd_ok, gd_no (by simp), bnd_ok, gd_no (by simp), bnd_ok]; rfl
  | true =>
    obtain ⟨hx, hr⟩ := h2 rfl
    obtain ⟨sa, ha1, ha2⟩ := small_ok a
    rw [gd_ok (by rfl), ha1, bnd_ok]
    cases sa with
    | false => rw [gd_no (by simp), bnd_ok, gd_no (by simp), bnd_ok]; rfl
    | true =>
      obtain ⟨la1, la2, la3⟩ := ha2 rfl
      by_cases hs : (16 : Int) < s.length
      · rw [decide_eq_true hs, gd_no (by simp), bnd_ok, gd_no (by simp), bnd_ok]; rfl
      rw [decide_eq_false hs]
      obtain ⟨ca, hca, ka⟩ := Check_ok hx hr (a := a) (by omega) (by omega)
      rw [gd_ok (by rfl), hca, bnd_ok]
      by_cases h0 : ca = 0
      · obtain ⟨b, hb1, hb2⟩ := available1_ok hx hr (s := s) (by omega)
        rw [show ((((!true) || (!true)) || false) || (decide (ca ≠ 0))) = false by simpa using h0, gd_ok rfl, hb1, bnd_ok]
        cases b with
        | false => rfl
        | true =>
          have gB := hb2 rfl
          obtain ⟨hin, dA, hdA, cA⟩ := ka h0
          have hdA' := der_sound hx gB _ [] dA (fun _ h => (nomatch h)) hdA
          rcases cA with ⟨fA, sA, rA⟩ | ⟨fA, ysA, pA⟩
          · exact (no_refuted rA hdA').elim
          · simp only [Bool.not_true, Bool.or_self, cond_false]
            obtain ⟨ys, q1, q2, q3, q4, q5⟩ := Decisions_ok hx hr hin (sel := a.selection) (by omega) pA.solves
            have hys : ysA = ys := by
              exact steps_same pA.steps q1
            subst hys
            rw [q5, bnd_ok, fA]
            have hlen : (decide (((ysA.map (·.path)).length : Int) ≠ (a.selection.length : Int))) = false := by
              have l1 := nodup_le (a := ysA.map (·.path)) (b := a.selection.map (·.path)) q4 fun z hz => by
                obtain ⟨y, hy, rfl⟩ := List.mem_map.1 hz
                exact List.mem_map_of_mem (f := fun y : Selected => y.path) (q3 y hy)
              have l2 := nodup_le (a := a.selection.map (·.path)) (b := ysA.map (·.path)) pA.solves.incr.nodup fun z hz => by
                obtain ⟨y, hy, rfl⟩ := List.mem_map.1 hz
                exact List.mem_map_of_mem (f := fun y : Selected => y.path) (q2 y hy)
              simp only [List.length_map] at l1 l2
              simp only [List.length_map, ne_eq, decide_eq_false_iff_not, Decidable.not_not]
              omega
            simp only
            rw [hlen]
            simp only [Bool.not_true, ne_eq, not_true_eq_false, decide_false, Bool.or_self, cond_false]
            rw [joinM_eq]
            have h := forK_eq (ysA.map (·.path)) (firstBody a.selection s) (fun _ => bnd (m_slices_Equal_Selected_Selected a.selection s) fun x7 => some x7) (fun n _ i => m_modcertlaw36_ProofFirst_L2 (ysA.map (·.path), 0) a s (fun _ => bnd (m_slices_Equal_Selected_Selected a.selection s) fun x7 => some x7) n i) (fun n _ i => by
              simp only [m_modcertlaw36_ProofFirst_L2, place_ok, bnd_ok]
              cases decide ((i : Int) < ((ysA.map (·.path)).length : Int)) with
              | false => rfl
              | true =>
                simp only [cond_true]
                unfold firstBody
                cases decide (plOf a.selection (ix (ysA.map (·.path)) (i : Int)) ≠ plOf s (ix (ysA.map (·.path)) (i : Int))) <;> rfl) ((ysA.map (·.path)).length + 1) () 0 (Nat.zero_le _) (by omega)
            refine Eq.trans h ?_
            rw [List.drop_zero]
            refine first_walk hx pA.good gB hdA' pA.steps (a.skips, true) _ (Inv.start hr pA.solves) (Inv.start hr gB.toSolvesP) (by rw [pA.cert]) fun hall => ?_
            have hsub : ∀ y ∈ a.selection, y ∈ s := fun y hy => hall y (q2 y hy)
            have hback : ∀ y ∈ s, y ∈ a.selection := by
              have key : ∀ y ∈ s, hasP a.selection y.path = true → y ∈ a.selection := fun y hy hp => by
                obtain ⟨z, hz, hzp⟩ := hasP_iff.1 hp
                have : z = y := inj_of_nodup (fun y : Selected => y.path) gB.incr.nodup z (hsub z hz) y hy hzp
                rw [← this]; exact hz
              have := gB.reach (fun p => hasP a.selection p = true) (fun q hq => by
                obtain ⟨z, hz, hzp, _⟩ := pA.solves.sat q hq
                exact hasP_iff.2 ⟨z, hz, hzp⟩) fun y hy hp q hq => by
                  obtain ⟨z, hz, hzp, _⟩ := pA.solves.satR y (key y hy hp) q hq
                  exact hasP_iff.2 ⟨z, hz, hzp⟩
              exact fun y hy => key y hy (this y hy)
            rw [EQ_Selected_Selected, incr_ext pA.solves.incr gB.incr fun y => ⟨hsub y, hback y⟩, decide_eq_true rfl]
            rfl
      · rw [show ((((!true) || (!true)) || false) || (decide (ca ≠ 0))) = true by simpa using h0, gd_no (by simp), bnd_ok]; rfl
end Go.Mp
namespace Go.Mp
open Go
theorem skipF_app {d : List (List Term)} {l1 : List Selected} {l2 : List Requirement} {r0 : Release} (w : List Skip) : ∀ {rs : List Release} {v v' : List Skip}, skipF d l1 l2 r0 v rs = some v' → skipF d l1 l2 r0 (v ++ w) rs = some (v' ++ w)
  | [], v, v', h => by cases h; rfl
  | r :: rs, v, v', h => by
    simp only [skipF] at h ⊢
    split at h
    · rename_i hc
      rw [if_pos hc]
      cases v with
      | nil => cases h
      | cons s v =>
        simp only [List.cons_append] at h ⊢
        split at h
        · rename_i hg
          rw [if_pos hg]
          exact skipF_app w h
        · cases h
    · rename_i hc
      rw [if_neg hc]
      exact skipF_app w h
theorem checkF_app {x : Index} {d : List (List Term)} (w : List Skip) : ∀ {ys : List Selected} {l1 : List Selected} {l2 : List Requirement} {v v' : List Skip}, checkF x d l1 l2 ys (v, true) = (v', true) → checkF x d l1 l2 ys (v ++ w, true) = (v' ++ w, true)
  | [], _, _, v, v', h => by cases h; rfl
  | y :: ys, l1, l2, v, v', h => by
    obtain ⟨v1, h1, h2, h3⟩ := checkF_step (by rw [h])
    simp only [checkF] at h ⊢
    rw [h1] at h
    rw [skipF_app w h1]
    simp only [h2, Bool.not_false, Bool.and_true] at h ⊢
    exact checkF_app w h
theorem Check_codes {x : Index} (hx : FewX x) {roots : List Requirement} (hr : FewR roots) {a : Answer} (h1 : a.inferences.length ≤ 401) (h2 : a.selection.length ≤ 1000) (hin : Okin x roots) {c : Int} (h : m_proof_Check x roots a = some c) : c = 0 ∨ c = 18 := by
  unfold m_proof_Check at h
  rcases newChecker_ok hx hr h1 with ⟨hn, _⟩ | ⟨_, hk⟩
  · exact absurd hin hn
  rw [hk, bnd_ok] at h
  cases hd : derFrom x roots [] a.inferences with
  | none => rw [hd] at h; cases h; exact .inr rfl
  | some d =>
    have hdl := der_len0 _ _ _ hd
    rw [List.length_nil] at hdl
    rw [hd] at h
    simp only at h
    rw [show (decide ((0 : Int) ≠ 0)) = false from rfl, cond_false] at h
    cases hf : a.found with
    | false =>
      rw [hf] at h
      simp only [Bool.not_false, cond_true] at h
      rw [chk_ok (fun _ => by rfl)] at h
      simp only [Option.getD_some] at h
      rw [refuted_ok x roots d (by omega)] at h
      by_cases hc : ((decide (0 < (a.selection.length : Int))) || (decide (0 < (a.skips.length : Int)))) = false
      · rw [gd_ok hc, bnd_ok, hc, Bool.false_or] at h
        cases href : refB d with
        | false => rw [href] at h; cases h; exact .inr rfl
        | true => rw [href] at h; cases h; exact .inl rfl
      · rw [gd_no hc, bnd_ok] at h
        simp only [Bool.not_eq_false] at hc
        rw [hc] at h
        cases h; exact .inr rfl
    | true =>
      rw [hf] at h
      simp only [Bool.not_true, cond_false] at h
      obtain ⟨c', hc1, hc2⟩ := solves_ok hx hr h2
      rw [hc1, bnd_ok] at h
      by_cases hc : c' = 0
      · have hs := hc2 hc
        obtain ⟨ys, k1, k2, k3⟩ := steps_ex hx hs a.selection.length [] roots (Inv.start hr hs) (by simp)
        simp only [List.nil_append] at k2 k3
        have hyl : ys.length ≤ a.selection.length := k3.len
        rw [show (decide (c' ≠ 0)) = false by simpa using hc, cond_false, chk_ok (by rfl)] at h
        simp only [Option.getD_some, m_proof_checker_decide_proof_Check_1, m_slices_Clone_Requirement_Requirement] at h
        rw [chk_ok (by have := hr.len; omega), bnd_ok] at h
        obtain ⟨N, hN⟩ : ∃ N : Nat, N = 100000 := ⟨_, rfl⟩
        have := decC_ok hx h2 hs d k1 N (a.skips, true) (Inv.start hr hs) (by omega)
        rw [← hN, this, bnd_ok] at h
        cases hb : ((!(checkF x d [] roots ys (a.skips, true)).2) || (decide (0 < ((checkF x d [] roots ys (a.skips, true)).1.length : Int)))) with
        | true => rw [hb] at h; cases h; exact .inr rfl
        | false => rw [hb] at h; cases h; exact .inl rfl
      · rw [show (decide (c' ≠ 0)) = true by simpa using hc, cond_true] at h
        cases h; exact .inr rfl
theorem tampers_ok (x : Index) (roots : List Requirement) (a : Answer) (n : Int) (ver : Version) (hn : (Lit.int .u8 n).wf = true) : m_modcertlaw36_ProofTampers x roots a n ver = some true := by
  have hn' : 0 ≤ n ∧ n ≤ 255 := by simpa [Lit.wf, IntKind.min, IntKind.max, IntKind.signed, IntKind.bits] using hn
  unfold m_modcertlaw36_ProofTampers
  rw [awake_ok, bnd_ok]
  simp only [Bool.not_true, cond_false]
  obtain ⟨c, h1, h2⟩ := few_ok x roots
  rw [h1, bnd_ok]
  cases c with
  | false => rw [gd_no (by simp), bnd_ok, gd_no (by simp), bnd_ok]; rfl
  | true =>
    obtain ⟨hx, hr⟩ := h2 rfl
    obtain ⟨sa, ha1, ha2⟩ := small_ok a
    rw [gd_ok (by rfl), ha1, bnd_ok]
    cases sa with
    | false => rw [gd_no (by simp), bnd_ok]; rfl
    | true =>
      obtain ⟨la1, la2, la3⟩ := ha2 rfl
      obtain ⟨ca, hca, ka⟩ := Check_ok hx hr (a := a) (by omega) (by omega)
      rw [gd_ok (by rfl), hca, bnd_ok]
      by_cases h0 : ca = 0
      · obtain ⟨hin, d, hd, cA⟩ := ka h0
        rcases cA with ⟨fA, sA, rA⟩ | ⟨fA, ys, pA⟩
        · rw [fA]; simp
        · rw [show ((((!true) || (!true)) || (decide (ca ≠ 0))) || (!a.found)) = false by rw [fA]; simpa using h0, cond_false]
          simp only [m_slices_Clone_Skip_Skip]
          rw [chk_ok (by omega), bnd_ok, chk_ok (by simp only [List.length_singleton]; omega)]
          -- one skip more, one skip less, another version: none of them is right
          have more : ∀ w : List Skip, w ≠ [] → ∀ (v : List Skip), (∃ ys', FoundP x roots d a.selection (v ++ w) ys') → ¬ ∃ ys', FoundP x roots d a.selection v ys' := fun w hw v ⟨ys1, p1⟩ ⟨ys2, p2⟩ => by
            have e := steps_same p1.steps p2.steps
            subst e
            have := checkF_app w p2.cert
            rw [p1.cert] at this
            simp only [Prod.mk.injEq, List.nil_append] at this
            exact hw this.1.symm
          have bad : ∀ b : Answer, b.inferences = a.inferences → b.found = true → b.selection.length ≤ 1000 → (¬ ∃ ys', FoundP x roots d b.selection b.skips ys') → m_proof_Check x roots b = some 18 := fun b hb1 hb2 hb3 hb4 => by
            obtain ⟨c, hc, kc⟩ := Check_ok hx hr (a := b) (by rw [hb1]; omega) hb3
            rcases Check_codes hx hr (by rw [hb1]; omega) hb3 hin hc with e | e
            · obtain ⟨_, d', hd', cB⟩ := kc e
              rw [hb1, hd] at hd'
              cases hd'
              rcases cB with ⟨fB, _⟩ | ⟨_, ys', p⟩
              · rw [hb2] at fB; cases fB
              · exact absurd ⟨ys', p⟩ hb4
            · rw [hc, e]
          rw [bad ⟨a.found, a.selection, a.inferences, a.skips ++ [_]⟩ rfl fA (by show a.selection.length ≤ 1000; omega) fun h => more [_] (by simp) a.skips h ⟨ys, pA⟩, bnd_ok]
          simp only [ne_eq, not_true_eq_false, decide_false, cond_false]
          rw [joinM_eq]
          have rest : (bif (decide ((a.selection.length : Int) = 0)) then some true
  else chk ((a.selection.length : Int) ≠ 0) <| bnd (m_slices_Clone_Selected_Selected a.selection) fun x7 => chk (0 ≤ (Int.tmod (IntKind.wrap .i64 n) (a.selection.length : Int)) ∧ (Int.tmod (IntKind.wrap .i64 n) (a.selection.length : Int)) < (x7.length : Int)) <| chk (0 ≤ (Int.tmod (IntKind.wrap .i64 n) (a.selection.length : Int)) ∧ (Int.tmod (IntKind.wrap .i64 n) (a.selection.length : Int)) < (a.selection.length : Int)) <| bnd (gd ((decide (ver = ((ix a.selection ((Int.tmod (IntKind.wrap .i64 n) (a.selection.length : Int))))).version)) = false) (m_proof_Check x roots ((⟨a.found, (x7.set ((Int.tmod (IntKind.wrap .i64 n) (a.selection.length : Int))).toNat ((⟨((ix x7 ((Int.tmod (IntKind.wrap .i64 n) (a.selection.length : Int))))).path, ver⟩ : Selected))), a.inferences, a.skips⟩ : Answer)))) fun x8 => some (((decide (ver = ((ix a.selection ((Int.tmod (IntKind.wrap .i64 n) (a.selection.length : Int))))).version)) || (decide (x8 = 18))))) = some true := by
            by_cases hl : (a.selection.length : Int) = 0
            · rw [decide_eq_true hl]; rfl
            rw [decide_eq_false hl, cond_false, chk_ok hl]
            have hwr : IntKind.wrap .i64 n = n := by simp [IntKind.wrap, IntKind.signed, IntKind.bits]; omega
            rw [hwr]
            obtain ⟨k, hk, hkl⟩ : ∃ k : Nat, Int.tmod n (a.selection.length : Int) = k ∧ k < a.selection.length := by
              rw [Int.tmod_eq_emod_of_nonneg hn'.1]
              have h1 := Int.emod_nonneg n hl
              have h2 := Int.emod_lt_of_pos n (show 0 < (a.selection.length : Int) by omega)
              exact ⟨(n % (a.selection.length : Int)).toNat, by omega, by omega⟩
            rw [hk]
            simp only [m_slices_Clone_Selected_Selected]
            rw [chk_ok (by omega), bnd_ok, chk_ok (by omega), chk_ok (by omega)]
            by_cases hv : ver = (ix a.selection (k : Int)).version
            · rw [decide_eq_true hv, gd_no (by simp), bnd_ok]; rfl
            · rw [decide_eq_false hv, gd_ok rfl, bad ⟨a.found, a.selection.set ((k : Int)).toNat ⟨(ix a.selection (k : Int)).path, ver⟩, a.inferences, a.skips⟩ rfl fA (by show (a.selection.set _ _).length ≤ 1000; rw [List.length_set]; omega) ?_, bnd_ok]
              · rfl
              · rintro ⟨zs, pB⟩
                have pB : FoundP x roots d (a.selection.set k ⟨(ix a.selection (k : Int)).path, ver⟩) a.skips zs := pB
                have sA := der_sound hx pA.good _ [] d (fun _ h => (nomatch h)) hd
                have sB := der_sound hx pB.good _ [] d (fun _ h => (nomatch h)) hd
                have e := lock hx pA.good pB.good sB sA pA.steps zs _ _ pB.steps (Inv.start hr pA.solves) (Inv.start hr pB.solves) (by rw [pA.cert]) (by rw [pB.cert])
                have hmem : ∀ y, y ∈ a.selection.set k ⟨(ix a.selection (k : Int)).path, ver⟩ → y ∈ a.selection := fun y hy => pA.sub y (e ▸ pB.all y hy)
                have h3 := hmem ⟨(ix a.selection (k : Int)).path, ver⟩ (List.mem_iff_getElem.2 ⟨k, by rw [List.length_set]; exact hkl, by simp⟩)
                have h4 := ix_memN (xs := a.selection) hkl
                have := inj_of_nodup (fun y : Selected => y.path) pA.solves.incr.nodup _ h3 _ h4 rfl
                apply hv
                rw [← this]
          by_cases hsk : (0 : Int) < a.skips.length
          · rw [decide_eq_true hsk, cond_true, chk_ok (by omega), chk_ok (by omega)]
            obtain ⟨w, s, hws⟩ : ∃ w s, a.skips = w ++ [s] := by
              have hne : a.skips ≠ [] := List.length_pos_iff.1 (by omega)
              exact ⟨_, _, (List.dropLast_concat_getLast hne).symm⟩
            have htk : (a.skips.take (((a.skips.length : Int) - 1)).toNat).drop (0 : Int).toNat = w := by
              have : (((a.skips.length : Int) - 1)).toNat = w.length := by rw [hws, List.length_append, List.length_singleton]; omega
              rw [this, hws]
              show List.drop 0 _ = w
              rw [List.drop_zero, List.take_left' rfl]
            rw [htk, bad ⟨a.found, a.selection, a.inferences, w⟩ rfl fA (by show a.selection.length ≤ 1000; omega) (more [s] (by simp) w ⟨ys, by rw [← hws]; exact pA⟩), bnd_ok]
            simp only [ne_eq, not_true_eq_false, decide_false, cond_false]
            exact rest
          · rw [decide_eq_false hsk, cond_false]
            exact rest
      · rw [show ((((!true) || (!true)) || (decide (ca ≠ 0))) || (!a.found)) = true by simp [h0]]; rfl
end Go.Mp
