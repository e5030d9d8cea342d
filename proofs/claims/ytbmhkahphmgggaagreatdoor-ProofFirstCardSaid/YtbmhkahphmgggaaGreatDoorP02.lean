/- Part 2 of the proof of tampers_ok: plain theorems, kept by a program out of the prover's own texts. No conditions. -/
import Derived.Test.YtbmhkahphmgggaaGreatDoorP01
import Derived.Laws.BytesString
import Derived.HandedShaped
import Derived.ProofKit
import Derived.LaidMore
import Derived.OpenShut
import Derived.WideKeyArgs
import Derived.Shelf.Vars
import Derived.Test.YtbmhkahphmgggaaGreatDoorTie
import Derived.Stop.Joined
import Derived.LaidOnce
import Derived.Lay
import Derived.SevenTiedAt
import Derived.Test.YtbmhkahphmgggaaGreatDoorCards
import Derived.Test.YtbmhkahphmgggaaGreatDoorProg
import Derived.Lib.Split
import Derived.Lib.SplitLaws
import Derived.Lib.CutLaws
import Derived.Lib.LastIndexByte
import Derived.Lib.IndexBytes
import Derived.Shelf.Small.Bits
import Derived.Shelf.Small.Strs
import Derived.Shelf.Small.Wraps
import Derived.Shelf.Strconv.Itoa0
import Derived.Shelf.Strings.Search1
import Derived.Shelf.Strings.Search2
import Derived.Shelf.Strings.Search3
import Derived.Shelf.Strings.Count
import Derived.Shelf.LaysM
import Derived.Shelf.Strings.Shaped
import Derived.Shelf.Sort.Plain
import Derived.Shelf.Strings.LastIndex
import Derived.Shelf.Strings.LastIndexAll
import Derived.Shelf.Strings.Prefix
import Derived.Shelf.Strings.Split
import Derived.Shelf.Unicode.DecodeSlow
import Derived.Shelf.Slices.In.SortNone
set_option linter.unusedVariables false
set_option linter.unusedSimpArgs false
set_option linter.unusedSectionVars false
namespace Go.Mp
open Go
set_option linter.unusedVariables false
set_option linter.unusedSimpArgs false
theorem succ_of {ρ : Type} {f : Nat → Option ρ} {n : Nat} {r : ρ} (h0 : f 0 = none) (h : f n = some r) : ∃ m, n = m + 1 := by
  cases n with
  | zero => rw [h0] at h; cases h
  | succ m => exact ⟨m, rfl⟩
abbrev pF1 {α β : Type} (P : Program) (f : α → Option β) (pa : α → Pred) (pb : β → Pred) : Pred := pFun P (fun x : {x : α × β // f x.1 = some x.2} => [pa x.1.1]) (fun x => pb x.1.2)
def pSh {α : Type} [Enc α] (r : OS) (xs : List α) : Pred := ⟨fun v S => (pOwn r xs).holds v S ∧ (pSl xs).holds v S, fun hS h => ⟨(pOwn r xs).mono hS h.1, (pSl xs).mono hS h.2⟩⟩
instance {α : Type} [Enc α] (r : OS) (xs : List α) : One (pSh r xs) := ⟨fun v S h => One.one v S h.2⟩
section
variable {P : Program} {o : Oper} {E : Env} {A : List HP} {R : Pred} {B : Base} {S : Store} {W : World} {n : Nat} {ops : Array Oper} {Q : Exit → Act → World → Prop}
theorem Lk.shSl {α : Type} [Enc α] {x : Operand} {r : OS} {xs : List α} (h : Lk E x (pSh r xs)) : Lk E x (pSl xs) := h.imp fun _ _ h => h.2
theorem Lk.shOwn {α : Type} [Enc α] {x : Operand} {r : OS} {xs : List α} (h : Lk E x (pSh r xs)) : Lk E x (pOwn r xs) := h.imp fun _ _ h => h.1
theorem Sat.share {α : Type} [Enc α] {g : Bool} {k : Nat} {T : TypeId} {r : OS} {xs : List α} (hs : Sat B S A W) (hk : nth A k = some (hRow g T r xs)) :
    ∃ S', S.le S' ∧ Sat B S' (A.set k (hGrow T r xs)) W ∧ ∀ v, (pOwn r xs).holds v S → (pSl xs).holds v S' := by
  obtain ⟨A1, A2, hAe, hlA⟩ := own_split hk
  have hset : A.set k (hGrow T r xs) = A1 ++ hGrow T r xs :: A2 := by
    rw [hAe]; subst hlA
    rw [List.set_append_right _ _ (Nat.le_refl _)]
    simp
  have hno : (A1 ++ hGrow T r xs :: A2).filterMap HP.blk = A.filterMap HP.blk := by
    rw [hAe, List.filterMap_append, List.filterMap_append]
    congr 1
  rw [hset]
  have hmem : ∀ y, y ∈ A1 ∨ y ∈ A2 → y ∈ A := fun y hy => by
    rw [hAe]
    rcases hy with hy | hy
    · exact List.mem_append.2 (.inl hy)
    · exact List.mem_append.2 (.inr (List.mem_cons_of_mem _ hy))
  have hcase : ∀ y, y ∈ A1 ++ hGrow T r xs :: A2 → y = hGrow T r xs ∨ (y ∈ A1 ∨ y ∈ A2) := fun y hy => by
    rcases List.mem_append.1 hy with hy | hy
    · exact .inr (.inl hy)
    · rcases List.mem_cons.1 hy with hy | hy
      · exact .inl hy
      · exact .inr (.inr hy)
  cases r with
  | nil =>
    refine ⟨S, Store.le.refl _, ⟨hs.os, hs.tape, hs.output, hs.base, hs.agreeS, hs.agreeF, hs.sepF, fun y hy c hyc => ?_, by rw [hno]; exact hs.nodup⟩, fun v hv => ?_⟩
    · rcases hcase y hy with rfl | hy
      · cases hyc
      · exact hs.own y (hmem y hy) c hyc
    · obtain ⟨rfl, rfl⟩ := hv
      exact pSl.nil S
  | «at» b cp =>
    obtain ⟨o, g1, ⟨b', c', cur, g2, g3, g4, g5, g6, g7⟩, gk, gF⟩ := hs.own _ (mem_nth hk) b rfl
    cases g2; subst g3
    have hlt : xs.length * Enc.n α ≤ cur.size := by rw [g4]; exact Nat.mul_le_mul_right _ g5
    let pc : Array Value := (cur.toList.take (xs.length * Enc.n α)).toArray
    have hps : pc.size = xs.length * Enc.n α := by simp [pc]; omega
    have hpg : ∀ (j : Nat) (v : Value), pc[j]? = some v → cur[j]? = some v := fun j v hv => by
      have hj : j < xs.length * Enc.n α := by rw [← hps]; exact (Array.getElem?_eq_some_iff.1 hv).1
      simpa [pc, List.getElem?_take, hj] using hv
    have hpp : ∀ (j : Nat) (v : Value), j < xs.length * Enc.n α → cur[j]? = some v → pc[j]? = some v := fun j v hj hv => by
      simpa [pc, List.getElem?_take, hj] using hv
    have hle : S.le (fun d => if d = b then some (.cells pc T (0, 0)) else S d) := fun d ob hd => by
      show ∃ o', (if d = b then some (Obj.cells pc T (0, 0)) else S d) = some o' ∧ OPre ob o'
      by_cases e : d = b
      · subst e
        obtain ⟨_, qc, rfl, q2⟩ := gk ob hd
        refine ⟨_, if_pos rfl, pc, rfl, fun j v hv => ?_⟩
        have hj : j < qc.size := (Array.getElem?_eq_some_iff.1 hv).1
        obtain ⟨o1, k1, c1, k2, k3⟩ := hs.agreeS d _ hd
        rw [g1] at k1; cases k1; cases k2
        exact hpp j v (by omega) (k3 j v hv)
      · exact ⟨ob, by rw [if_neg e]; exact hd, OPre.refl ob⟩
    refine ⟨_, hle, ⟨hs.os, hs.tape, hs.output, hs.base.trans hle, fun d ob hd => ?_, hs.agreeF, fun d ob hd => ?_, fun y hy d hyd => ?_, by rw [hno]; exact hs.nodup⟩, fun v hv => ?_⟩
    · by_cases e : d = b
      · subst e
        rw [if_pos rfl] at hd; cases hd
        exact ⟨_, g1, cur, rfl, hpg⟩
      · rw [if_neg e] at hd; exact hs.agreeS d ob hd
    · show (if d = b then some (Obj.cells pc T (0, 0)) else S d) = _
      rw [if_neg (fun e => by rw [e, gF] at hd; cases hd)]; exact hs.sepF d ob hd
    · rcases hcase y hy with rfl | hy2
      · cases hyd
        refine ⟨_, g1, ⟨b, cp, cur, rfl, rfl, g4, g5, g6, g7.mono hle⟩, fun p hp => ?_, gF⟩
        have hp : (if b = b then some (Obj.cells pc T (0, 0)) else S b) = some p := hp
        rw [if_pos rfl] at hp; cases hp
        exact ⟨rfl, pc, rfl, by rw [hps]; exact Nat.le_refl _⟩
      · obtain ⟨ob, k1, k2, k3, k4⟩ := hs.own y (hmem y hy2) d hyd
        refine ⟨ob, k1, y.mono hle k2, fun p hp => ?_, k4⟩
        have hp : (if d = b then some (Obj.cells pc T (0, 0)) else S d) = some p := hp
        rw [if_neg] at hp
        · exact k3 p hp
        · intro e
          subst e
          have hn := hs.nodup
          rw [hAe, List.filterMap_append, List.filterMap_cons_some (show (hRow g T (.at d cp) xs).blk = some d from rfl), List.nodup_append] at hn
          rcases hy2 with hy2 | hy2
          · exact hn.2.2 d (List.mem_filterMap.2 ⟨y, hy2, hyd⟩) d List.mem_cons_self rfl
          · exact (List.nodup_cons.1 hn.2.1).1 (List.mem_filterMap.2 ⟨y, hy2, hyd⟩)
    · have hv : v = .slice (some ⟨b, 0, none⟩) xs.length cp := hv
      refine ⟨_, cp, hv, g5, g6, .inr ⟨b, 0, pc, T, (0, 0), rfl, if_pos rfl, fun j p hp => ?_⟩⟩
      have hj : j < xs.length * Enc.n α := by rw [← flat_length]; exact (List.getElem?_eq_some_iff.1 hp).1
      obtain ⟨u, u1, u2, u3⟩ := g7 j p hp
      rw [Nat.zero_add] at u1 ⊢
      exact ⟨u, hpp j u hj u1, u2, p.mono hle u3⟩
theorem Tr.share {G : Act → World → Prop} (k t : Nat) {α : Type} [Enc α] {g : Bool} {T : TypeId} {r : OS} {xs : List α} (hk : nth A k = some (hRow g T r xs)) (hE : E.get t = some (pOwn r xs)) (h : Tr B n G ((t, pSh r xs) :: E) (A.set k (hGrow T r xs))) : Tr B n G E A := by
  intro S W a hs he
  obtain ⟨S', hS, hs', hx⟩ := hs.share hk
  refine h S' W a hs' ⟨he.1, he.2.1, fun u p hp => ?_⟩
  by_cases e : t = u
  · subst e
    rw [Env.get_cons_same] at hp
    cases hp
    exact ⟨(pOwn r xs).mono hS (he.2.2 t _ hE), hx _ (he.2.2 t _ hE)⟩
  · rw [Env.get_cons_ne _ _ e] at hp
    exact p.mono hS (he.2.2 u p hp)
theorem TrC.share {c : Code} (k t : Nat) {α : Type} [Enc α] {g : Bool} {T : TypeId} {r : OS} {xs : List α} (hk : nth A k = some (hRow g T r xs)) (hE : E.get t = some (pOwn r xs)) (h : TrC P B n Q c ((t, pSh r xs) :: E) (A.set k (hGrow T r xs))) : TrC P B n Q c E A := Tr.share k t hk hE h
theorem TrE.share {e : Exit} (k t : Nat) {α : Type} [Enc α] {g : Bool} {T : TypeId} {r : OS} {xs : List α} (hk : nth A k = some (hRow g T r xs)) (hE : E.get t = some (pOwn r xs)) (h : TrE B n Q e ((t, pSh r xs) :: E) (A.set k (hGrow T r xs))) : TrE B n Q e E A := Tr.share k t hk hE h
theorem Tr.knowA {G : Act → World → Prop} (k : Nat) {α : Type} [Enc α] {g : Bool} {T : TypeId} {r : OS} {xs : List α} (t : Nat) (hE : E.get t = some (pOwn r xs)) (hk : nth A k = some (hRow g T r xs)) (h : xs.length ≤ 9223372036854775807 → Tr B n G E A) : Tr B n G E A := fun S W a hs he => by
  refine h ?_ S W a hs he
  rcases hold_row hs (mem_nth hk) (he.2.2 t _ hE) with ⟨_, _, rfl⟩ | ⟨_, c, _, _, _, _, _, h1, h2, _⟩
  · simp
  · omega
theorem TrC.knowA {c : Code} (k : Nat) {α : Type} [Enc α] {g : Bool} {T : TypeId} {r : OS} {xs : List α} (t : Nat) (hE : E.get t = some (pOwn r xs)) (hk : nth A k = some (hRow g T r xs)) (h : xs.length ≤ 9223372036854775807 → TrC P B n Q c E A) : TrC P B n Q c E A := Tr.knowA k t hE hk h
theorem TrC.meetM {X : Type} {x y : Code} (J : X → Prop) (mods : X → Env) (KE : Env) (modA : X → List HP → List HP) (start : EnvSub E KE)
    (h : TrC P B n (Exit.then (fun a W => ∃ z, J z ∧ St B n (mods z ++ KE) (modA z A) a W) Q) x E A) (k : ∀ z, J z → TrC P B n Q y (mods z ++ KE) (modA z A)) : TrC P B n Q (.seq x y) E A :=
  TrC.meetX (fun z => mods z ++ KE) (fun z => modA z A) J h k
end
end Go.Mp
namespace Go.Mp
open Go
set_option linter.unusedVariables false
set_option linter.unusedSimpArgs false
section
variable {P : Program} {o : Oper} {E : Env} {A : List HP} {R : Pred} {B : Base} {S : Store} {W : World} {n : Nat} {ops : Array Oper} {Q : Exit → Act → World → Prop}
theorem TrE.lay {e : Exit} (h : HP) (hb : h.blk = none) (k : TrE B n Q e E (h :: A)) : TrE B n Q e E A := Tr.lay h hb k
theorem PStep.nilRef {x : Operand} {ps : List Pred} (ho : o.op = .nilCheck x) (hx : Lk E x (pRef ps)) : PStep P o E A (pRef ps) := PStep.val fun S W a hS he => by
  obtain ⟨bb, oo, c, T'', fr, h, h2⟩ := hx.at he (by simp +contextual [readsOf, ho, Op.operands])
  exact ⟨.pointer (some ⟨bb, oo, none⟩), by simp [execOp, ho, h], bb, oo, c, T'', fr, rfl, h2⟩
theorem PStep.nilLoc {x : Operand} {b off : Nat} (ho : o.op = .nilCheck x) (hx : Lk E x (pPtr b off)) : PStep P o E A (pPtr b off) := PStep.val fun S W a hS he => by
  have h : a.eval x = .pointer (some ⟨b, off, none⟩) := hx.at he (by simp +contextual [readsOf, ho, Op.operands])
  exact ⟨.pointer (some ⟨b, off, none⟩), by simp [execOp, ho, h], rfl⟩
theorem PStep.know {x : Operand} {p : Pred} {J : Prop} (hx : Lk E x p) (hr : ∀ t ∈ opdT x, t ∈ readsOf o) (hJ : ∀ v S, p.holds v S → J) (h : J → PStep P o E A R) : PStep P o E A R :=
  fun A' hA B S W a hs he K Q hK => h (hJ _ _ (hx.at he hr)) A' hA B S W a hs he K Q hK
theorem Step.know {A' : List HP} {x : Operand} {p : Pred} {J : Prop} (hx : Lk E x p) (hr : ∀ t ∈ opdT x, t ∈ readsOf o) (hJ : ∀ v S, p.holds v S → J) (h : J → Step P o E A R A') : Step P o E A R A' :=
  fun B S W a hs he K Q hK => h (hJ _ _ (hx.at he hr)) B S W a hs he K Q hK
def pPI (r : OS) (off : Nat) : Pred := ⟨fun v _ => r.isAt ∧ v = .pointer (some ⟨r.b, off, none⟩), fun _ h => h⟩
theorem Lk.pPI {x : Operand} {r : OS} {off : Nat} (h : Lk E x (pPI r off)) : Lk E x (pPtr r.b off) := h.imp fun _ _ h => h.2
theorem PStep.ixOwnI {α : Type} [Enc α] {T e : TypeId} {x i : Operand} {r : OS} {xs : List α} {kk : IntKind} {m : Int} (hT : ∀ W, (underlying T).run P W = .ok (.slice e) W) (he' : ∀ W, (sizeOf e).run P W = .ok (Enc.n α) W) (ho : o.op = .indexAddr T x i)
    (hx : Lk E x (pOwn r xs)) (hi : Lk E i (pK kk m)) (h : 0 ≤ m ∧ m < xs.length) : PStep P o E A (pPI r (m.toNat * Enc.n α)) := PStep.val fun S W a hS he => by
  obtain ⟨c, hc, h1⟩ := own_at (hx.at he (by simp +contextual [readsOf, ho, Op.operands])) (by omega)
  have h5 : a.eval i = .int kk m := hi.at he (by simp +contextual [readsOf, ho, Op.operands])
  exact ⟨.pointer (some ⟨r.b, m.toNat * Enc.n α, none⟩), by simp [execOp, ho, h1, h5, Instr.indexAt, asIntOf, hT, he', h, add_plain], by rw [hc]; trivial, rfl⟩
theorem PStep.faI {T : TypeId} {x : Operand} {r : OS} {o' f off : Nat} (hf : FieldOff P T f off) (ho : o.op = .fieldAddr T x f) (hx : Lk E x (pPI r o')) : PStep P o E A (pPI r (o' + off)) := PStep.val fun S W a hS he => by
  obtain ⟨h0, h1⟩ := hx.at he (by simp +contextual [readsOf, ho, Op.operands])
  exact ⟨_, by simp [execOp, ho, h1, hf.run], h0, rfl⟩
theorem PStep.ldOwnKI (k : Nat) {α : Type} [Enc α] {g : Bool} [Inhabited α] {T T' : TypeId} {x : Operand} {r : OS} {xs : List α} {m : Int} (hT : ∀ W, (isAgg T).run P W = .ok true W) (hm : ∀ W, (sizeOf T).run P W = .ok (Enc.n α) W) (ho : o.op = .load T x) (hx : Lk E x (pPI r (m.toNat * Enc.n α))) (hk : nth A k = some (hRow g T' r xs)) (h : 0 ≤ m ∧ m < xs.length) : PStep P o E A (pT (ix xs m)) :=
  PStep.know hx (by simp +contextual [readsOf, ho, Op.operands]) (fun _ _ h => h.1) fun hr => PStep.ldOwnK k hT hm ho hx.pPI hk hr h
theorem Step.stOwnI (k : Nat) {α : Type} [Enc α] [Inhabited α] {T T' : TypeId} {x y : Operand} {r : OS} {xs : List α} {m : Int} {f : Nat} {qs : List Pred} (v : α) (hm : ∀ W, (sizeOf T).run P W = .ok qs.length W) (ho : o.op = .store T x y) (hx : Lk E x (pPI r (m.toNat * Enc.n α + f))) (hy : Lk E y (pCs qs)) (hk : nth A k = some (hOwn T' r xs))
    (h : 0 ≤ m ∧ m < xs.length) (hl : Nat.ble (f + qs.length) (Enc.n α) = true) (hone : ∀ q ∈ qs, ∀ v S, q.holds v S → v.oneCell' = true) (hps : splice (Enc.cells (ix xs m)) f qs = Enc.cells v) : Step P o E A pAny (A.set k (hOwn T' r (xs.set m.toNat v))) :=
  Step.know hx (by simp +contextual [readsOf, ho, Op.operands]) (fun _ _ h => h.1) fun hr => Step.stOwn k v hm ho hx.pPI hy hk hr h hl hone hps
theorem RetOK.cell3 {fn : Func} (k : Nat) {t u w : Tmp} {T T' : TypeId} {m : Nat} {b : Nat} {ps : List Pred} {q q' : Pred} {A' : List HP} (hT : ∀ W, (isAgg T).run P W = .ok true W) (hm : ∀ W, (sizeOf T).run P W = .ok m W) (h : fn.results = #[.cell t T, .tmp u, .tmp w]) (hx : Lk E (.tmp t) (pPtr b 0)) (hk : nth A k = some (hCells b T' ps)) (hl : ps.length = m) (hy : Lk E (.tmp u) q) (hz : Lk E (.tmp w) q') (hA : A'.Sublist A) : RetOK P fn E A (pTup [pAgg ps, q, q']) A' := by
  intro B n S W a hs he
  have h1 : tmpOf a t = .pointer (some ⟨b, 0, none⟩) := hx.at (he.on [t]) (by simp [opdT])
  have h4 : q.holds (tmpOf a u) S := hy.at (he.on [u]) (by simp [opdT])
  have h5 : q'.holds (tmpOf a w) S := hz.at (he.on [w]) (by simp [opdT])
  obtain ⟨c, h2, _, h3⟩ := own_cells hs (mem_nth hk)
  obtain ⟨cs, k1, k2, k3⟩ := h3.vals
  have hr := run_loadCells_list (P := P) (w := W) ⟨b, 0, none⟩ cs (fun j v hv => by rw [add_plain]; exact (cell_of h2).trans (k2 j v hv))
  rw [k1, hl] at hr
  have h1' : a.tmps[t]?.getD undef = .pointer (some ⟨b, 0, none⟩) := by simpa [tmpOf, Array.getD_eq_getD_getElem?] using h1
  refine ⟨.tuple #[.agg cs.toArray, tmpOf a u, tmpOf a w], ?_, S, Store.le.refl _, ⟨_, rfl, rfl, fun j r hr' => ?_⟩, hs.sub hA⟩
  · simp [results, h, h1', asAddr, loadVar, hT, hm, hr, tmpOf, Array.getD_eq_getD_getElem?]
  · match j, hr' with
    | 0, hr' => simp at hr'; subst hr'; exact ⟨_, rfl, _, rfl, by simpa using k1, k3⟩
    | 1, hr' => simp at hr'; subst hr'; exact ⟨_, rfl, h4⟩
    | 2, hr' => simp at hr'; subst hr'; exact ⟨_, rfl, h5⟩
    | j + 3, hr' => simp at hr'
def pNilB {α : Type} (xs : List α) : Pred := ⟨fun v _ => ∃ b, v = .bool b ∧ (b = true → xs = []), fun _ h => h⟩
theorem eq_slice_nil {d : Nat} {T e : TypeId} {ad : Option Addr} {l c : Nat} (hT : P.underlying T = some (.slice e)) (W : World) : (Op.equalIn (d + 1) T (.slice ad l c) (.slice none 0 0)).run P W = .ok ad.isNone W := by
  cases ad <;> simp [Op.equalIn, run_underlying hT]
theorem PStep.eqNil {α : Type} [Enc α] {T e T' : TypeId} {x : Operand} {xs : List α} (hT : P.underlying T = some (.slice e)) (ho : o.op = .binOp .eql T x (.const (.slice none 0 0)) T') (hx : Lk E x (pSl xs)) : PStep P o E A (pNilB xs) := PStep.val fun S W a hS he => by
  obtain ⟨ad, c, h1, h2, h3, h4⟩ := hx.at he (by simp +contextual [readsOf, ho, Op.operands])
  have hr : (Op.equalIn 10000 T (.slice ad xs.length c) (.slice none 0 0)).run P W = .ok ad.isNone W := eq_slice_nil (d := 9999) hT W
  have hb : (binOp .eql T (.slice ad xs.length c) (.slice none 0 0)).run P W = .ok (.bool ad.isNone) W := by
    have e' : (Op.equal T (.slice ad xs.length c) (.slice none 0 0)).run P W = .ok ad.isNone W := hr
    show ((Op.equal T (.slice ad xs.length c) (.slice none 0 0)) >>= fun r => Pure.pure (Value.bool r) : Sem Value).run P W = _
    rw [Sem.run_bind, e']; rfl
  have hg : (eqGuard .eql T x (.const (.slice none 0 0)) (.slice ad xs.length c) (.slice none 0 0)).run P W = .ok () W := by
    unfold eqGuard; split <;> rfl
  refine ⟨.bool ad.isNone, ?_, ad.isNone, rfl, fun hn => ?_⟩
  · simp only [execOp, ho, h1, eval_const, Sem.run_bind, hg, Result.andThen_ok, hb]
    rfl
  · rcases h4 with h4 | ⟨b, o', cs, T'', fr, rfl, _⟩
    · exact h4
    · cases hn
theorem TrC.condN {α : Type} {c : Operand} {x y : Code} {xs : List α} (hc : Lk E c (pNilB xs)) (ht : xs = [] → TrC P B n Q x E A) (hf : TrC P B n Q y E A) : TrC P B n Q (.cond c x y) E A := fun S W a hs he => by
  obtain ⟨b, hb, hi⟩ := hc a S (he.on _)
  exact wp_cond_split hb (fun h => ht (hi h) S W a hs he) (fun h => hf S W a hs he)
structure GByte where
  v : Int
  deriving DecidableEq
instance : Inhabited GByte := ⟨⟨0⟩⟩
instance : Enc GByte := ⟨1, by decide, fun m => [pK .u8 m.v], fun _ => rfl, fun x p hp v S h => by simp at hp; subst hp; cases h; rfl⟩
end
end Go.Mp
namespace Go.Mp
open Go
section
variable {P : Program} {o : Oper} {E : Env} {A : List HP}
theorem PStep.beql {T T' : TypeId} {x y : Operand} {s t : Bool} (hT : P.underlying T = some .bool) (ho : o.op = .binOp .eql T x y T') (hx : Lk E x (pB s)) (hy : Lk E y (pB t)) : PStep P o E A (pB (decide (s = t))) :=
  PStep.bin ho hx hy (fun W => eqGuard_bool _ _ _ _ _ _ _) fun W => by
    have e' : (Op.equal T (.bool s) (.bool t)).run P W = .ok (decide (s = t)) W := eqBool (d := 9999) s t hT W
    show ((Op.equal T (.bool s) (.bool t)) >>= fun r => Pure.pure (Value.bool r) : Sem Value).run P W = _
    rw [Sem.run_bind, e']; rfl
end
end Go.Mp
namespace Go.Mp
open Go
set_option linter.unusedVariables false
section
variable {P : Program} {o : Oper} {E : Env} {A : List HP} {B : Base} {S : Store} {W : World} {n : Nat} {ops : Array Oper} {Q : Exit → Act → World → Prop}
theorem perm_set_none {A : List HP} {i : Nat} {h : HP} (hi : nth A i = some h) : (h :: A.set i hNone).Perm (hNone :: A) := by
  obtain ⟨A1, A2, rfl, hl⟩ := own_split hi
  have hset : (A1 ++ h :: A2).set i hNone = A1 ++ hNone :: A2 := by
    subst hl
    rw [List.set_append_right _ _ (Nat.le_refl _)]
    simp
  rw [hset]
  have : (hNone :: (A1 ++ h :: A2)).Perm (h :: (A1 ++ hNone :: A2)) :=
    ((List.perm_middle (l₁ := A1) (l₂ := A2) (a := h)).cons hNone).trans ((List.Perm.swap h hNone _).trans ((List.perm_middle (l₁ := A1) (l₂ := A2) (a := hNone)).symm.cons h))
  exact this.symm
theorem Sat.none (hs : Sat B S A W) : Sat B S (hNone :: A) W := ⟨hs.os, hs.tape, hs.output, hs.base, hs.agreeS, hs.agreeF, hs.sepF, fun y hy c hyc => by
    rcases List.mem_cons.1 hy with rfl | hy
    · cases hyc
    · exact hs.own y hy c hyc, by rw [List.filterMap_cons_none rfl]; exact hs.nodup⟩
theorem Tr.takeA {G : Act → World → Prop} (i j : Nat) {h : HP} (hi : nth A i = some h) (hj : Nat.blt j (A.set i hNone).length = true) (k : Tr B n G E ((A.set i hNone).set j h)) : Tr B n G E A := fun S W a hs he => by
  refine k S W a ?_ he
  have h1 := hs.none.perm (perm_set_none hi).symm
  have hj' : j < (A.set i hNone).length := Nat.le_of_ble_eq_true hj
  obtain ⟨A1, A2, hA, hl⟩ := own_split (A := A.set i hNone) (k := j) (h := (A.set i hNone)[j]) (by rw [nth_eq]; simp [hj'])
  rw [hA] at h1
  have hset : (A.set i hNone).set j h = A1 ++ h :: A2 := by
    rw [hA]; subst hl
    rw [List.set_append_right _ _ (Nat.le_refl _)]
    simp
  rw [hset]
  have h2 : Sat B S (h :: (A1 ++ A2)) W := h1.sub (((List.Sublist.refl A1).append (List.sublist_cons_self _ A2)).cons_cons h)
  exact h2.perm List.perm_middle.symm
theorem TrE.takeA {e : Exit} (i j : Nat) {h : HP} (hi : nth A i = some h) (hj : Nat.blt j (A.set i hNone).length = true) (k : TrE B n Q e E ((A.set i hNone).set j h)) : TrE B n Q e E A := Tr.takeA i j hi hj k
section
variable {κ ν : Type} [DecidableEq κ]
def pMS (kv : κ → Value) (pv : ν → Pred) (m : List (κ × ν)) : Pred := ⟨fun v S => ∃ b es clock, v = .map (some b) ∧ S b = some (.map es clock) ∧ EntsOK kv pv es.toList m S,
  fun hS ⟨b, es, clock, h1, h2, h3⟩ => let ⟨o', k1, k2⟩ := hS b _ h2; ⟨b, es, clock, h1, by have k2 : o' = _ := k2; subst k2; exact k1, h3.mono hS⟩⟩
instance (kv : κ → Value) (pv : ν → Pred) (m : List (κ × ν)) : One (pMS kv pv m) := ⟨fun v S ⟨_, _, _, h, _⟩ => by subst h; rfl⟩
theorem PStep.lookupS {kv : κ → Value} {pv : ν → Pred} {T K V : TypeId} (z : ν) {zv : Value} {m : List (κ × ν)} {x y : Operand} {key : κ} (hT : MpT P T K V) (hK : KeyT P K kv) (hz : ∀ W, (zeroValue V).run P W = .ok zv W) (hzp : ∀ S, (pv z).holds zv S)
    (ho : o.op = .lookup T x y false) (hx : Lk E x (pMS kv pv m)) (hy : Lk E y (pV (kv key))) : PStep P o E A (pv ((getM m key).getD z)) := PStep.val fun S W a hS he => by
  obtain ⟨b, es, clock, e1, g1, g2⟩ := hx.at he (by simp +contextual [readsOf, ho, Op.operands])
  have e2 : a.eval y = kv key := hy.at he (by simp +contextual [readsOf, ho, Op.operands])
  obtain ⟨o', q1, q2⟩ := hS b _ g1
  have q2 : o' = _ := q2
  subst q2
  obtain ⟨v, v1, v2⟩ := lookup_run hT hK hz (hzp S) q1 g2 key false
  exact ⟨_, by simp only [execOp, ho, e1, e2, Sem.run_bind, v2, Result.andThen_ok, Sem.run_pure]; rfl, v1⟩
theorem PStep.lookupOkS {kv : κ → Value} {pv : ν → Pred} {T K V : TypeId} (z : ν) {zv : Value} {m : List (κ × ν)} {x y : Operand} {key : κ} (hT : MpT P T K V) (hK : KeyT P K kv) (hz : ∀ W, (zeroValue V).run P W = .ok zv W) (hzp : ∀ S, (pv z).holds zv S)
    (ho : o.op = .lookup T x y true) (hx : Lk E x (pMS kv pv m)) (hy : Lk E y (pV (kv key))) : PStep P o E A (pTup [pv ((getM m key).getD z), pB (getM m key).isSome]) := PStep.val fun S W a hS he => by
  obtain ⟨b, es, clock, e1, g1, g2⟩ := hx.at he (by simp +contextual [readsOf, ho, Op.operands])
  have e2 : a.eval y = kv key := hy.at he (by simp +contextual [readsOf, ho, Op.operands])
  obtain ⟨o', q1, q2⟩ := hS b _ g1
  have q2 : o' = _ := q2
  subst q2
  obtain ⟨v, v1, v2⟩ := lookup_run hT hK hz (hzp S) q1 g2 key true
  refine ⟨_, by simp only [execOp, ho, e1, e2, Sem.run_bind, v2, Result.andThen_ok, Sem.run_pure]; rfl, _, rfl, rfl, fun j p hp => ?_⟩
  match j, hp with
  | 0, hp => simp at hp; subst hp; exact ⟨_, rfl, v1⟩
  | 1, hp => simp at hp; subst hp; exact ⟨_, rfl, rfl⟩
  | j + 2, hp => simp at hp
theorem map_ms {kv : κ → Value} {pv : ν → Pred} {b : Nat} {m : List (κ × ν)} {S' : Store} {v : Value} (hS : S.le S') (h : ∀ c, (hMap kv pv b m).blk = some c → ∃ x, S' c = some x ∧ (hMap kv pv b m).holds x S) (hv : (pMp b).holds v S) : (pMS kv pv m).holds v S' := by
  obtain ⟨x, h1, es, clock, rfl, h2, _⟩ := h b rfl
  exact ⟨b, es, clock, hv, h1, h2.mono hS⟩
theorem set_cell {S : Store} {c : Array Value} {ps : List Pred} {off : Nat} {p q : Pred} (h : pCells c 0 ps S) (hp : nth ps off = some p) (i : ∀ v, p.holds v S → q.holds v S) : pCells c 0 (ps.set off q) S := fun j r hr => by
  by_cases e : j = off
  · subst e
    have hl : j < ps.length := (List.getElem?_eq_some_iff.1 (by rw [← nth_eq]; exact hp)).1
    rw [List.getElem?_set_self hl] at hr
    cases hr
    obtain ⟨u, u1, u2, u3⟩ := h j p (by rw [← nth_eq]; exact hp)
    exact ⟨u, u1, u2, i u u3⟩
  · rw [List.getElem?_set_ne (Ne.symm e)] at hr
    exact h j r hr
theorem Tr.settleMC {G : Act → World → Prop} (k j off : Nat) {kv : κ → Value} {pv : ν → Pred} {b b' : Nat} {T : TypeId} {ps : List Pred} {m : List (κ × ν)} (hk : nth A k = some (hMap kv pv b m)) (hj : nth (A.set k hNone) j = some (hCells b' T ps)) (hp : nth ps off = some (pMp b)) (h : Tr B n G E ((A.set k hNone).set j (hCells b' T (ps.set off (pMS kv pv m))))) : Tr B n G E A := by
  intro S W a hs he
  obtain ⟨S', hS, hs', hx⟩ := hs.settle hk
  refine h S' W a ?_ (he.up hS)
  obtain ⟨o, g1, ⟨c, rfl, g2, g3⟩, _⟩ := hs'.own _ (mem_nth hj) b' rfl
  -- what the cell told before still holds of the elder memory
  refine hs'.turn hj rfl rfl ⟨c, rfl, by rw [List.length_set]; exact g2, set_cell g3 hp fun v hv => map_ms hS hx hv⟩ rfl rfl rfl g1 (fun _ _ => rfl)
theorem TrC.settleMC {c : Code} (k j off : Nat) {kv : κ → Value} {pv : ν → Pred} {b b' : Nat} {T : TypeId} {ps : List Pred} {m : List (κ × ν)} (hk : nth A k = some (hMap kv pv b m)) (hj : nth (A.set k hNone) j = some (hCells b' T ps)) (hp : nth ps off = some (pMp b)) (h : TrC P B n Q c E ((A.set k hNone).set j (hCells b' T (ps.set off (pMS kv pv m))))) : TrC P B n Q c E A := Tr.settleMC k j off hk hj hp h
theorem TrE.settleMC {e : Exit} (k j off : Nat) {kv : κ → Value} {pv : ν → Pred} {b b' : Nat} {T : TypeId} {ps : List Pred} {m : List (κ × ν)} (hk : nth A k = some (hMap kv pv b m)) (hj : nth (A.set k hNone) j = some (hCells b' T ps)) (hp : nth ps off = some (pMp b)) (h : TrE B n Q e E ((A.set k hNone).set j (hCells b' T (ps.set off (pMS kv pv m))))) : TrE B n Q e E A := Tr.settleMC k j off hk hj hp h
end
theorem Tr.shareC {G : Act → World → Prop} (k j off : Nat) {α : Type} [Enc α] {g : Bool} {T T' : TypeId} {r : OS} {xs : List α} {b' : Nat} {ps : List Pred} (hk : nth A k = some (hRow g T r xs)) (hj : nth (A.set k (hGrow T r xs)) j = some (hCells b' T' ps)) (hp : nth ps off = some (pOwn r xs)) (h : Tr B n G E ((A.set k (hGrow T r xs)).set j (hCells b' T' (ps.set off (pSl xs))))) : Tr B n G E A := by
  intro S W a hs he
  obtain ⟨S', hS, hs', hx⟩ := hs.share hk
  refine h S' W a ?_ (he.up hS)
  obtain ⟨o, g1, ⟨c, rfl, g2, g3⟩, _⟩ := hs'.own _ (mem_nth hj) b' rfl
  refine hs'.turn hj rfl rfl ⟨c, rfl, by rw [List.length_set]; exact g2, set_cell g3 hp fun v hv => hx v (by cases r <;> exact hv)⟩ rfl rfl rfl g1 (fun _ _ => rfl)
theorem TrC.shareC {c : Code} (k j off : Nat) {α : Type} [Enc α] {g : Bool} {T T' : TypeId} {r : OS} {xs : List α} {b' : Nat} {ps : List Pred} (hk : nth A k = some (hRow g T r xs)) (hj : nth (A.set k (hGrow T r xs)) j = some (hCells b' T' ps)) (hp : nth ps off = some (pOwn r xs)) (h : TrC P B n Q c E ((A.set k (hGrow T r xs)).set j (hCells b' T' (ps.set off (pSl xs))))) : TrC P B n Q c E A := Tr.shareC k j off hk hj hp h
theorem TrE.shareC {e : Exit} (k j off : Nat) {α : Type} [Enc α] {g : Bool} {T T' : TypeId} {r : OS} {xs : List α} {b' : Nat} {ps : List Pred} (hk : nth A k = some (hRow g T r xs)) (hj : nth (A.set k (hGrow T r xs)) j = some (hCells b' T' ps)) (hp : nth ps off = some (pOwn r xs)) (h : TrE B n Q e E ((A.set k (hGrow T r xs)).set j (hCells b' T' (ps.set off (pSl xs))))) : TrE B n Q e E A := Tr.shareC k j off hk hj hp h
theorem Tr.weakC {G : Act → World → Prop} (j off : Nat) {b' : Nat} {T' : TypeId} {ps : List Pred} {p q : Pred} (hj : nth A j = some (hCells b' T' ps)) (hp : nth ps off = some p) (i : ∀ v S, p.holds v S → q.holds v S) (h : Tr B n G E (A.set j (hCells b' T' (ps.set off q)))) : Tr B n G E A := by
  intro S W a hs he
  refine h S W a ?_ he
  obtain ⟨o, g1, ⟨c, rfl, g2, g3⟩, _⟩ := hs.own _ (mem_nth hj) b' rfl
  exact hs.turn hj rfl rfl ⟨c, rfl, by rw [List.length_set]; exact g2, set_cell g3 hp fun v hv => i v _ hv⟩ rfl rfl rfl g1 (fun _ _ => rfl)
theorem TrC.weakC {c : Code} (j off : Nat) {b' : Nat} {T' : TypeId} {ps : List Pred} {p q : Pred} (hj : nth A j = some (hCells b' T' ps)) (hp : nth ps off = some p) (i : ∀ v S, p.holds v S → q.holds v S) (h : TrC P B n Q c E (A.set j (hCells b' T' (ps.set off q)))) : TrC P B n Q c E A := Tr.weakC j off hj hp i h
theorem TrL.weakC {l : List Oper} (j off : Nat) {b' : Nat} {T' : TypeId} {ps : List Pred} {p q : Pred} (hj : nth A j = some (hCells b' T' ps)) (hp : nth ps off = some p) (i : ∀ v S, p.holds v S → q.holds v S) (h : TrL P B n ops Q l E (A.set j (hCells b' T' (ps.set off q)))) : TrL P B n ops Q l E A := fun hd => Tr.weakC j off hj hp i (h hd)
end
end Go.Mp
namespace Go.Mp
open Go
set_option linter.unusedVariables false
set_option linter.unusedSimpArgs false
inductive SrcL where
  | new
  | was (h0 : HP)
  | op (j f nm : Nat) (same : Bool) (dj : Nat) (pj : OS → Pred) (hj : OS → HP)
inductive KindL where
  | pure (R : Pred)
  | blk (d : Option Nat) (src : SrcL) (p : OS → Pred) (h : OS → HP)
def pEx (p : OS → Pred) : Pred := ⟨fun v S => ∃ z, (p z).holds v S, fun hS ⟨z, h⟩ => ⟨z, (p z).mono hS h⟩⟩
def KindL.env (o : Oper) : KindL → Env → Env
  | .pure R, E => bindDst o R E
  | .blk _ _ p _, E => bindDst o (pEx p) E
def KindL.nm (i : Nat) : KindL → Nat
  | .blk _ (.op _ _ nm true _ _ _) _ _ => nm
  | _ => i
def BStep (P : Program) (o : Oper) (E : Env) (A : List HP) (src : SrcL) (p : OS → Pred) (h : OS → HP) : Prop := match src with
  | .new => AStepG P o E A p h
  | .was h0 => TStepG P o E A h0 p h
  | .op _ _ _ same dj pj hj => ∀ q, TStepG P o ((dj, pj q) :: E) A (hj q) (fun r => p (bif same then q else r)) (fun r => h (bif same then q else r))
theorem BStep.guard {P : Program} {o : Oper} {E : Env} {A : List HP} {src : SrcL} {p : OS → Pred} {h : OS → HP} (hb : BStep P o E A src p h) : o.guard = none := by
  cases src with
  | new => exact hb.1
  | was h0 => exact hb.1
  | op j f nm same dj pj hj => exact (hb .nil).1
def KStepL (P : Program) (ops : Array Oper) (o : Oper) (E : Env) (A : List HP) : KindL → Prop
  | .pure R => WStep P ops o E A R
  | .blk d src p h => o.dst = d ∧ BStep P o E A src p h
def takesL (ks : List KindL) (j i : Nat) : Bool := match ks[i]? with
  | some (.blk _ (.op j' _ _ _ _ _ _) _ _) => Nat.beq j' j
  | _ => false
def takenL (ks : List KindL) (D : Nat → Bool) (j : Nat) : Bool := (List.range ks.length).any fun i => takesL ks j i && D i
def blkL (ks : List KindL) (D : Nat → Bool) (β : Nat → OS) (j : Nat) : Option HP := match ks[j]? with
  | some (.blk d src p h) => if D j then (if takenL ks D j then none else some (h (β ((KindL.blk d src p h).nm j)))) else (match src with | .was h0 => some h0 | _ => none)
  | _ => none
def srcsL (ks : List KindL) : List HP := ks.filterMap fun k => match k with | .blk _ (.was h0) _ _ => some h0 | _ => none
def envL (β : Nat → OS) : List KindL → Nat → Env → Env
  | [], _, E => E
  | .pure _ :: ks, i, E => envL β ks (i + 1) E
  | .blk (some d) src p h :: ks, i, E => envL β ks (i + 1) ((d, p (β ((KindL.blk (some d) src p h).nm i))) :: E)
  | .blk none _ _ _ :: ks, i, E => envL β ks (i + 1) E
def envAfterL : List Oper → List KindL → Env → Env
  | o :: os, k :: ks, E => envAfterL os ks (k.env o E)
  | _, _, E => E
def FlowL (P : Program) (ops : Array Oper) (A : List HP) : List Oper → Env → (List KindL → Env → Prop) → Prop
  | [], E, K => K [] E
  | o :: rest, E, K => ∃ k, KStepL P ops o E A k ∧ FlowL P ops A rest (k.env o E) (fun ks E' => K (k :: ks) E')
theorem FlowL.kinds {P : Program} {ops : Array Oper} {A : List HP} : ∀ (l : List Oper) (E : Env) (K : List KindL → Env → Prop), FlowL P ops A l E K →
    ∃ ks, ks.length = l.length ∧ K ks (envAfterL l ks E) ∧ ∀ i o k, l[i]? = some o → ks[i]? = some k → KStepL P ops o (envAfterL (l.take i) (ks.take i) E) A k
  | [], E, K, h => ⟨[], rfl, by simpa [envAfterL, FlowL] using h, fun i o k ho => by simp at ho⟩
  | o :: l, E, K, ⟨k, hk, h⟩ => by
    obtain ⟨ks, h1, h2, h3⟩ := FlowL.kinds l _ _ h
    refine ⟨k :: ks, by simp [h1], by simpa [envAfterL] using h2, fun i o' k' ho hk' => ?_⟩
    cases i with
    | zero =>
      simp at ho hk'
      subst ho; subst hk'
      simpa [envAfterL] using hk
    | succ i =>
      simp at ho hk'
      simpa [envAfterL] using h3 i o' k' ho hk'
theorem envAfterL_get : ∀ (l : List Oper) (ks : List KindL) (E : Env) (t : Nat) (p : Pred), ks.length = l.length → (envAfterL l ks E).get t = some p →
    (∃ (j : Nat) (o : Oper), l[j]? = some o ∧ o.dst = some t ∧ ((ks[j]? = some (.pure p)) ∨ ∃ d src p' h, ks[j]? = some (.blk d src p' h) ∧ p = pEx p')) ∨
    (E.get t = some p ∧ ∀ (j : Nat) (o : Oper), l[j]? = some o → o.dst ≠ some t)
  | [], _, E, t, p, _, h => .inr ⟨by simpa [envAfterL] using h, fun j o ho => by simp at ho⟩
  | o :: l, [], E, t, p, hl, h => by simp at hl
  | o :: l, k :: ks, E, t, p, hl, h => by
    have hl' : ks.length = l.length := by simpa using hl
    rcases envAfterL_get l ks (k.env o E) t p hl' (by simpa [envAfterL] using h) with ⟨j, o', h1, h2, h3⟩ | ⟨h1, h2⟩
    · exact .inl ⟨j + 1, o', by simpa using h1, h2, by simpa using h3⟩
    · have hb : ∃ R, k.env o E = bindDst o R E ∧ (k = .pure R ∨ ∃ d src p' h, k = .blk d src p' h ∧ R = pEx p') := by
        cases k with
        | pure R => exact ⟨R, rfl, .inl rfl⟩
        | blk d src p h => exact ⟨pEx p, rfl, .inr ⟨_, _, _, _, rfl, rfl⟩⟩
      obtain ⟨R, hR, hk⟩ := hb
      rw [hR] at h1
      unfold bindDst at h1
      cases hd : o.dst with
      | none =>
        rw [hd] at h1
        refine .inr ⟨h1, fun j o' ho' => ?_⟩
        cases j with
        | zero => simp at ho'; subst ho'; rw [hd]; simp
        | succ j => exact h2 j o' (by simpa using ho')
      | some d =>
        rw [hd] at h1
        by_cases e : d = t
        · subst e
          simp only at h1
          rw [Env.get_cons_same] at h1
          cases h1
          exact .inl ⟨0, o, by simp, hd, by
            rcases hk with rfl | ⟨d', src, p', hh, rfl, rfl⟩
            · simp
            · exact .inr ⟨d', src, p', hh, rfl, rfl⟩⟩
        · simp only at h1
          rw [Env.get_cons_ne _ _ e] at h1
          refine .inr ⟨h1, fun j o' ho' => ?_⟩
          cases j with
          | zero => simp at ho'; subst ho'; rw [hd]; simpa using e
          | succ j => exact h2 j o' (by simpa using ho')
theorem envL_get (β : Nat → OS) : ∀ (ks : List KindL) (i : Nat) (E : Env) (t : Nat) (q : Pred), (envL β ks i E).get t = some q →
    (∃ (j : Nat) (src : SrcL) (p : OS → Pred) (h : OS → HP), ks[j]? = some (.blk (some t) src p h) ∧ q = p (β ((KindL.blk (some t) src p h).nm (i + j)))) ∨ E.get t = some q
  | [], _, _, _, _, h => .inr h
  | .pure _ :: ks, i, E, t, q, h => by
    rcases envL_get β ks (i + 1) E t q h with ⟨j, src, p, hh, h1, h2⟩ | h
    · exact .inl ⟨j + 1, src, p, hh, by simpa using h1, by rw [h2, show i + 1 + j = i + (j + 1) by omega]⟩
    · exact .inr h
  | .blk none _ _ _ :: ks, i, E, t, q, h => by
    rcases envL_get β ks (i + 1) E t q h with ⟨j, src, p, hh, h1, h2⟩ | h
    · exact .inl ⟨j + 1, src, p, hh, by simpa using h1, by rw [h2, show i + 1 + j = i + (j + 1) by omega]⟩
    · exact .inr h
  | .blk (some d) src p hh :: ks, i, E, t, q, h => by
    rcases envL_get β ks (i + 1) _ t q h with ⟨j, src', p', hh', h1, h2⟩ | h
    · exact .inl ⟨j + 1, src', p', hh', by simpa using h1, by rw [h2, show i + 1 + j = i + (j + 1) by omega]⟩
    · by_cases e : d = t
      · subst e
        rw [Env.get_cons_same] at h
        cases h
        exact .inl ⟨0, src, p, hh, by simp, rfl⟩
      · rw [Env.get_cons_ne _ _ e] at h
        exact .inr h
def ancB (l : List Oper) (i j : Nat) : Bool := ((ancs l []).getD i 0).testBit j
def LinOK (l : List Oper) (ks : List KindL) : Prop := ∀ i d j f nm same dj pj hj p h, ks[i]? = some (.blk d (.op j f nm same dj pj hj) p h) → (j < i ∧ f < i) ∧
  (ancB l i j = true ∧ ancB l i f = true ∧ ancB l i nm = true) ∧ (∃ d' s' p', ks[j]? = some (.blk d' s' p' hj) ∧ (KindL.blk d' s' p' hj).nm j = nm) ∧
  ((∃ o' s' h', l[f]? = some o' ∧ o'.dst = some dj ∧ ks[f]? = some (.blk (some dj) s' pj h') ∧ (KindL.blk (some dj) s' pj h').nm f = nm) ∨ ∀ z v S, (pj z).holds v S) ∧ ∀ i', takesL ks j i' = true → i' = i
theorem filterMap_move {α β : Type} [DecidableEq α] (f f' : α → Option β) (i j : α) (x y : β) (hij : i ≠ j) : ∀ (js : List α), js.Nodup → i ∈ js → j ∈ js → f i = none → f' i = some y → f j = some x → f' j = none → (∀ k, k ≠ i → k ≠ j → f' k = f k) → ∃ rest, (js.filterMap f).Perm (x :: rest) ∧ (js.filterMap f').Perm (y :: rest) := by
  intro js hn hi hj h0 h1 h2 h3 h4
  -- by way of what is between: j taken away, i laid
  let g : α → Option β := fun k => if k = j then none else f k
  have hgi : g i = none := by simp only [g, if_neg hij]; exact h0
  have p1 : (js.filterMap f).Perm (x :: js.filterMap g) := filterMap_one g f j x js hn hj (by simp [g]) h2 (fun k hk => by simp [g, hk])
  have p2 : (js.filterMap f').Perm (y :: js.filterMap g) := filterMap_one g f' i y js hn hi hgi h1 (fun k hk => by
    by_cases e : k = j
    · subst e; simp [g, h3]
    · simp [g, e, h4 k hk e])
  exact ⟨_, p1, p2⟩
structure HeadL (P : Program) (l : List Oper) (n n0 : Nat) (ks : List KindL) (E : Env) (A : List HP) (B : Base) (listed : Array Bool) (a : Act) (W : World) (S : Store) (β : Nat → OS) : Prop where
  inv : HeadInv .any l.toArray n0 listed
  size : a.tmps.size = n
  defers : a.defers = []
  facts : ∀ (j : Nat) (o : Oper) (d : Nat), j < n0 → listed.getD j false = true → l[j]? = some o → o.dst = some d →
    (∀ R, ks[j]? = some (.pure R) → R.holds (tmpOf a d) S) ∧ (∀ d' src p h, ks[j]? = some (.blk d' src p h) → (p (β ((KindL.blk d' src p h).nm j))).holds (tmpOf a d) S)
  base : ∀ t p, E.get t = some p → (∀ (j : Nat) (o : Oper), l[j]? = some o → o.dst = some t → listed.getD j false = false) → p.holds (tmpOf a t) S
  sat : Sat B S ((List.range n0).filterMap (blkL ks (fun j => listed.getD j false) β) ++ A) W
section
variable {P : Program} {l : List Oper} {n n0 : Nat} {ks : List KindL} {E : Env} {A : List HP} {B : Base} {listed : Array Bool} {a : Act} {W : World} {S : Store} {β : Nat → OS}
theorem HeadL.step (hl : ks.length = n0) (hn0 : n0 ≤ l.length) (hd : dstsOk n l = true) (hf : flowOK n0 l = true) (hlin : LinOK l ks) (hk : ∀ i o k, (l.take n0)[i]? = some o → ks[i]? = some k → KStepL P l.toArray o (envAfterL ((l.take n0).take i) (ks.take i) E) A k)
    (h : HeadL P l n n0 ks E A B listed a W S β) {i : Nat} (hi : i < n0) (hr : i ∈ Region.ready .any l.toArray listed) {K : Act → World → Prop} {Q : Exit → Act → World → Prop}
    (hK : ∀ a' W' S' β', HeadL P l n n0 ks E A B (listed.setIfInBounds i true) a' W' S' β' → K a' W') : wpOp P l.toArray Q i K a W := by
  obtain ⟨hun, o, ho, hall⟩ := mem_ready.1 hr
  have ho' : l[i]? = some o := by simpa using ho
  have hot : (l.take n0)[i]? = some o := by rw [List.getElem?_take, if_pos hi]; exact ho'
  obtain ⟨k, hki⟩ : ∃ k, ks[i]? = some k := ⟨ks[i]'(by omega), by simp [show i < ks.length by omega]⟩
  have hstep := hk i o k hot hki
  have htt : (l.take n0).take i = l.take i := by rw [List.take_take, Nat.min_eq_left (by omega)]
  rw [htt] at hstep
  have hil : i < l.length := (List.getElem?_eq_some_iff.1 ho').1
  have hunf : listed.getD i false = false := getD_both hun
  have hfi := List.all_eq_true.1 hf i (List.mem_range.2 hi)
  simp only [ho', Bool.and_eq_true] at hfi
  obtain ⟨hreads, hdst⟩ := hfi
  -- what is read holds
  have hclosedL := closed_listed h.inv
  have hclosedD : Closed l (fun j => listed.getD j false = true ∨ j = i) := by
    intro j oj hoj hj e he hb
    rcases hj with hj | hj
    · exact .inl (hclosedL j oj hoj hj e he hb)
    · subst hj
      have : oj = o := Option.some.inj (hoj.symm.trans ho')
      subst this
      exact .inl (hall e he hb)
  have henv : EnvOn (readsOf o ++ guardT l.toArray o) (envAfterL (l.take i) (ks.take i) E) a S := by
    intro t ht p hp
    have hrt := List.all_eq_true.1 hreads t ht
    have hlen : (ks.take i).length = (l.take i).length := by simp; omega
    rcases envAfterL_get (l.take i) (ks.take i) E t p hlen hp with ⟨j, oj, h1, h2, h3⟩ | ⟨h1, h2⟩
    · have hj : j < i := by
        have := (List.getElem?_eq_some_iff.1 h1).1
        simp at this; omega
      rw [List.getElem?_take, if_pos hj] at h1
      have hw : j ∈ wr l t := by
        unfold wr
        rw [List.mem_map]
        refine ⟨(oj, j), List.mem_filter.2 ⟨?_, by simpa using h2⟩, rfl⟩
        rw [List.mem_zipIdx_iff_getElem?]; exact h1
      have hb := List.all_eq_true.1 hrt j hw
      rw [if_pos hj] at hb
      have hjl : listed.getD j false = true := by
        rcases ancs_closed l _ hclosedD i j hb (.inr rfl) with h' | h'
        · exact h'
        · omega
      have hfact := h.facts j oj t (by omega) hjl h1 h2
      rcases h3 with h3 | ⟨d', src, p', hh, h3, rfl⟩
      · rw [List.getElem?_take, if_pos hj] at h3
        exact hfact.1 p h3
      · rw [List.getElem?_take, if_pos hj] at h3
        exact ⟨_, hfact.2 d' src p' hh h3⟩
    · refine h.base t p h1 fun j oj hoj hoj2 => ?_
      have hw : j ∈ wr l t := by
        unfold wr
        rw [List.mem_map]
        refine ⟨(oj, j), List.mem_filter.2 ⟨?_, by simpa using hoj2⟩, rfl⟩
        rw [List.mem_zipIdx_iff_getElem?]; exact hoj
      have hb := List.all_eq_true.1 hrt j hw
      by_cases hj : j < i
      · exact absurd hoj2 (h2 j oj (by rw [List.getElem?_take, if_pos hj]; exact hoj))
      · rw [if_neg hj] at hb
        simp only [Bool.and_eq_true] at hb
        cases hlj : listed.getD j false with
        | false => rfl
        | true =>
          have := ancs_closed l _ hclosedL j i hb.2 hlj
          rw [hunf] at this
          cases this
  -- the new state
  have hinv' := h.inv.set hr hi
  have hdi : dstOk n o = true := List.all_eq_true.1 hd o (List.mem_of_getElem? ho')
  have other : ∀ (j : Nat) (oj : Oper) (d d' : Nat), j < n0 → j ≠ i → l[j]? = some oj → oj.dst = some d' → o.dst = some d → d ≠ d' := by
    intro j oj d d' hj hji hoj hd' hdo e
    subst e
    rw [hdo] at hdst
    have hw : j ∈ wr (l.take n0) d := by
      unfold wr
      rw [List.mem_map]
      refine ⟨(oj, j), List.mem_filter.2 ⟨?_, by simpa using hd'⟩, rfl⟩
      rw [List.mem_zipIdx_iff_getElem?, List.getElem?_take, if_pos hj]; exact hoj
    have := List.all_eq_true.1 hdst j hw
    simp at this
    exact hji this
  have hsz : i < listed.size := by rw [h.inv.size]; simpa using hil
  have hgeti : (listed.setIfInBounds i true).getD i false = true := by simp [hsz]
  have hname : ∀ (j : Nat) (k' : KindL), ks[j]? = some k' → j ≠ i → listed.getD j false = true → k'.nm j ≠ i := by
    intro j k' hkj hji hlj e
    cases k' with
    | pure R => exact hji e
    | blk d src p hh =>
      cases src with
      | new => exact hji e
      | was h0 => exact hji e
      | op j' f nm same dj pj hj' =>
        cases same with
        | false => exact hji e
        | true =>
          have e : nm = i := e
          obtain ⟨_, ⟨_, _, h3⟩, _⟩ := hlin j d j' f nm true dj pj hj' p hh hkj
          have := ancs_closed l _ hclosedL j nm h3 hlj
          rw [e, hunf] at this
          cases this
  have new : ∀ (v : Value) (S' : Store) (W' : World) (β' : Nat → OS), S.le S' → (∀ j, j ≠ i → β' j = β j) →
      (∀ R, k = .pure R → ∀ d, o.dst = some d → R.holds v S') → (∀ d' src p hh, k = .blk d' src p hh → (p (β' ((KindL.blk d' src p hh).nm i))).holds v S') →
      Sat B S' ((List.range n0).filterMap (blkL ks (fun j => (listed.setIfInBounds i true).getD j false) β') ++ A) W' →
      HeadL P l n n0 ks E A B (listed.setIfInBounds i true) (a.put o.dst v) W' S' β' := by
    intro v S' W' β' hS hβ hpure halloc hsat
    have hput : ∀ (d' : Nat), (∀ d, o.dst = some d → d ≠ d') → tmpOf (a.put o.dst v) d' = tmpOf a d' := by
      intro d' hne
      cases hdo : o.dst with
      | none => simp [Act.put]
      | some d => exact tmpOf_put_ne (hne d hdo)
    refine ⟨hinv', ?_, ?_, ?_, ?_, hsat⟩
    · cases hdo : o.dst with
      | none => simpa [Act.put] using h.size
      | some d => simpa [Act.put] using h.size
    · cases hdo : o.dst with
      | none => simpa [Act.put] using h.defers
      | some d => simpa [Act.put] using h.defers
    · intro j oj d hj hlj hoj hdj
      by_cases hji : j = i
      · subst hji
        have : oj = o := Option.some.inj (hoj.symm.trans ho')
        subst this
        unfold dstOk at hdi
        rw [hdj] at hdi
        have hdn : d < a.tmps.size := by rw [h.size]; simpa using hdi
        have hv : tmpOf (a.put oj.dst v) d = v := by rw [hdj]; exact tmpOf_put_same hdn
        rw [hv]
        refine ⟨fun R hR => hpure R (by rw [hki] at hR; exact Option.some.inj hR) d hdj, fun d' src p hh hr' => halloc d' src p hh (by rw [hki] at hr'; exact Option.some.inj hr')⟩
      · rw [getD_set_ne false (Ne.symm hji)] at hlj
        obtain ⟨f1, f2⟩ := h.facts j oj d hj hlj hoj hdj
        rw [hput d (fun d0 hd0 => other j oj d0 d hj hji hoj hdj hd0)]
        exact ⟨fun R hR => R.mono hS (f1 R hR), fun d' src p hh hr' => by rw [hβ _ (hname j _ hr' hji hlj)]; exact (p _).mono hS (f2 d' src p hh hr')⟩
    · intro t p hp hno
      have hti : o.dst ≠ some t := by
        intro e
        have := hno i o ho' e
        rw [hgeti] at this
        cases this
      rw [hput t (fun d hd0 e => hti (by rw [hd0, e]))]
      refine p.mono hS (h.base t p hp fun j oj hoj hdj => ?_)
      have := hno j oj hoj hdj
      by_cases hji : j = i
      · subst hji; rw [hgeti] at this; cases this
      · rwa [getD_set_ne false (Ne.symm hji)] at this
  have hsub : ∀ x ∈ A, x ∈ (List.range n0).filterMap (blkL ks (fun j => listed.getD j false) β) ++ A := fun x hx => List.mem_append.2 (.inr hx)
  have hD : ∀ j, j ≠ i → (listed.setIfInBounds i true).getD j false = listed.getD j false := fun j hj => getD_set_ne false (Ne.symm hj)
  -- what is taken of a block, before and behind
  have htaken : ∀ j, takesL ks j i = false → takenL ks (fun j => (listed.setIfInBounds i true).getD j false) j = takenL ks (fun j => listed.getD j false) j := by
    intro j hj
    unfold takenL
    have : (fun i' => takesL ks j i' && (listed.setIfInBounds i true).getD i' false) = fun i' => takesL ks j i' && listed.getD i' false := by
      funext i'
      by_cases e : i' = i
      · subst e; rw [hj]; rfl
      · rw [hD i' e]
    rw [this]
  have hother : ∀ β' : Nat → OS, (∀ j, j ≠ i → β' j = β j) → ∀ j, j ≠ i → takesL ks j i = false → blkL ks (fun j => (listed.setIfInBounds i true).getD j false) β' j = blkL ks (fun j => listed.getD j false) β j := by
    intro β' hβ j hji hjt
    unfold blkL
    cases hkj : ks[j]? with
    | none => rfl
    | some k' =>
      cases k' with
      | pure R => rfl
      | blk d src p hh =>
        simp only [hD j hji, htaken j hjt]
        by_cases hlj : listed.getD j false = true
        · rw [if_pos hlj, if_pos hlj, hβ _ (hname j _ hkj hji hlj)]
        · rw [if_neg hlj, if_neg hlj]
  have hnt : takenL ks (fun j => (listed.setIfInBounds i true).getD j false) i = false := by
    unfold takenL
    rw [List.any_eq_false]
    intro i' _ hi'
    simp only [Bool.and_eq_true] at hi'
    obtain ⟨h1, h2⟩ := hi'
    unfold takesL at h1
    split at h1
    · rename_i d j f nm same dj pj hj p hh hk'
      have hj' : j = i := Nat.eq_of_beq_eq_true h1
      subst hj'
      obtain ⟨⟨hne, _⟩, ⟨h3, _⟩, _⟩ := hlin i' d j f nm same dj pj hj p hh hk'
      rw [hD i' (by omega)] at h2
      have := ancs_closed l _ hclosedL i' j h3 h2
      rw [hunf] at this; cases this
    · cases h1
  unfold wpOp
  simp only [ho]
  cases k with
  | pure R =>
    have hno : ∀ j, takesL ks j i = false := fun j => by simp [takesL, hki]
    have hsame : (List.range n0).filterMap (blkL ks (fun j => (listed.setIfInBounds i true).getD j false) β) = (List.range n0).filterMap (blkL ks (fun j => listed.getD j false) β) := by
      refine filterMap_same fun j _ => ?_
      by_cases hji : j = i
      · subst hji; simp [blkL, hki]
      · exact hother β (fun _ _ => rfl) j hji (hno j)
    have hw := hstep _ hsub B S W a h.sat henv K Q (fun v S' W' hS hs' hv => hK _ _ S' β (new v S' W' β hS (fun _ _ => rfl) (fun R' e _ _ => by cases e; exact hv) (fun d' src p hh e => by cases e) (by rw [hsame]; exact hs')))
    split
    · rename_i hwant
      rw [if_pos hwant] at hw
      exact .inl hw
    · rename_i hwant
      rw [if_neg hwant] at hw
      exact hw
  | blk d src p hh =>
    obtain ⟨hdo, hst⟩ := hstep
    have hwant : Region.wanted o (yielded l.toArray a.tmps) = true := by simp [Region.wanted, BStep.guard hst]
    rw [if_pos hwant]
    have hin : i ∈ List.range n0 := List.mem_range.2 hi
    have henv' : EnvOn (readsOf o) (envAfterL (l.take i) (ks.take i) E) a S := fun t ht => henv t (List.mem_append.2 (.inl ht))
    cases src with
    | new =>
      have hno : ∀ j, takesL ks j i = false := fun j => by simp [takesL, hki]
      refine .inl (hst.2 _ hsub B S W a h.sat henv' K Q fun q v S' W' hS hs' hv => ?_)
      have hβ : ∀ j, j ≠ i → (fun j => if j = i then q else β j) j = β j := fun j hj => by simp [hj]
      refine hK _ _ S' _ (new v S' W' (fun j => if j = i then q else β j) hS hβ (fun R e => by cases e) (fun d' src' p' hh' e => by cases e; simpa [KindL.nm] using hv) ?_)
      have hp := filterMap_one (blkL ks (fun j => listed.getD j false) β) (blkL ks (fun j => (listed.setIfInBounds i true).getD j false) (fun j => if j = i then q else β j)) i (hh q) (List.range n0) List.nodup_range hin
        (by simp only [blkL, hki, hunf]; simp) (by simp only [blkL, hki, hgeti, hnt]; simp [KindL.nm]) (fun j hj => hother _ hβ j hj (hno j))
      exact hs'.perm ((hp.append_right A).symm.trans (List.Perm.refl _) |>.symm.symm.trans (List.Perm.refl _) |> fun x => by simpa using x)
    | was h0 =>
      have hno : ∀ j, takesL ks j i = false := fun j => by simp [takesL, hki]
      have key := fun q0 => filterMap_turn (blkL ks (fun j => listed.getD j false) β) (blkL ks (fun j => (listed.setIfInBounds i true).getD j false) (fun j => if j = i then q0 else β j)) i (hh q0) h0 (List.range n0) List.nodup_range hin
        (by simp only [blkL, hki, hunf]; simp) (by simp only [blkL, hki, hgeti, hnt]; simp [KindL.nm]) (fun j hj => hother _ (fun j hj => by simp [hj]) j hj (hno j))
      obtain ⟨rest, p1, _⟩ := key .nil
      refine .inl (hst.2 (rest ++ A) (fun x hx => List.mem_append.2 (.inr hx)) B S W a (h.sat.perm (p1.append_right A)) henv' K Q fun q v S' W' hS hs' hv => ?_)
      have hβ : ∀ j, j ≠ i → (fun j => if j = i then q else β j) j = β j := fun j hj => by simp [hj]
      refine hK _ _ S' _ (new v S' W' (fun j => if j = i then q else β j) hS hβ (fun R e => by cases e) (fun d' src' p' hh' e => by cases e; simpa [KindL.nm] using hv) ?_)
      obtain ⟨rest', r1, r2⟩ := key q
      have hrr : rest'.Perm rest := (r1.symm.trans p1).cons_inv
      exact hs'.perm (((hrr.symm.append_right A).cons _).trans (r2.symm.append_right A))
    | op j f nm same dj pj hj =>
      obtain ⟨⟨hji', hfi'⟩, ⟨a1, a2, a3⟩, ⟨d', s', p', hkj, hnmj⟩, hf4, huniq⟩ := hlin i d j f nm same dj pj hj p hh hki
      have hji : j ≠ i := by omega
      have hfi : f ≠ i := by omega
      have lst : ∀ k, ancB l i k = true → k ≠ i → listed.getD k false = true := fun k hk hki' => by
        rcases ancs_closed l _ hclosedD i k hk (.inr rfl) with h' | h'
        · exact h'
        · exact absurd h' hki'
      have hlj := lst j a1 hji
      have hlfst := lst f a2 hfi
      have hn0k : ∀ k x, ks[k]? = some x → k < n0 := fun k x hx => by have := (List.getElem?_eq_some_iff.1 hx).1; omega
      have hfact : (pj (β nm)).holds (tmpOf a dj) S := by
        rcases hf4 with ⟨of, s'', h'', hlf, hdf, hkf, hnmf⟩ | hf4
        · have hfact := (h.facts f of dj (hn0k f _ hkf) hlfst hlf hdf).2 _ _ _ _ hkf
          rw [hnmf] at hfact
          exact hfact
        · exact hf4 _ _ _
      have hno : ∀ k, k ≠ j → takesL ks k i = false := fun k hk => by
        simp only [takesL, hki]
        cases e : Nat.beq j k with
        | false => rfl
        | true => exact absurd (Nat.eq_of_beq_eq_true e).symm hk
      have htj : takesL ks j i = true := by simp [takesL, hki, Nat.beq_refl]
      have hnotaken : takenL ks (fun j => listed.getD j false) j = false := by
        unfold takenL
        rw [List.any_eq_false]
        intro i' _ hi'
        simp only [Bool.and_eq_true] at hi'
        have := huniq i' hi'.1
        subst this
        rw [hunf] at hi'; cases hi'.2
      have htaken' : takenL ks (fun j => (listed.setIfInBounds i true).getD j false) j = true := by
        unfold takenL
        rw [List.any_eq_true]
        exact ⟨i, List.mem_range.2 (by omega), by simp only [htj, hgeti]; rfl⟩
      have henv2 : EnvOn (readsOf o) ((dj, pj (β nm)) :: envAfterL (l.take i) (ks.take i) E) a S := fun t ht q hq => by
        by_cases e : dj = t
        · subst e
          rw [Env.get_cons_same] at hq
          cases hq
          exact hfact
        · rw [Env.get_cons_ne _ _ e] at hq
          exact henv' t ht q hq
      have key := fun β' (hβ : ∀ j, j ≠ i → β' j = β j) => filterMap_move (blkL ks (fun j => listed.getD j false) β) (blkL ks (fun j => (listed.setIfInBounds i true).getD j false) β') i j (hj (β nm)) (hh (β' ((KindL.blk d (.op j f nm same dj pj hj) p hh).nm i))) (Ne.symm hji) (List.range n0) List.nodup_range hin (List.mem_range.2 (hn0k j _ hkj))
        (by simp only [blkL, hki, hunf]; simp) (by simp only [blkL, hki, hgeti, hnt]; simp) (by simp only [blkL, hkj, hlj, hnotaken]; simp [hnmj]) (by simp only [blkL, hkj, hD j hji, hlj, htaken']; simp)
        (fun k hk1 hk2 => hother β' hβ k hk1 (hno k hk2))
      obtain ⟨rest, p1, _⟩ := key β (fun _ _ => rfl)
      refine .inl ((hst (β nm)).2 (rest ++ A) (fun x hx => List.mem_append.2 (.inr hx)) B S W a (h.sat.perm (p1.append_right A)) henv2 K Q fun q v S' W' hS hs' hv => ?_)
      cases same with
      | true =>
        obtain ⟨rest', r1, r2⟩ := key β (fun _ _ => rfl)
        have hrr : rest'.Perm rest := (r1.symm.trans p1).cons_inv
        refine hK _ _ S' β (new v S' W' β hS (fun _ _ => rfl) (fun R e => by cases e) (fun d' src' p' hh' e => by cases e; exact hv) ?_)
        exact hs'.perm (((hrr.symm.append_right A).cons _).trans (r2.symm.append_right A))
      | false =>
        have hβ : ∀ j, j ≠ i → (fun j => if j = i then q else β j) j = β j := fun j hj => by simp [hj]
        obtain ⟨rest', r1, r2⟩ := key _ hβ
        have hrr : rest'.Perm rest := (r1.symm.trans p1).cons_inv
        refine hK _ _ S' _ (new v S' W' (fun j => if j = i then q else β j) hS hβ (fun R e => by cases e) (fun d' src' p' hh' e => by cases e; simpa [KindL.nm] using hv) ?_)
        change List.Perm _ (hh (if i = i then q else β i) :: rest') at r2
        rw [if_pos rfl] at r2
        exact hs'.perm (((hrr.symm.append_right A).cons _).trans (r2.symm.append_right A))
theorem HeadL.run (hl : ks.length = n0) (hn0 : n0 ≤ l.length) (hd : dstsOk n l = true) (hf : flowOK n0 l = true) (ht : tailOK n0 l = true) (hlin : LinOK l ks) (hk : ∀ i o k, (l.take n0)[i]? = some o → ks[i]? = some k → KStepL P l.toArray o (envAfterL ((l.take n0).take i) (ks.take i) E) A k)
    {Q : Exit → Act → World → Prop} (hK : ∀ β : Nat → OS, TrL P B n l.toArray Q (l.drop n0) (envL β ks 0 (envAfterL (l.take n0) ks E)) ((List.range n0).filterMap (blkL ks (fun _ => true) β) ++ A)) :
    ∀ (m : Nat) (listed : Array Bool) (a : Act) (W : World) (S : Store) (β : Nat → OS), HeadL P l n n0 ks E A B listed a W S β →
      ((List.range n0).filter fun j => !listed.getD j false).length = m → wpAny P .any l.toArray Q (m + (l.length - n0)) listed a W := by
  simp only [tailOK, Bool.and_eq_true, decide_eq_true_eq] at ht
  obtain ⟨⟨⟨_, hback⟩, hsc⟩, hseq⟩ := ht
  intro m
  induction m with
  | zero =>
    intro listed a W S β h hm
    have hall : ∀ j, j < n0 → listed.getD j false = true := by
      intro j hj
      have h0 := List.eq_nil_of_length_eq_zero hm
      have := List.filter_eq_nil_iff.1 h0 j (List.mem_range.2 hj)
      simpa using this
    have hlisted : listed = listedAt n0 l.length := by
      apply Array.ext
      · simp [listedAt, h.inv.size]; omega
      · intro j h1 h2
        have hjl : j < l.length := by rw [h.inv.size] at h1; simpa using h1
        by_cases hj : j < n0
        · have := hall j hj
          have e : listed[j] = true := by simpa [Array.getD, h1] using this
          rw [e]
          simp only [listedAt]
          rw [Array.getElem_append_left (by simpa using hj)]
          simp
        · have := h.inv.tail j (by omega) (by simpa using hjl)
          have e : listed[j] = false := by simpa [Array.getD, h1] using this
          rw [e]
          simp only [listedAt]
          rw [Array.getElem_append_right (by simp; omega)]
          simp
    -- the environment and the owned blocks
    have hA := hK β
    have hdrop : dstsOk n (l.drop n0) = true := List.all_eq_true.2 fun x hx => List.all_eq_true.1 hd x (List.mem_of_mem_drop hx)
    have henv : EnvOK n (envL β ks 0 (envAfterL (l.take n0) ks E)) a S := by
      refine ⟨h.size, h.defers, fun t q hq => ?_⟩
      rcases envL_get β ks 0 _ t q hq with ⟨j, src, p, hh, h1, rfl⟩ | hp'
      · have hj : j < n0 := by have := (List.getElem?_eq_some_iff.1 h1).1; omega
        obtain ⟨oj, hoj⟩ : ∃ oj, l[j]? = some oj := ⟨l[j]'(by omega), by simp [show j < l.length by omega]⟩
        have hd1 : oj.dst = some t := (hk j oj _ (by rw [List.getElem?_take, if_pos hj]; exact hoj) h1).1
        have := (h.facts j oj t hj (hall j hj) hoj hd1).2 _ _ _ _ h1
        simpa using this
      · -- told by the head, or by what was there
        rcases envAfterL_get (l.take n0) ks E t q (by simp; omega) hp' with ⟨j, oj, h1, h2, h3⟩ | ⟨h1, h2⟩
        · have hj : j < n0 := by
            have := (List.getElem?_eq_some_iff.1 h1).1
            simp at this; omega
          rw [List.getElem?_take, if_pos hj] at h1
          have hfact := h.facts j oj t hj (hall j hj) h1 h2
          rcases h3 with h3 | ⟨d', src, p', hh, h3, rfl⟩
          · exact hfact.1 q h3
          · exact ⟨_, hfact.2 d' src p' hh h3⟩
        · refine h.base t q h1 fun j oj hoj hdj => ?_
          by_cases hj : j < n0
          · exact absurd hdj (h2 j oj (by rw [List.getElem?_take, if_pos hj]; exact hoj))
          · have hjl : j < l.length := (List.getElem?_eq_some_iff.1 hoj).1
            exact getD_both (h.inv.tail j (by omega) (by simpa using hjl))
    have hsat : Sat B S ((List.range n0).filterMap (blkL ks (fun _ => true) β) ++ A) W := by
      have e : (List.range n0).filterMap (blkL ks (fun _ => true) β) = (List.range n0).filterMap (blkL ks (fun j => listed.getD j false) β) := by
        refine filterMap_same fun j hj => ?_
        have hj' : j < n0 := by simpa using hj
        have ht : ∀ j, takenL ks (fun _ => true) j = takenL ks (fun j => listed.getD j false) j := by
          intro j
          unfold takenL
          rw [Bool.eq_iff_iff, List.any_eq_true, List.any_eq_true]
          constructor
          · rintro ⟨i, h1, h2⟩
            have hi : i < n0 := by rw [← hl]; exact List.mem_range.1 h1
            exact ⟨i, h1, by simp only [hall i hi]; exact h2⟩
          · rintro ⟨i, h1, h2⟩
            have hi : i < n0 := by rw [← hl]; exact List.mem_range.1 h1
            simp only [hall i hi] at h2
            exact ⟨i, h1, h2⟩
        unfold blkL
        simp only [hall j hj', ht]
      rw [e]; exact h.sat
    have hwp := hA hdrop S W a hsat henv
    have hlen : (l.drop n0).length = l.length - n0 := by simp
    rw [Nat.zero_add, ← hlen]
    refine wpAny_of_seq (l.drop n0) n0 listed a W (fun j => by simp) ?_ hwp
    rw [hlen, hlisted]; exact hseq
  | succ m ih =>
    intro listed a W S β h hm
    obtain ⟨i0, hi0⟩ : ∃ i0, i0 ∈ (List.range n0).filter fun j => !listed.getD j false := by
      cases hf' : (List.range n0).filter fun j => !listed.getD j false with
      | nil => rw [hf'] at hm; cases hm
      | cons x xs => exact ⟨x, List.mem_cons_self⟩
    obtain ⟨hi0r, hi0u⟩ := List.mem_filter.1 hi0
    have hi0n : i0 < n0 := List.mem_range.1 hi0r
    have hi0f : listed.getD i0 false = false := by simpa using hi0u
    have hne : Region.ready .any l.toArray listed ≠ [] := by
      -- the first that is not listed is ready
      have hex : ∃ j, j < n0 ∧ listed.getD j false = false := ⟨i0, hi0n, hi0f⟩
      obtain ⟨j, ⟨hj, hju⟩, hmin⟩ := exists_least (p := fun j => j < n0 ∧ listed.getD j false = false) hex
      intro hnil
      have hjl : j < l.length := by omega
      have : j ∈ Region.ready .any l.toArray listed := by
        refine mem_ready.2 ⟨getD_in (by rw [h.inv.size]; simpa using hjl) hju, l[j], by simp [hjl], fun e he hb => ?_⟩
        have hbk := List.all_eq_true.1 hback j (List.mem_range.2 hjl)
        simp only [hjl, getElem?_pos] at hbk
        have hbe := Array.all_eq_true_iff_forall_mem.1 hbk e he
        rw [hb] at hbe
        have hlt : e.on < j := by simpa using hbe
        cases hle : listed.getD e.on false with
        | true => rfl
        | false =>
          have := hmin e.on ⟨by omega, hle⟩
          omega
      rw [hnil] at this
      cases this
    rw [show m + 1 + (l.length - n0) = (m + (l.length - n0)) + 1 by omega]
    refine ⟨fun hnil => absurd hnil hne, fun i hi => ?_⟩
    have hin0 : i < n0 := by
      rcases Nat.lt_or_ge i n0 with h' | h'
      · exact h'
      · obtain ⟨_, oi, hoi, _⟩ := mem_ready.1 hi
        have hil : i < l.length := by simpa using (Array.getElem?_eq_some_iff.1 hoi).1
        rcases Bool.or_eq_true_iff.1 hsc with hsc | hsc
        · have := of_decide_eq_true hsc; omega
        · simp only [Bool.and_eq_true] at hsc
          exact absurd hi (tail_waits hsc.1 hsc.2 (by simpa using (show n0 < l.length by omega)) h.inv (n0 - i0) i0 rfl hi0n (getD_in (by rw [h.inv.size]; simp; omega) hi0f) i h')
    refine h.step hl hn0 hd hf hlin hk hin0 hi fun a' W' S' β' h' => ih _ a' W' S' β' h' ?_
    have hui : listed.getD i false = false := getD_both (mem_ready.1 hi).1
    have hil : i < listed.size := by rw [h.inv.size]; simp; omega
    have key : ∀ (r : List Nat), r.Nodup → i ∈ r → ((r.filter fun j => !(listed.setIfInBounds i true).getD j false).length + 1 = (r.filter fun j => !listed.getD j false).length) := by
      intro r
      induction r with
      | nil => intro _ h; cases h
      | cons x r ih' =>
        intro hnd hmem
        have hnd' := List.nodup_cons.1 hnd
        by_cases e : x = i
        · subst e
          have hsame : r.filter (fun j => !(listed.setIfInBounds x true).getD j false) = r.filter fun j => !listed.getD j false := by
            refine List.filter_congr fun j hj => ?_
            rw [getD_set_ne false (fun (e : x = j) => hnd'.1 (by rw [e]; exact hj))]
          rw [List.filter_cons, List.filter_cons, hsame, hui]
          have : (listed.setIfInBounds x true).getD x false = true := by simp [hil]
          rw [this]
          simp
        · rw [List.filter_cons, List.filter_cons, getD_set_ne false (Ne.symm e)]
          have := ih' hnd'.2 ((List.mem_cons.1 hmem).resolve_left (Ne.symm e))
          split
          · simp only [List.length_cons]; omega
          · exact this
    have := key (List.range n0) List.nodup_range (List.mem_range.2 hin0)
    omega
theorem srcsL_range (ks0 : List KindL) (β : Nat → OS) : ∀ (ks : List KindL) (i : Nat), (∀ (j : Nat), ks[j]? = ks0[i + j]?) → (List.range' i ks.length).filterMap (blkL ks0 (fun _ => false) β) = srcsL ks
  | [], i, _ => by simp [srcsL]
  | k :: ks, i, h => by
    have h0 : ks0[i]? = some k := by simpa using (h 0).symm
    have ih := srcsL_range ks0 β ks (i + 1) (fun j => by have := h (j + 1); simpa [Nat.add_assoc, Nat.add_comm 1 j] using this)
    rw [List.length_cons, List.range'_succ, List.filterMap_cons]
    unfold srcsL at ih ⊢
    rw [List.filterMap_cons]
    cases k with
    | pure R =>
      have : blkL ks0 (fun _ => false) β i = none := by simp [blkL, h0]
      rw [this]; exact ih
    | blk d src p h =>
      cases src with
      | was h0' =>
        have : blkL ks0 (fun _ => false) β i = some h0' := by simp [blkL, h0]
        rw [this]; simp [ih]
      | new =>
        have : blkL ks0 (fun _ => false) β i = none := by simp [blkL, h0]
        rw [this]; exact ih
      | op j f nm same dj pj hj =>
        have : blkL ks0 (fun _ => false) β i = none := by simp [blkL, h0]
        rw [this]; exact ih
theorem TrC.flowL {Q : Exit → Act → World → Prop} {id : Nat} (n0 : Nat) (hm : P.follows .mixedOrders = true) (hd : dstsOk n l = true) (hf : flowOK n0 l = true) (ht : tailOK n0 l = true)
    (A0 : List HP) (h : FlowL P l.toArray A0 (l.take n0) E (fun ks E' => A = srcsL ks ++ A0 ∧ LinOK l ks ∧ ∀ β : Nat → OS, TrL P B n l.toArray Q (l.drop n0) (envL β ks 0 E') ((List.range n0).filterMap (blkL ks (fun _ => true) β) ++ A0))) : TrC P B n Q (.region id l.toArray true) E A := by
  intro S W a hs he
  have hn0 : n0 ≤ l.length := by
    simp only [tailOK, Bool.and_eq_true, decide_eq_true_eq] at ht
    exact ht.1.1.1
  obtain ⟨ks, h1, h2, h3⟩ := h.kinds
  have hlen : ks.length = n0 := by rw [h1]; simp; omega
  obtain ⟨hA, hlin, h2⟩ := h2
  refine wp_region_any hm ?_
  have hsat : Sat B S A { W with drawn := W.drawn + 1 } := ⟨hs.os, hs.tape, hs.output, hs.base, hs.agreeS, hs.agreeF, hs.sepF, hs.own, hs.nodup⟩
  have hst : HeadL P l n n0 ks E A0 B (Array.replicate l.toArray.size false) a { W with drawn := W.drawn + 1 } S (fun _ => .nil) := by
    refine ⟨⟨by simp, fun j oj _ hl => ?_, fun t _ ht => getD_in (by simpa using ht) (getD_replicate_false _ _)⟩, he.1, he.2.1, ?_, fun t p hp _ => he.2.2 t p hp, ?_⟩
    · rw [getD_replicate_false] at hl; cases hl
    · intro j o d _ hl _ _
      rw [getD_replicate_false] at hl; cases hl
    · have : (List.range n0).filterMap (blkL ks (fun j => (Array.replicate l.toArray.size false).getD j false) (fun _ => .nil)) = srcsL ks := by
        rw [← srcsL_range ks (fun _ => .nil) ks 0 (fun j => by simp), hlen, ← List.range_eq_range']
        refine filterMap_same fun j _ => ?_
        simp only [blkL, getD_replicate_false]
      rw [this, ← hA]; exact hsat
  have := HeadL.run hlen hn0 hd hf ht hlin h3 h2 n0 _ a _ S _ hst (by
    have : ((List.range n0).filter fun j => !(Array.replicate l.toArray.size false).getD j false) = List.range n0 := by
      refine List.filter_eq_self.2 fun j _ => ?_
      rw [getD_replicate_false]; rfl
    rw [this]; simp)
  rw [show n0 + (l.length - n0) = l.toArray.size by simp; omega] at this
  exact this
def isTake (j : Nat) : KindL → Bool
  | .blk _ (.op j' _ _ _ _ _ _) _ _ => Nat.beq j' j
  | _ => false
def blksL (β : Nat → OS) : List KindL → Nat → List HP
  | [], _ => []
  | .pure _ :: ks, i => blksL β ks (i + 1)
  | .blk d src p h :: ks, i => bif ks.any (isTake i) then blksL β ks (i + 1) else h (β ((KindL.blk d src p h).nm i)) :: blksL β ks (i + 1)
theorem takes_is (ks : List KindL) (j i : Nat) : takesL ks j i = match ks[i]? with | some k => isTake j k | none => false := by
  unfold takesL
  cases ks[i]? with
  | none => rfl
  | some k =>
    cases k with
    | pure R => rfl
    | blk d src p h => cases src <;> rfl
theorem blksL_range (ks0 : List KindL) (β : Nat → OS) (hlin : ∀ i j, takesL ks0 j i = true → j < i) : ∀ (ks : List KindL) (i : Nat), (∀ (j : Nat), ks[j]? = ks0[i + j]?) → (List.range' i ks.length).filterMap (blkL ks0 (fun _ => true) β) = blksL β ks i
  | [], i, _ => by simp [blksL]
  | k :: ks, i, h => by
    have h0 : ks0[i]? = some k := by simpa using (h 0).symm
    have hs : ∀ (j : Nat), ks[j]? = ks0[i + 1 + j]? := fun j => by have := h (j + 1); simpa [Nat.add_assoc, Nat.add_comm 1 j] using this
    have ih := blksL_range ks0 β hlin ks (i + 1) hs
    rw [List.length_cons, List.range'_succ, List.filterMap_cons]
    cases k with
    | pure R =>
      have : blkL ks0 (fun _ => true) β i = none := by simp [blkL, h0]
      rw [this]; exact ih
    | blk d src p hh =>
      have ht : takenL ks0 (fun _ => true) i = ks.any (isTake i) := by
        unfold takenL
        rw [Bool.eq_iff_iff, List.any_eq_true, List.any_eq_true]
        constructor
        · rintro ⟨i', h1, h2⟩
          have h2 : takesL ks0 i i' = true := by simpa using h2
          have hlt := hlin i' i h2
          rw [takes_is] at h2
          have e := hs (i' - (i + 1))
          rw [show i + 1 + (i' - (i + 1)) = i' by omega] at e
          cases hk : ks0[i']? with
          | none => rw [hk] at h2; cases h2
          | some k' =>
            rw [hk] at h2 e
            exact ⟨k', List.mem_of_getElem? e, h2⟩
        · rintro ⟨k', h1, h2⟩
          obtain ⟨m, hm⟩ := List.getElem?_of_mem h1
          rw [hs m] at hm
          refine ⟨i + 1 + m, List.mem_range.2 (List.getElem?_eq_some_iff.1 hm).1, ?_⟩
          simp only [takes_is, hm, h2]; rfl
      cases hb : ks.any (isTake i) with
      | true =>
        have : blkL ks0 (fun _ => true) β i = none := by simp only [blkL, h0, ht, hb]; rfl
        rw [this]
        simp only [blksL, hb, cond_true]; exact ih
      | false =>
        have : blkL ks0 (fun _ => true) β i = some (hh (β ((KindL.blk d src p hh).nm i))) := by simp only [blkL, h0, ht, hb]; rfl
        rw [this]
        simp only [blksL, hb, cond_false, ih]
theorem LinOK.lt {ks : List KindL} (h : LinOK l ks) (i j : Nat) (ht : takesL ks j i = true) : j < i := by
  unfold takesL at ht
  split at ht
  · rename_i d j' f nm same dj pj hj p hh hk
    have := Nat.eq_of_beq_eq_true ht
    subst this
    exact (h _ _ _ _ _ _ _ _ _ _ _ hk).1.1
  · cases ht
def LinA (l : List Oper) (ks0 : List KindL) : List KindL → Nat → Prop
  | [], _ => True
  | .blk d (.op j f nm same dj pj hj) p h :: ks, i => ((Nat.blt j i && Nat.blt f i && ancB l i j && ancB l i f && ancB l i nm && (List.range ks0.length).all (fun i' => !takesL ks0 j i' || Nat.beq i' i)) = true ∧
      (∃ d' s' p', ks0[j]? = some (.blk d' s' p' hj) ∧ (KindL.blk d' s' p' hj).nm j = nm) ∧ ((∃ o' s' h', l[f]? = some o' ∧ o'.dst = some dj ∧ ks0[f]? = some (.blk (some dj) s' pj h') ∧ (KindL.blk (some dj) s' pj h').nm f = nm) ∨ ∀ z v S, (pj z).holds v S)) ∧ LinA l ks0 ks (i + 1)
  | _ :: ks, i => LinA l ks0 ks (i + 1)
theorem LinA.get {ks0 : List KindL} : ∀ {ks : List KindL} {i : Nat}, LinA l ks0 ks i → ∀ m d j f nm same dj pj hj p h, ks[m]? = some (.blk d (.op j f nm same dj pj hj) p h) →
    (Nat.blt j (i + m) && Nat.blt f (i + m) && ancB l (i + m) j && ancB l (i + m) f && ancB l (i + m) nm && (List.range ks0.length).all (fun i' => !takesL ks0 j i' || Nat.beq i' (i + m))) = true ∧
      (∃ d' s' p', ks0[j]? = some (.blk d' s' p' hj) ∧ (KindL.blk d' s' p' hj).nm j = nm) ∧ ((∃ o' s' h', l[f]? = some o' ∧ o'.dst = some dj ∧ ks0[f]? = some (.blk (some dj) s' pj h') ∧ (KindL.blk (some dj) s' pj h').nm f = nm) ∨ ∀ z v S, (pj z).holds v S)
  | k :: ks, i, h, 0, d, j, f, nm, same, dj, pj, hj, p, hh, hk => by
    simp at hk
    subst hk
    exact h.1
  | k :: ks, i, h, m + 1, d, j, f, nm, same, dj, pj, hj, p, hh, hk => by
    have h' : LinA l ks0 ks (i + 1) := by
      cases k with
      | pure R => exact h
      | blk d' src p' h' =>
        cases src with
        | new => exact h
        | was h0 => exact h
        | op _ _ _ _ _ _ _ => exact h.2
    have := LinA.get h' m d j f nm same dj pj hj p hh (by simpa using hk)
    rw [show i + 1 + m = i + (m + 1) by omega] at this
    exact this
theorem LinA.ok {ks : List KindL} (h : LinA l ks ks 0) : LinOK l ks := by
  intro i d j f nm same dj pj hj p hh hk
  obtain ⟨h1, h2, h3⟩ := h.get i d j f nm same dj pj hj p hh hk
  simp only [Nat.zero_add, Bool.and_eq_true] at h1
  obtain ⟨⟨⟨⟨⟨a1, a2⟩, a3⟩, a4⟩, a5⟩, a6⟩ := h1
  refine ⟨⟨Nat.le_of_ble_eq_true a1, Nat.le_of_ble_eq_true a2⟩, ⟨a3, a4, a5⟩, h2, h3, fun i' hi' => ?_⟩
  have hl : i' < ks.length := by
    unfold takesL at hi'
    split at hi'
    · rename_i hk'
      exact (List.getElem?_eq_some_iff.1 hk').1
    · cases hi'
  have := List.all_eq_true.1 a6 i' (List.mem_range.2 hl)
  simp only [hi', Bool.not_true, Bool.false_or] at this
  exact Nat.eq_of_beq_eq_true this
theorem TrC.lin {Q : Exit → Act → World → Prop} {id : Nat} (n0 : Nat) (A0 : List HP) (hm : P.follows .mixedOrders = true) (hd : dstsOk n l = true) (hf : flowOK n0 l = true) (ht : tailOK n0 l = true) (hn : Nat.ble n0 l.length = true)
    (h : FlowL P l.toArray A0 (l.take n0) E (fun ks E' => A = srcsL ks ++ A0 ∧ LinA l ks ks 0 ∧ ∀ β : Nat → OS, TrL P B n l.toArray Q (l.drop n0) (envL β ks 0 E') (blksL β ks 0 ++ A0))) : TrC P B n Q (.region id l.toArray true) E A := by
  refine TrC.flowL n0 hm hd hf ht A0 ?_
  have key : ∀ (l' : List Oper) (E : Env) (K K' : List KindL → Env → Prop), (∀ ks E', ks.length = l'.length → K ks E' → K' ks E') → FlowL P l.toArray A0 l' E K → FlowL P l.toArray A0 l' E K' := by
    intro l'
    induction l' with
    | nil => exact fun E K K' h hk => h [] E rfl hk
    | cons o l' ih => exact fun E K K' h ⟨k, h1, h2⟩ => ⟨k, h1, ih _ _ _ (fun ks E' hl hk => h (k :: ks) E' (by simp [hl]) hk) h2⟩
  refine key _ _ _ _ (fun ks E' hl hk => ?_) h
  obtain ⟨h1, h2, h3⟩ := hk
  refine ⟨h1, h2.ok, fun β => ?_⟩
  have hle := Nat.le_of_ble_eq_true hn
  have e : (List.range n0).filterMap (blkL ks (fun _ => true) β) = blksL β ks 0 := by
    rw [List.length_take, Nat.min_eq_left hle] at hl
    rw [← blksL_range ks β (fun i j => h2.ok.lt i j) ks 0 (fun j => by simp), List.range_eq_range', hl]
  rw [e]; exact h3 β
end
end Go.Mp
namespace Go.Mp
open Go
section
variable {P : Program} {o : Oper} {E : Env} {A : List HP} {R : Pred} {B : Base} {S : Store} {W : World} {n : Nat} {ops : Array Oper} {Q : Exit → Act → World → Prop}
theorem FlowL.nil {K : List KindL → Env → Prop} (h : K [] E) : FlowL P ops A [] E K := h
theorem M {K : List KindL → Env → Prop} {rest : List Oper} {d : Nat} (hg : o.guard = none) (hd : o.dst = some d) (h : PStep P o E A R) (k : FlowL P ops A rest ((d, R) :: E) (fun ks E' => K (.pure R :: ks) E')) : FlowL P ops A (o :: rest) E K :=
  ⟨.pure R, WStep.plain hg h, by simp only [KindL.env, bindDst, hd]; exact k⟩
theorem MA {K : List KindL → Env → Prop} {rest : List Oper} {d : Nat} {T : TypeId} {ps : List Pred} (hd : o.dst = some d) (h : AStep P o E A T ps) (k : FlowL P ops A rest ((d, pEx (fun r => pPtr r.b 0)) :: E) (fun ks E' => K (.blk (some d) .new (fun r => pPtr r.b 0) (fun r => hCells r.b T ps) :: ks) E')) : FlowL P ops A (o :: rest) E K :=
  ⟨.blk (some d) .new _ _, ⟨hd, h⟩, by simp only [KindL.env, bindDst, hd]; exact k⟩
theorem MR {K : List KindL → Env → Prop} {rest : List Oper} {d : Nat} {p : OS → Pred} {h : OS → HP} (hd : o.dst = some d) (hh : AStepG P o E A p h) (k : FlowL P ops A rest ((d, pEx p) :: E) (fun ks E' => K (.blk (some d) .new p h :: ks) E')) : FlowL P ops A (o :: rest) E K :=
  ⟨.blk (some d) .new _ _, ⟨hd, hh⟩, by simp only [KindL.env, bindDst, hd]; exact k⟩
theorem MT {K : List KindL → Env → Prop} {rest : List Oper} {d : Nat} {h0 : HP} {p : OS → Pred} {h : OS → HP} (hd : o.dst = some d) (hh : TStepG P o E A h0 p h) (k : FlowL P ops A rest ((d, pEx p) :: E) (fun ks E' => K (.blk (some d) (.was h0) p h :: ks) E')) : FlowL P ops A (o :: rest) E K :=
  ⟨.blk (some d) (.was h0) _ _, ⟨hd, hh⟩, by simp only [KindL.env, bindDst, hd]; exact k⟩
theorem MO {K : List KindL → Env → Prop} {rest : List Oper} {d : Nat} (j f nm dj : Nat) (pj : OS → Pred) (hj : OS → HP) {p : OS → Pred} {h : OS → HP} (hd : o.dst = some d) (hh : ∀ q, TStepG P o ((dj, pj q) :: E) A (hj q) p h) (k : FlowL P ops A rest ((d, pEx p) :: E) (fun ks E' => K (.blk (some d) (.op j f nm false dj pj hj) p h :: ks) E')) : FlowL P ops A (o :: rest) E K :=
  ⟨.blk (some d) (.op j f nm false dj pj hj) _ _, ⟨hd, hh⟩, by simp only [KindL.env, bindDst, hd]; exact k⟩
theorem MS {K : List KindL → Env → Prop} {rest : List Oper} (j f nm dj : Nat) (pj : OS → Pred) (hj : OS → HP) {h : OS → HP} (hd : o.dst = none) (hh : ∀ q, TStepG P o ((dj, pj q) :: E) A (hj q) (fun _ => pAny) (fun _ => h q)) (k : FlowL P ops A rest E (fun ks E' => K (.blk none (.op j f nm true dj pj hj) (fun _ => pAny) h :: ks) E')) : FlowL P ops A (o :: rest) E K :=
  ⟨.blk none (.op j f nm true dj pj hj) (fun _ => pAny) h, ⟨hd, hh⟩, by simp only [KindL.env, bindDst, hd]; exact k⟩
theorem TStepG.share {α : Type} [Enc α] {g : Bool} {T : TypeId} {h0 : HP} {xs : List α} (h : TStepG P o E A h0 (fun z => pOwn z xs) (fun z => hRow g T z xs)) : TStepG P o E A h0 (fun z => pSh z xs) (fun z => hGrow T z xs) :=
  ⟨h.1, fun A' hA B S W a hs he K Q hK => h.2 A' hA B S W a hs he K Q fun z v S' W' hS hs' hv => by
    obtain ⟨S'', h1, h2, h3⟩ := hs'.share (k := 0) rfl
    exact hK z v S'' W' (hS.trans h1) h2 ⟨(pOwn z xs).mono h1 hv, h3 v hv⟩⟩
theorem Lk.exSl {α : Type} [Enc α] {x : Operand} {xs : List α} (h : Lk E x (pEx fun z => pSh z xs)) : Lk E x (pSl xs) := h.imp fun _ _ h => h.choose_spec.2
theorem TStepG.ofStep {h0 h1 : HP} (hg : o.guard = none) (h : ∀ A', Step P o E (h0 :: A') R (h1 :: A')) : TStepG P o E A h0 (fun _ => R) (fun _ => h1) :=
  ⟨hg, fun A' _ B S W a hs he K Q hK => h A' B S W a hs he K Q fun v S' W' hS hs' hv => hK .nil v S' W' hS hs' hv⟩
theorem TrL.conv {l : List Oper} {E E' : Env} {A A' : List HP} (hE : E = E') (hA : A = A') (h : TrL P B n ops Q l E' A') : TrL P B n ops Q l E A := by subst hE hA; exact h
theorem Tr.front {G : Act → World → Prop} (k : Nat) {h : HP} (hk : nth A k = some h) (H : Tr B n G E (h :: A.set k hNone)) : Tr B n G E A := fun S W a hs he => H S W a (hs.none.perm (perm_set_none hk).symm) he
theorem TrC.front {c : Code} (k : Nat) {h : HP} (hk : nth A k = some h) (H : TrC P B n Q c E (h :: A.set k hNone)) : TrC P B n Q c E A := Tr.front k hk H
theorem fnOfRow {f : FuncId} {ps : List Pred} {α : Type} [Enc α] {T : TypeId} {xs : List α} (hs : FnRow P f ps (fun o => pOwn o xs) (fun o => hOwn T o xs)) : Fn P f ps (pSl xs) := by
  intro B S W vs hsat hv
  refine (hs B S W vs hsat hv).mono ?_
  rintro e W' ⟨x, r, S', rfl, hp, hS, hs'⟩
  obtain ⟨S'', h1, h2, h3⟩ := hs'.settle (k := 0) rfl
  exact ⟨r, S'', rfl, own_sl h1 h3 hp, hS.trans h1, h2.sub (List.nil_sublist _)⟩
end
end Go.Mp
namespace Go.Mp
open Go
section
variable {P : Program} {o : Oper} {E : Env} {A : List HP} {R : Pred} {B : Base} {S : Store} {W : World} {n : Nat} {l : List Oper} {Q : Exit → Act → World → Prop}
theorem TrC.lin0 {id : Nat} (n0 : Nat) (hm : P.follows .mixedOrders = true) (hd : dstsOk n l = true) (hf : flowOK n0 l = true) (ht : tailOK n0 l = true) (hn : Nat.ble n0 l.length = true)
    (h : FlowL P l.toArray A (l.take n0) E (fun ks E' => A = srcsL ks ++ A ∧ LinA l ks ks 0 ∧ ∀ β : Nat → OS, TrL P B n l.toArray Q (l.drop n0) (envL β ks 0 E') (blksL β ks 0 ++ A))) : TrC P B n Q (.region id l.toArray true) E A := TrC.lin n0 A hm hd hf ht hn h
theorem TrC.lin1 {id : Nat} {h0 : HP} (n0 : Nat) (hm : P.follows .mixedOrders = true) (hd : dstsOk n l = true) (hf : flowOK n0 l = true) (ht : tailOK n0 l = true) (hn : Nat.ble n0 l.length = true)
    (h : FlowL P l.toArray A (l.take n0) E (fun ks E' => h0 :: A = srcsL ks ++ A ∧ LinA l ks ks 0 ∧ ∀ β : Nat → OS, TrL P B n l.toArray Q (l.drop n0) (envL β ks 0 E') (blksL β ks 0 ++ A))) : TrC P B n Q (.region id l.toArray true) E (h0 :: A) := TrC.lin n0 A hm hd hf ht hn h
theorem TrC.grow {c : Code} (k : Nat) {α : Type} [Enc α] {T : TypeId} {r : OS} {xs : List α} (hk : nth A k = some (hOwn T r xs)) (h : TrC P B n Q c E (A.set k (hGrow T r xs))) : TrC P B n Q c E A := Tr.weakA (h' := hGrow T r xs) k hk rfl (fun _ _ h => h) h (fun _ h => nomatch h.1)
end
end Go.Mp
namespace Go.Mp
open Go
section
variable {P : Program} {o : Oper} {E : Env} {A : List HP} {R : Pred} {B : Base} {S : Store} {W : World}
end
end Go.Mp
namespace Go.Mp
open Go
set_option linter.unusedVariables false
set_option linter.unusedSimpArgs false
section
variable {P : Program} {o : Oper} {E : Env} {A : List HP} {R : Pred} {B : Base} {S : Store} {W : World}
theorem TStepG.call {f : FuncId} {args : Array Operand} {tys : Array TypeId} {ps : List Pred} {h0 : HP} {p : OS → Pred} {h : OS → HP} (hs : SpecX (X := OS) P f ps [h0] p fun r => [h r]) (hf : ∀ args W, (callFunc f args).run P W = .ok (.enter f args) W)
    (ho : o.op = .call ⟨.value (.func f), args, tys⟩) (hg : o.guard = none) (hx : LkAll E args.toList ps) : TStepG P o E A h0 p h := by
  refine ⟨hg, fun A' hA B S W a hsat he K Q hK => ?_⟩
  have hv := hx.hold he (reads_call ho)
  unfold Oper.wp
  rw [run_callf hf ho]
  simp only [Oper.upon_enter]
  refine (hs (B.sub hsat.base (frameOf W B.F A')) S W _ (Sat.frame (A1 := [h0]) (by simpa using hsat)) hv).mono ?_
  rintro e W' ⟨r, v, S', rfl, hp, hS, hs'⟩
  exact hK r v S' W' hS (by simpa using Sat.unframe (A1 := [h0]) (by simpa using hsat) hS hs') hp
theorem RetOKX.of {X : Type} {fn : Func} {p : X → Pred} {A' : X → List HP} (x : X) (h : RetOK P fn E A (p x) (A' x)) : RetOKX P fn E A p A' := fun B n S W a hs he => by
  obtain ⟨v, h1, S', h2, h3, h4⟩ := h B n S W a hs he
  exact ⟨x, v, h1, S', h2, h3, h4⟩
theorem sub1 (k : Nat) {h : HP} (hk : nth A k = some h) : [h].Sublist A := List.singleton_sublist.2 (mem_nth hk)
theorem PStep.slV {T e : TypeId} {x : Operand} {lo hi : Option Operand} {ad : Option Addr} {n c k : Nat} (l h : Nat) {ad' : Option Addr} (hT : ∀ W, (underlying T).run P W = .ok (.slice e) W) (he' : ∀ W, (sizeOf e).run P W = .ok k W) (ho : o.op = .slice T x lo hi .none)
    (hx : Lk E x (pV (.slice ad n c))) (hlo : boundOK E lo 0 l) (hhi : boundOK E hi n h) (hnc : n ≤ c) (hlh : l ≤ h ∧ h ≤ c) (ha : (if c = l then ad else ad.map (·.add (l * k))) = ad') : PStep P o E A (pV (.slice ad' (h - l) (c - l))) := PStep.val fun S W a hS he => by
  have h1 : a.eval x = .slice ad n c := hx.at he (by simp +contextual [readsOf, ho, Op.operands])
  have eb : (Instr.sliceBounds true n c (lo.map a.eval) (hi.map a.eval) .none).run P W = .ok (l, h, c) W := by
    have e1 : (match hi.map a.eval with | .some v => Instr.sliceBound v c .sliceAcap | .none => Pure.pure n : Sem Nat).run P W = .ok h W := by
      cases hi with
      | none => simp [boundOK] at hhi; subst hhi; rfl
      | some y =>
        obtain ⟨k, hk⟩ := hhi
        exact run_sliceBounds _ (hk.at he (by simp +contextual [readsOf, ho, Op.operands])) (by omega)
    have e2 : (match lo.map a.eval with | .some v => Instr.sliceBound v h .sliceB | .none => Pure.pure 0 : Sem Nat).run P W = .ok l W := by
      cases lo with
      | none => simp [boundOK] at hlo; subst hlo; rfl
      | some y =>
        obtain ⟨k, hk⟩ := hlo
        exact run_sliceBounds _ (hk.at he (by simp +contextual [readsOf, ho, Op.operands])) (by omega)
    unfold Instr.sliceBounds
    cases hi <;> cases lo <;> simp_all
  refine ⟨.slice ad' (h - l) (c - l), by simp [execOp, ho, h1, Instr.sliceAt, Instr.slice, hT, eb, he', ha], rfl⟩
theorem flat_append' {α : Type} [Enc α] (xs ys : List α) : flat (xs ++ ys) = flat xs ++ flat ys := by simp [flat]
theorem TStepG.appendSelf {α : Type} [Enc α] {T e : TypeId} {bytes : Nat} {x y : Operand} {b c cy : Nat} {xs : List α} (i j : Nat) {ay : Option Addr} (hT : ApT P T e (Enc.n α) bytes) (hg : o.guard = none) (ho : o.op = .call ⟨.builtin .append, #[x, y], #[T, T]⟩)
    (hx : Lk E x (pV (.slice (some ⟨b, 0, none⟩) i c))) (hy : Lk E y (pV (.slice ay (xs.length - j) cy))) (hij : i ≤ j ∧ j ≤ xs.length) (hxc : xs.length ≤ c) (hay : j < xs.length → ay = some ⟨b, j * Enc.n α, none⟩) :
    TStepG P o E A (hOwn e (.at b c) xs) (fun _ => pV (.slice (some ⟨b, 0, none⟩) (i + (xs.length - j)) c)) (fun _ => hOwn e (.at b c) (xs.take i ++ xs.drop j)) := by
  refine ⟨hg, fun A' hA B S W a hs he K Q hK => ?_⟩
  have e1 : a.eval x = .slice (some ⟨b, 0, none⟩) i c := hx.at he (by simp +contextual [readsOf, ho, Op.operands, Call.operands])
  have e2 : a.eval y = .slice ay (xs.length - j) cy := hy.at he (by simp +contextual [readsOf, ho, Op.operands, Call.operands])
  obtain ⟨ti, z, i1, i2, i3, i4, i5⟩ := hT.info
  obtain ⟨cur, g1, g2, g3, g4, g5⟩ := own_cur (k := 0) hs rfl b c rfl
  have fin : ∀ (v : Value) (W' : World), (Builtin.append_ #[T, T] o.type #[a.eval x, a.eval y]).run P W = .ok v W' → v = .slice (some ⟨b, 0, none⟩) (i + (xs.length - j)) c → Sat B S (hOwn e (.at b c) (xs.take i ++ xs.drop j) :: A') W' → o.wp P a W K Q := by
    intro v W' hrun hv hs'
    unfold Oper.wp
    rw [run_bcall ho (r := .ok (.value v) W') (by simp [builtin, hrun])]
    exact hK .nil v S W' (Store.le.refl _) hs' hv
  have hlen : (xs.take i ++ xs.drop j).length = i + (xs.length - j) := by rw [List.length_append, List.length_take, List.length_drop]; omega
  by_cases hj : j = xs.length
  · subst hj
    refine fin (.slice (some ⟨b, 0, none⟩) i c) W ?_ (by simp) ?_
    · rw [e1, e2, Nat.sub_self]; exact run_append_nothing (k := 0) (bytes := 0) hT.und i1 (by omega) _ _
    · have : (xs.take i ++ xs.drop xs.length) = xs.take i := by simp
      rw [this]
      refine hs.turn (k := 0) rfl (b := b) rfl rfl ⟨b, c, cur, rfl, rfl, g2, by rw [List.length_take]; omega, g4, ?_⟩ rfl rfl rfl g1 (fun _ _ => rfl)
      rw [flat_take]; exact g5.take _
  · obtain ⟨vs, k1, k2, k3⟩ := g5.vals
    rw [flat_length] at k1
    have hk0 := Enc.pos (α := α)
    have hjn : j * Enc.n α ≤ xs.length * Enc.n α := Nat.mul_le_mul_right _ hij.2
    have hin : i * Enc.n α ≤ j * Enc.n α := Nat.mul_le_mul_right _ hij.1
    have hcn : xs.length * Enc.n α ≤ cur.size := by rw [g2]; exact Nat.mul_le_mul_right _ hxc
    have hnl : (vs.drop (j * Enc.n α)).length = (xs.length - j) * Enc.n α := by rw [List.length_drop, k1, Nat.sub_mul]
    have hget : ∀ t u, (vs.drop (j * Enc.n α))[t]? = some u → W.cell? (Addr.add ⟨b, j * Enc.n α, none⟩ t) = some u := by
      intro t u hu
      rw [List.getElem?_drop] at hu
      rw [add_plain, cell_of g1]
      have := k2 _ _ hu
      rwa [Nat.zero_add] at this
    have hone : ∀ u ∈ vs.drop (j * Enc.n α), u.oneCell' = true := fun u hu => k3.oneAll (by rw [k1, flat_length]) u (List.mem_of_mem_drop hu)
    have hr := run_append_room (P := P) W T o.type e ti hT.und i1 b i c cur g1 ⟨b, j * Enc.n α, none⟩ (xs.length - j) cy (vs.drop (j * Enc.n α)) (by rw [hnl, i3]) hget hone (by omega) (by rw [hnl, i3, Nat.sub_mul]; omega)
    refine fin _ _ (by rw [e1, e2, hay (by omega)]; exact hr) rfl ?_
    refine hs.turn (k := 0) rfl (b := b) rfl rfl ⟨b, c, _, rfl, rfl, ?_, by rw [hlen]; omega, g4, ?_⟩ rfl rfl rfl (setRow_heap W b cur _ e _ g1) (fun c' hc' => setRow_other W b c' _ hc')
    · simp only [List.size_toArray, List.length_append, List.length_take, List.length_drop, Array.length_toList, hnl, i3]
      have hm := Nat.sub_mul xs.length j (Enc.n α)
      omega
    · have htake : pCells (vs.take (i * Enc.n α)).toArray 0 ((flat xs).take (i * Enc.n α)) S := fun t p hp => by
        rw [List.getElem?_take] at hp
        split at hp
        · rename_i ht
          obtain ⟨u, q1, q2⟩ := k3 t p hp
          refine ⟨u, ?_, q2⟩
          simp only [Nat.zero_add, List.getElem?_toArray] at q1 ⊢
          rw [List.getElem?_take, if_pos ht]; exact q1
        · cases hp
      have hdrop : pCells (vs.drop (j * Enc.n α)).toArray 0 ((flat xs).drop (j * Enc.n α)) S := fun t p hp => by
        rw [List.getElem?_drop] at hp
        obtain ⟨u, q1, q2⟩ := k3 _ p hp
        refine ⟨u, ?_, q2⟩
        simp only [Nat.zero_add, List.getElem?_toArray] at q1 ⊢
        rw [List.getElem?_drop]; exact q1
      rw [flat_append', flat_take, flat_drop]
      have hl1 : (vs.take (i * Enc.n α)).length = ((flat xs).take (i * Enc.n α)).length := by rw [List.length_take, List.length_take, k1, flat_length]
      refine (htake.append hdrop hl1).ofVals (by rw [List.length_append, List.length_append, hl1, List.length_drop, List.length_drop, k1, flat_length]) ?_
      have hcv : cur.toList.take (i * Enc.n α) = vs.take (i * Enc.n α) := by
        apply List.ext_getElem?
        intro t
        rw [List.getElem?_take, List.getElem?_take]
        by_cases ht : t < i * Enc.n α
        · rw [if_pos ht, if_pos ht]
          have := k2 t _ (List.getElem?_eq_getElem (show t < vs.length by omega))
          rw [Nat.zero_add] at this
          rw [List.getElem?_eq_getElem (show t < vs.length by omega), ← this]; simp
        · rw [if_neg ht, if_neg ht]
      simp only [i3, hcv]
      rw [List.take_left']
      rfl
theorem Step.clearV (k : Nat) {α : Type} [Enc α] {T e : TypeId} {y : Operand} {b c off m cy : Nat} {ys : List α} {zv : Value} (hT : P.underlying T = some (.slice e)) (hz : ∀ W, (zeroValue e).run P W = .ok zv W) (hzs : zv.cells.size = Enc.n α) (h1 : ∀ u ∈ zv.cells.toList, u.oneCell' = true)
    (ho : o.op = .call ⟨.builtin .clear, #[y], #[T]⟩) (hy : Lk E y (pV (.slice (some ⟨b, off * Enc.n α, none⟩) m cy))) (hm : 0 < m) (hoff : ys.length ≤ off) (hc : off + m ≤ c) (hk : nth A k = some (hOwn e (.at b c) ys)) : Step P o E A pAny A := by
  intro B S W a hs he K Q hK
  have e1 : a.eval y = .slice (some ⟨b, off * Enc.n α, none⟩) m cy := hy.at he (by simp +contextual [readsOf, ho, Op.operands, Call.operands])
  obtain ⟨cur, g1, g2, g3, g4, g5⟩ := own_cur hs hk b c rfl
  have hk0 := Enc.pos (α := α)
  have hle : (off + m) * Enc.n α ≤ c * Enc.n α := Nat.mul_le_mul_right _ hc
  have hle2 : ys.length * Enc.n α ≤ off * Enc.n α := Nat.mul_le_mul_right _ hoff
  rw [Nat.add_mul] at hle
  have hzl : (Builtin.zeroCells zv.cells m).toList.length = m * Enc.n α := by simp [Builtin.zeroCells, hzs]
  have hone : ∀ u ∈ (Builtin.zeroCells zv.cells m).toList, u.oneCell' = true := by
    intro u hu
    simp only [Builtin.zeroCells, Array.toList_map, List.mem_map] at hu
    obtain ⟨i, _, rfl⟩ := hu
    have hi : i % zv.cells.size < zv.cells.size := Nat.mod_lt _ (by omega)
    rw [getElem!_pos zv.cells _ hi]
    exact h1 _ (by simp)
  have hst := run_storeCells_at (P := P) b (off * Enc.n α) e (Builtin.zeroCells zv.cells m).toList 0 cur W g1 (by rw [hzl, g2]; omega) hone
  simp only [Nat.add_zero] at hst
  have hrun : (Builtin.clear_ #[T] o.type #[a.eval y]).run P W = .ok (.tuple #[]) (W.setRow b (cur.toList.take (off * Enc.n α) ++ (Builtin.zeroCells zv.cells m).toList ++ cur.toList.drop (off * Enc.n α + (Builtin.zeroCells zv.cells m).toList.length)).toArray) := by
    rw [e1]
    obtain ⟨m', rfl⟩ : ∃ m', m = m' + 1 := ⟨m - 1, by omega⟩
    simp [Builtin.clear_, run_underlying hT, hz, hst]
  generalize hW1 : W.setRow b (cur.toList.take (off * Enc.n α) ++ (Builtin.zeroCells zv.cells m).toList ++ cur.toList.drop (off * Enc.n α + (Builtin.zeroCells zv.cells m).toList.length)).toArray = W1 at hrun
  unfold Oper.wp
  rw [run_bcall ho (r := .ok (.value (.tuple #[])) W1) (by simp [builtin, hrun])]
  refine hK _ S _ (Store.le.refl _) ?_ trivial
  subst hW1
  suffices h2 : Sat B S (A.set k (hOwn e (.at b c) ys)) (W.setRow b (cur.toList.take (off * Enc.n α) ++ (Builtin.zeroCells zv.cells m).toList ++ cur.toList.drop (off * Enc.n α + (Builtin.zeroCells zv.cells m).toList.length)).toArray) by rwa [set_same hk] at h2
  refine hs.turn hk (b := b) rfl rfl ⟨b, c, _, rfl, rfl, ?_, g3, g4, ?_⟩ rfl rfl rfl (setRow_heap W b cur _ e _ g1) (fun c' hc' => setRow_other W b c' _ hc')
  · simp only [List.size_toArray, List.length_append, List.length_take, List.length_drop, Array.length_toList, hzl]
    omega
  · intro j p hp
    obtain ⟨u, q1, q2⟩ := g5 j p hp
    refine ⟨u, ?_, q2⟩
    have hj : j < ys.length * Enc.n α := by rw [← flat_length]; exact (List.getElem?_eq_some_iff.1 hp).1
    rw [Nat.zero_add] at q1 ⊢
    rw [List.append_assoc, List.getElem?_toArray, List.getElem?_append_left (by rw [List.length_take, Array.length_toList]; omega), List.getElem?_take, if_pos (by omega)]
    simpa using q1
theorem PStep.slV3 {T e : TypeId} {x lo hi mx : Operand} {ad : Option Addr} {n c k : Nat} (l h m : Nat) (hT : ∀ W, (underlying T).run P W = .ok (.slice e) W) (he' : ∀ W, (sizeOf e).run P W = .ok k W) (ho : o.op = .slice T x (.some lo) (.some hi) (.some mx))
    (hx : Lk E x (pV (.slice ad n c))) (hlo : Lk E lo (pI (l : Int))) (hhi : Lk E hi (pI (h : Int))) (hmx : Lk E mx (pI (m : Int))) (hlh : l ≤ h ∧ h ≤ m ∧ m ≤ c) : PStep P o E A pAny := PStep.val fun S W a hS he => by
  have h1 : a.eval x = .slice ad n c := hx.at he (by simp +contextual [readsOf, ho, Op.operands])
  have v1 : a.eval lo = .int .i64 (l : Int) := hlo.at he (by simp +contextual [readsOf, ho, Op.operands])
  have v2 : a.eval hi = .int .i64 (h : Int) := hhi.at he (by simp +contextual [readsOf, ho, Op.operands])
  have v3 : a.eval mx = .int .i64 (m : Int) := hmx.at he (by simp +contextual [readsOf, ho, Op.operands])
  have e1 : (Instr.sliceBound (.int .i64 (m : Int)) c .slice3Acap).run P W = .ok m W := run_sliceBounds _ rfl (by omega)
  have e2 : (Instr.sliceBound (.int .i64 (h : Int)) m .slice3B).run P W = .ok h W := run_sliceBounds _ rfl (by omega)
  have e3 : (Instr.sliceBound (.int .i64 (l : Int)) h .slice3C).run P W = .ok l W := run_sliceBounds _ rfl (by omega)
  exact ⟨_, by simp [execOp, ho, h1, Instr.sliceAt, Instr.slice, hT, he', v1, v2, v3, Instr.sliceBounds, e1, e2, e3]; rfl, trivial⟩
variable {n : Nat} {Q : Exit → Act → World → Prop} in
theorem TrC.capA {c : Code} (k : Nat) {α : Type} [Enc α] {g : Bool} {T : TypeId} {b cap : Nat} {xs : List α} (hk : nth A k = some (hRow g T (.at b cap) xs)) (h : xs.length ≤ cap → TrC P B n Q c E A) : TrC P B n Q c E A := fun S W a hs he => by
  obtain ⟨cur, g1, g2, g3, g4, g5⟩ := own_cur hs hk b cap rfl
  exact h g3 S W a hs he
theorem Lk.atV {α : Type} [Enc α] {x : Operand} {b c : Nat} {xs : List α} (h : Lk E x (pOwn (.at b c) xs)) : Lk E x (pV (.slice (some ⟨b, 0, none⟩) xs.length c)) := h.imp fun _ _ h => h
theorem Lk.nilV {α : Type} [Enc α] {x : Operand} {xs : List α} (h : Lk E x (pOwn .nil xs)) : Lk E x (pV (.slice none 0 0)) := h.imp fun _ _ h => h.1
theorem PStep.lenV {T e : TypeId} {x : Operand} {ad : Option Addr} {n c : Nat} (hT : ∀ W, (underlying T).run P W = .ok (.slice e) W) (ho : o.op = .call ⟨.builtin .len, #[x], #[T]⟩) (hx : Lk E x (pV (.slice ad n c))) : PStep P o E A (pI n) := PStep.val fun S W a hS he => by
  have h1 : a.eval x = .slice ad n c := hx.at he (by simp +contextual [readsOf, ho, Op.operands, Call.operands])
  refine ⟨.int .i64 n, run_bcall ho ?_, rfl⟩
  simp [builtin, Builtin.len_, h1, hT, goInt]
section
variable {κ ν : Type} [DecidableEq κ]
def delM (k : κ) : List (κ × ν) → List (κ × ν)
  | [] => []
  | e :: m => if k = e.1 then m else e :: delM k m
theorem rows_put (h : ν → HP) (k : κ) (v : ν) : ∀ m : List (κ × ν), ((putM k v m).map fun e => h e.2).Perm (h v :: (delM k m).map fun e => h e.2)
  | [] => by simp [putM, delM]
  | e :: m => by
    unfold putM delM
    by_cases hk : k = e.1
    · rw [if_pos hk, if_pos hk]; exact List.Perm.refl _
    · rw [if_neg hk, if_neg hk]
      exact ((rows_put h k v m).cons (h e.2)).trans (List.Perm.swap _ _ _)
theorem findM_map (k : κ) : ∀ (m : List (κ × ν)) (i : Nat), (findM k m i).map (·.2) = getM m k
  | [], i => rfl
  | e :: m, i => by
    unfold getM findM
    by_cases hk : k = e.1
    · rw [if_pos hk, if_pos hk]; rfl
    · rw [if_neg hk, if_neg hk, findM_map k m, findM_map k m]
theorem rows_get (h : ν → HP) (k : κ) : ∀ m : List (κ × ν), match getM m k with
    | some v => (m.map fun e => h e.2).Perm (h v :: (delM k m).map fun e => h e.2)
    | none => delM k m = m
  | [] => rfl
  | e :: m => by
    have hg : getM (e :: m) k = if k = e.1 then some e.2 else getM m k := by
      show (findM k (e :: m) 0).map (·.2) = _
      unfold findM
      by_cases hk : k = e.1
      · rw [if_pos hk, if_pos hk]; rfl
      · rw [if_neg hk, if_neg hk, findM_map]
    rw [hg]
    unfold delM
    by_cases hk : k = e.1
    · rw [if_pos hk, if_pos hk]; exact List.Perm.refl _
    · rw [if_neg hk, if_neg hk]
      have ih := rows_get h k m
      cases hgm : getM m k with
      | none => rw [hgm] at ih; simp only at ih ⊢; rw [ih]
      | some v => rw [hgm] at ih; exact (ih.cons (h e.2)).trans (List.Perm.swap _ _ _)
variable {A0 : List HP} {m : List (κ × ν)} {B : Base} {n : Nat} {E : Env}
theorem Sat.layNone {S : Store} {A : List HP} {W : World} {h : HP} (hh : h.blk = Option.none) (hs : Sat B S A W) : Sat B S (h :: A) W := ⟨hs.os, hs.tape, hs.output, hs.base, hs.agreeS, hs.agreeF, hs.sepF, fun y hy c hyc => by
    rcases List.mem_cons.1 hy with rfl | hy
    · rw [hh] at hyc; cases hyc
    · exact hs.own y hy c hyc, by rw [List.filterMap_cons_none hh]; exact hs.nodup⟩
theorem Tr.rowOut {G : Act → World → Prop} (h : ν → HP) (k : κ) (z : ν) (hz : (h z).blk = Option.none) (H : Tr B n G E (h ((getM m k).getD z) :: (A0 ++ (delM k m).map fun e => h e.2))) : Tr B n G E (A0 ++ m.map fun e => h e.2) := fun S W a hs he => by
  refine H S W a ?_ he
  have hg := rows_get h k m
  cases hgm : getM m k with
  | none =>
    rw [hgm] at hg
    have hg : delM k m = m := hg
    rw [hg]; exact hs.layNone hz
  | some v =>
    rw [hgm] at hg
    exact hs.perm ((hg.append_left A0).trans List.perm_middle)
theorem Tr.rowIn {G : Act → World → Prop} (h : ν → HP) (k : κ) (v : ν) (H : Tr B n G E (A0 ++ (putM k v m).map fun e => h e.2)) : Tr B n G E (h v :: (A0 ++ (delM k m).map fun e => h e.2)) := fun S W a hs he =>
  H S W a (hs.perm (((rows_put h k v m).append_left A0).trans List.perm_middle).symm) he
end
end
end Go.Mp
namespace Go.Mp
open Go
set_option linter.unusedVariables false
set_option linter.unusedSimpArgs false
section
variable {P : Program} {o : Oper} {E : Env} {A : List HP} {R : Pred} {B : Base} {S : Store} {W : World} {n : Nat} {ops : Array Oper} {Q : Exit → Act → World → Prop}
theorem TrL.callF {X : Type} {A1 A2 : List HP} {f : FuncId} {args : Array Operand} {tys : Array TypeId} {rest : List Oper} {ps : List Pred} {p : X → Pred} {A1' : X → List HP} (hs : SpecX P f ps A1 p A1') (hf : ∀ args W, (callFunc f args).run P W = .ok (.enter f args) W)
    (ho : o.op = .call ⟨.value (.func f), args, tys⟩) (hg : o.guard = none) (hx : LkAll E args.toList ps) (hA : A = A1 ++ A2) (K : ∀ x, TrL P B n ops Q rest (bindDst o (p x) E) (A1' x ++ A2)) : TrL P B n ops Q (o :: rest) E A := by
  intro hdd S W a hsat he
  have hd' : dstOk n o = true ∧ dstsOk n rest = true := by simpa [dstsOk] using hdd
  refine wpList_plain hg fun K' hK => ?_
  have hv := hx.hold (he.on (readsOf o)) (reads_call ho)
  unfold Oper.wp
  rw [run_callf hf ho]
  simp only [Oper.upon_enter]
  subst hA
  refine (hs (B.sub hsat.base (frameOf W B.F A2)) S W _ (Sat.frame hsat) hv).mono ?_
  rintro e W' ⟨x, v, S', rfl, hp, hS, hs'⟩
  have hun := Sat.unframe hsat hS hs'
  exact hK _ _ (K x hd'.2 S' W' _ hun (put_dst hd'.1 he hS hp))
theorem TrL.callFD {X : Type} {A1 A2 : List HP} {f : FuncId} {d : Nat} {args : Array Operand} {tys : Array TypeId} {rest : List Oper} {ps : List Pred} {p : X → Pred} {A1' : X → List HP} (hs : SpecX P f ps A1 p A1') (hf : ∀ args W, (callFunc f args).run P W = .ok (.enter f args) W)
    (ho : o.op = .call ⟨.value (.func f), args, tys⟩) (hg : o.guard = none) (hd : o.dst = some d) (hx : LkAll E args.toList ps) (hA : A = A1 ++ A2) (K : ∀ x, TrL P B n ops Q rest ((d, p x) :: E) (A1' x ++ A2)) : TrL P B n ops Q (o :: rest) E A :=
  TrL.callF hs hf ho hg hx hA fun x => by
    have := K x
    unfold bindDst
    rw [hd]; exact this
def pClo (g : FuncId) (cps : List Pred) : Pred := ⟨fun v S => ∃ cs : Array Value, v = .func (.func g) #[] cs ∧ HoldAll cps cs.toList S, fun hS ⟨cs, h1, h2⟩ => ⟨cs, h1, h2.mono hS⟩⟩
instance (g : FuncId) (cps : List Pred) : One (pClo g cps) := ⟨fun v S ⟨_, h, _⟩ => by subst h; rfl⟩
theorem PStep.mkClo {g : FuncId} {caps : Array Operand} {cps : List Pred} (ho : o.op = .makeFunc (.func g) #[] caps) (hx : LkAll E caps.toList cps) : PStep P o E A (pClo g cps) := PStep.val fun S W a hS he => by
  have hv := hx.hold he (fun x hx t ht => by
    simp only [readsOf, ho, Op.operands, List.mem_flatMap]
    exact ⟨x, by simpa using hx, ht⟩)
  exact ⟨.func (.func g) #[] (caps.map a.eval), by simp [execOp, ho, Instr.makeFunc], caps.map a.eval, rfl, by simpa using hv⟩
theorem TrL.callFV {X : Type} {A1 A2 : List HP} {g : FuncId} {f : Operand} {args : Array Operand} {tys : Array TypeId} {rest : List Oper} {ps cps : List Pred} {p : X → Pred} {A1' : X → List HP} (hs : SpecX P g (ps ++ cps) A1 p A1') (hf : ∀ args W, (callFunc g args).run P W = .ok (.enter g args) W)
    (ho : o.op = .call ⟨.value f, args, tys⟩) (hg : o.guard = none) (hfv : Lk E f (pClo g cps)) (hx : LkAll E args.toList ps) (hA : A = A1 ++ A2) (K : ∀ x, TrL P B n ops Q rest (bindDst o (p x) E) (A1' x ++ A2)) : TrL P B n ops Q (o :: rest) E A := by
  intro hdd S W a hsat he
  have hd' : dstOk n o = true ∧ dstsOk n rest = true := by simpa [dstsOk] using hdd
  refine wpList_plain hg fun K' hK => ?_
  have hrd : ∀ y ∈ args.toList, ∀ t ∈ opdT y, t ∈ readsOf o := fun y hy t ht => by
    simp only [readsOf, ho, Op.operands, Call.operands, List.mem_flatMap]
    exact ⟨y, by simp at hy ⊢; exact .inr hy, ht⟩
  have hv := hx.hold (he.on (readsOf o)) hrd
  obtain ⟨cs, h1, h3⟩ := hfv.at (he.on (readsOf o)) (fun t ht => by
    simp only [readsOf, ho, Op.operands, Call.operands, List.mem_flatMap]
    exact ⟨f, by simp, ht⟩)
  unfold Oper.wp
  have hrun : (execOp a.eval o).run P W = .ok (.enter g (args.toList.map a.eval ++ cs.toList).toArray) W := by
    simp only [execOp, ho, resolve, h1, Deferred.ofValue, Sem.run_bind, Sem.run_pure, Result.andThen_ok, invoke]
    rw [hf]
    have e : #[] ++ Array.map a.eval args ++ cs = (args.toList.map a.eval ++ cs.toList).toArray := by apply Array.ext'; simp
    rw [e]
  rw [hrun]
  simp only [Oper.upon_enter]
  subst hA
  refine (hs (B.sub hsat.base (frameOf W B.F A2)) S W _ (Sat.frame hsat) (hv.append h3)).mono ?_
  rintro e W' ⟨x, v, S', rfl, hp, hS, hs'⟩
  have hun := Sat.unframe hsat hS hs'
  exact hK _ _ (K x hd'.2 S' W' _ hun (put_dst hd'.1 he hS hp))
theorem TrL.callFVD {X : Type} {A1 A2 : List HP} {g : FuncId} {d : Nat} {f : Operand} {args : Array Operand} {tys : Array TypeId} {rest : List Oper} {ps cps : List Pred} {p : X → Pred} {A1' : X → List HP} (hs : SpecX P g (ps ++ cps) A1 p A1') (hf : ∀ args W, (callFunc g args).run P W = .ok (.enter g args) W)
    (ho : o.op = .call ⟨.value f, args, tys⟩) (hg : o.guard = none) (hd : o.dst = some d) (hfv : Lk E f (pClo g cps)) (hx : LkAll E args.toList ps) (hA : A = A1 ++ A2) (K : ∀ x, TrL P B n ops Q rest ((d, p x) :: E) (A1' x ++ A2)) : TrL P B n ops Q (o :: rest) E A :=
  TrL.callFV hs hf ho hg hfv hx hA fun x => by
    have := K x
    unfold bindDst
    rw [hd]; exact this
theorem PStep.indexAK {T e len k : Nat} {x i : Operand} {ps qs : List Pred} (j : Nat) {m : Int} (hT : ∀ W, (underlying T).run P W = .ok (.array len e) W) (hs : ∀ W, (sizeOf e).run P W = .ok k W) (hg : ∀ W, (isAgg e).run P W = .ok true W)
    (ho : o.op = .index T x i) (hx : Lk E x (pAgg ps)) (hi : Lk E i (pI m)) (hm : m = (j : Int)) (hj : Nat.blt j len = true) (hl : ps.length = len * k) (hq : (ps.drop (j * k)).take k = qs) (hlq : qs.length = k) : PStep P o E A (pAgg qs) := PStep.val fun S W a hS he => by
  obtain ⟨c, h1, h2, h3⟩ := hx.at he (by simp +contextual [readsOf, ho, Op.operands])
  have h4 : a.eval i = .int .i64 m := hi.at he (by simp +contextual [readsOf, ho, Op.operands])
  subst hm
  have hj : j < len := Nat.le_of_ble_eq_true hj
  have h5 := (h3.drop (j * k)).take k
  rw [hq, Nat.zero_add] at h5
  have hsz : j * k + k ≤ c.size := by
    rw [h2, hl]
    have := Nat.mul_le_mul_right k (show j + 1 ≤ len from hj)
    rw [Nat.add_mul, Nat.one_mul] at this
    exact this
  have hjl : (j : Int) < (len : Int) := by omega
  refine ⟨.agg (c.extract (j * k) (j * k + k)), ?_, _, rfl, by rw [hlq, Array.size_extract]; omega, fun t p hp => ?_⟩
  · simp [execOp, ho, h1, h4, Instr.index, asIntOf, hT, hj, hs, part, hg, hsz]
  · obtain ⟨u, q1, q2, q3⟩ := h5 t p hp
    have ht : t < k := by rw [← hlq]; exact (List.getElem?_eq_some_iff.1 hp).1
    refine ⟨u, ?_, q2, q3⟩
    rw [Nat.zero_add, Array.getElem?_extract_of_lt (by omega)]
    rw [← q1]; exact (Array.getElem?_eq_getElem (by omega)).symm
theorem nilSh {α : Type} [Enc α] (v : Value) (S : Store) (h : (pV (.slice none 0 0)).holds v S) : (pSh .nil ([] : List α)).holds v S := ⟨nilOwn v S h, nilSl v S h⟩
theorem shSl {α : Type} [Enc α] {r : OS} {xs : List α} (v : Value) (S : Store) (h : (pSh r xs).holds v S) : (pSl xs).holds v S := h.2
theorem PStep.field1 {T f : Nat} {fs : Array Field} {fd : Field} {x : Operand} {ps : List Pred} {p : Pred} (hT : ∀ W, (underlying T).run P W = .ok (.struct fs) W) (hf : fs[f]? = some fd) (hg : ∀ W, (isAgg fd.type).run P W = .ok false W)
    (ho : o.op = .field T x f) (hx : Lk E x (pAgg ps)) (hp : nth ps fd.offset = some p) : PStep P o E A p := PStep.val fun S W a hS he => by
  obtain ⟨c, h1, h2, h3⟩ := hx.at he (by simp +contextual [readsOf, ho, Op.operands])
  obtain ⟨u, g1, g2, g3⟩ := h3 fd.offset p (by rw [← nth_eq]; exact hp)
  rw [Nat.zero_add] at g1
  exact ⟨u, by simp [execOp, ho, h1, Instr.field, hT, hf, asAgg, part, hg, g1], g3⟩
theorem Tr.shareCS {G : Act → World → Prop} (k j off : Nat) {α : Type} [Enc α] {g : Bool} {T T' : TypeId} {r : OS} {xs : List α} {b' : Nat} {ps : List Pred} (hk : nth A k = some (hRow g T r xs)) (hj : nth (A.set k (hGrow T r xs)) j = some (hCells b' T' ps)) (hp : nth ps off = some (pOwn r xs)) (h : Tr B n G E ((A.set k (hGrow T r xs)).set j (hCells b' T' (ps.set off (pSh r xs))))) : Tr B n G E A := by
  intro S W a hs he
  obtain ⟨S', hS, hs', hx⟩ := hs.share hk
  refine h S' W a ?_ (he.up hS)
  obtain ⟨o, g1, ⟨c, rfl, g2, g3⟩, _⟩ := hs'.own _ (mem_nth hj) b' rfl
  refine hs'.turn hj rfl rfl ⟨c, rfl, by rw [List.length_set]; exact g2, set_cell g3 hp fun v hv => ⟨by cases r <;> exact hv, hx v (by cases r <;> exact hv)⟩⟩ rfl rfl rfl g1 (fun _ _ => rfl)
theorem TrE.shareCS {e : Exit} (k j off : Nat) {α : Type} [Enc α] {g : Bool} {T T' : TypeId} {r : OS} {xs : List α} {b' : Nat} {ps : List Pred} (hk : nth A k = some (hRow g T r xs)) (hj : nth (A.set k (hGrow T r xs)) j = some (hCells b' T' ps)) (hp : nth ps off = some (pOwn r xs)) (h : TrE B n Q e E ((A.set k (hGrow T r xs)).set j (hCells b' T' (ps.set off (pSh r xs))))) : TrE B n Q e E A := Tr.shareCS k j off hk hj hp h
theorem Lk.optRef {α : Type} [Enc α] [Inhabited α] {x : Operand} {b : Option α} (hx : Lk E x (pOpt b)) (hb : b.isSome = true) : Lk E x (pR (b.getD default)) := hx.imp fun v S h => by
  cases b with
  | none => cases hb
  | some v => exact h
theorem Lk.fnV {X : Type} {ps : X → List Pred} {p : X → Pred} {g : FuncId} {x : Operand} (hs : ∀ x, Fn P g (ps x) (p x)) (hf : ∀ args W, (callFunc g args).run P W = .ok (.enter g args) W) (h : Lk E x (pV (.func (.func g) #[] #[]))) : Lk E x (pFun P ps p) := h.imp fun v S h =>
  ⟨g, #[], #[], h, hf, fun x B S' W vs hle hsat hv => by
    rw [Array.append_empty, Array.empty_append]
    exact hs x B S' W vs hsat hv⟩
theorem Lk.cloV {g : FuncId} {x : Operand} (h : Lk E x (pV (.func (.func g) #[] #[]))) : Lk E x (pClo g []) := h.imp fun v S h => ⟨#[], h, trivial⟩
theorem TrE.weakC {e : Exit} (j off : Nat) {b' : Nat} {T' : TypeId} {ps : List Pred} {p q : Pred} (hj : nth A j = some (hCells b' T' ps)) (hp : nth ps off = some p) (i : ∀ v S, p.holds v S → q.holds v S) (h : TrE B n Q e E (A.set j (hCells b' T' (ps.set off q)))) : TrE B n Q e E A := Tr.weakC j off hj hp i h
theorem TrL.front {l : List Oper} (k : Nat) {h : HP} (hk : nth A k = some h) (H : TrL P B n ops Q l E (h :: A.set k hNone)) : TrL P B n ops Q l E A := fun hd => Tr.front k hk (H hd)
end
section
variable {κ α : Type} [DecidableEq κ] [Enc α]
def zipO : List (κ × List α) → List OS → List (κ × (OS × List α))
  | [], _ => []
  | e :: l, os => (e.1, (os.headD .nil, e.2)) :: zipO l os.tail
def osOf (m : List (κ × (OS × List α))) : List OS := m.map fun e => e.2.1
def stripO (m : List (κ × (OS × List α))) : List (κ × List α) := m.map fun e => (e.1, e.2.2)
theorem zip_strip : ∀ m : List (κ × (OS × List α)), zipO (stripO m) (osOf m) = m
  | [] => rfl
  | e :: m => by
    show (e.1, ((osOf (e :: m)).headD .nil, e.2.2)) :: zipO (stripO m) (osOf m) = _
    rw [zip_strip m]; rfl
theorem strip_zip : ∀ (l : List (κ × List α)) (os : List OS), stripO (zipO l os) = l
  | [], _ => rfl
  | e :: l, os => by
    show (e.1, e.2) :: stripO (zipO l os.tail) = _
    rw [strip_zip l]
theorem strip_put (k : κ) (v : OS × List α) : ∀ m : List (κ × (OS × List α)), stripO (putM k v m) = putM k v.2 (stripO m)
  | [] => rfl
  | e :: m => by
    unfold putM
    show stripO (if k = e.1 then _ else _) = if k = e.1 then _ else _
    by_cases h : k = e.1
    · rw [if_pos h, if_pos h]; rfl
    · rw [if_neg h, if_neg h]
      show (e.1, e.2.2) :: stripO (putM k v m) = _
      rw [strip_put k v m]; rfl
theorem getM_consO {ν : Type} (e : κ × ν) (m : List (κ × ν)) (k : κ) : getM (e :: m) k = if k = e.1 then some e.2 else getM m k := by
  show (findM k (e :: m) 0).map (·.2) = _
  unfold findM
  by_cases hk : k = e.1
  · rw [if_pos hk, if_pos hk]; rfl
  · rw [if_neg hk, if_neg hk, findM_map]
theorem get_strip (k : κ) : ∀ m : List (κ × (OS × List α)), getM (stripO m) k = (getM m k).map (·.2)
  | [] => rfl
  | e :: m => by
    show getM ((e.1, e.2.2) :: stripO m) k = _
    rw [getM_consO, getM_consO, get_strip k m]
    by_cases h : k = e.1
    · rw [if_pos h, if_pos h]; rfl
    · rw [if_neg h, if_neg h]
def pvO (e : OS × List α) : Pred := pSh e.1 e.2
abbrev hMapO (kv : κ → Value) (b : Nat) (l : List (κ × List α)) (os : List OS) : HP := hMap kv pvO b (zipO l os)
def rowsO (T : TypeId) (l : List (κ × List α)) (os : List OS) : List HP := (zipO l os).map fun e => hGrow T e.2.1 e.2.2
def rowsD (T : TypeId) (k : κ) (l : List (κ × List α)) (os : List OS) : List HP := (delM k (zipO l os)).map fun e => hGrow T e.2.1 e.2.2
def atO (k : κ) (l : List (κ × List α)) (os : List OS) : OS := ((getM (zipO l os) k).getD (.nil, [])).1
def putO (k : κ) (r : OS) (xs : List α) (l : List (κ × List α)) (os : List OS) : List OS := osOf (putM k (r, xs) (zipO l os))
theorem put_zip (k : κ) (r : OS) (xs : List α) (l : List (κ × List α)) (os : List OS) : putM k (r, xs) (zipO l os) = zipO (putM k xs l) (putO k r xs l os) := by
  have h := zip_strip (putM k (r, xs) (zipO l os))
  rw [strip_put, strip_zip] at h
  exact h.symm
theorem get_zip (k : κ) (l : List (κ × List α)) (os : List OS) : (getM (zipO l os) k).getD (.nil, []) = (atO k l os, (getM l k).getD []) := by
  have h := get_strip k (zipO l os)
  rw [strip_zip] at h
  rw [h]
  unfold atO
  cases getM (zipO l os) k <;> rfl
theorem pvO.nil (S : Store) : (pvO ((.nil, []) : OS × List α)).holds (.slice none 0 0) S := ⟨⟨rfl, rfl⟩, pSl.nil S⟩
variable {P : Program} {o : Oper} {E : Env} {A : List HP} {B : Base} {n : Nat} {ops : Array Oper} {Q : Exit → Act → World → Prop}
theorem AStep.makeMapO (kv : κ → Value) {T : TypeId} (ho : o.op = .makeMap T .none) (hg : o.guard = none) : AStepG P o E A (fun r => pMp r.b) (fun r => hMapO kv r.b ([] : List (κ × List α)) []) := AStep.makeMap kv pvO ho hg
theorem PStep.lookupO (k : Nat) {kv : κ → Value} {T K V : TypeId} {b : Nat} {l : List (κ × List α)} {os : List OS} {x y : Operand} {key : κ} (hT : MpT P T K V) (hK : KeyT P K kv) (hz : ∀ W, (zeroValue V).run P W = .ok (.slice none 0 0) W)
    (ho : o.op = .lookup T x y false) (hx : Lk E x (pMp b)) (hy : Lk E y (pV (kv key))) (hk : nth A k = some (hMapO kv b l os)) : PStep P o E A (pSh (atO key l os) ((getM l key).getD [])) := by
  have h := PStep.lookup k (P := P) (E := E) (o := o) (A := A) (kv := kv) (pv := pvO) (.nil, []) hT hK hz (fun S => pvO.nil S) ho hx hy hk
  rw [get_zip] at h
  exact h
theorem Step.mapUpdateO (k : Nat) {kv : κ → Value} {T K V : TypeId} {b : Nat} {l : List (κ × List α)} {os : List OS} {x y z : Operand} {key : κ} {r : OS} {xs : List α} (hT : MpT P T K V) (hK : KeyT P K kv)
    (ho : o.op = .mapUpdate T x y z) (hx : Lk E x (pMp b)) (hy : Lk E y (pV (kv key))) (hz : Lk E z (pSh r xs)) (hk : nth A k = some (hMapO kv b l os)) : Step P o E A pAny (A.set k (hMapO kv b (putM key xs l) (putO key r xs l os))) := by
  have h := Step.mapUpdate k (P := P) (E := E) (o := o) (A := A) (kv := kv) (pv := pvO) (v := (r, xs)) hT hK (.inl ho) hx hy hz hk
  rw [put_zip] at h
  exact h
theorem Tr.rowOutO {G : Act → World → Prop} {A0 : List HP} (T : TypeId) (k : κ) {l : List (κ × List α)} {os : List OS} (H : Tr B n G E (hGrow T (atO k l os) ((getM l k).getD []) :: (A0 ++ rowsD T k l os))) : Tr B n G E (A0 ++ rowsO T l os) := by
  refine Tr.rowOut (ν := OS × List α) (fun e => hGrow T e.1 e.2) k (.nil, []) rfl ?_
  rw [get_zip]
  exact H
theorem TrC.rowOutO {c : Code} {A0 : List HP} (T : TypeId) (k : κ) {l : List (κ × List α)} {os : List OS} (hA : A = A0 ++ rowsO T l os) (H : TrC P B n Q c E (hGrow T (atO k l os) ((getM l k).getD []) :: (A0 ++ rowsD T k l os))) : TrC P B n Q c E A := by
  subst hA; exact Tr.rowOutO T k H
theorem Tr.rowInO {G : Act → World → Prop} {A0 : List HP} (T : TypeId) (k : κ) {l : List (κ × List α)} {os : List OS} {r : OS} {xs : List α} (H : Tr B n G E (A0 ++ rowsO T (putM k xs l) (putO k r xs l os))) : Tr B n G E (hGrow T r xs :: (A0 ++ rowsD T k l os)) := by
  refine Tr.rowIn (ν := OS × List α) (fun e => hGrow T e.1 e.2) k (r, xs) ?_
  rw [put_zip]
  exact H
theorem TrL.rowInO {rest : List Oper} {A0 : List HP} (T : TypeId) (k : κ) {l : List (κ × List α)} {os : List OS} {r : OS} {xs : List α} (hA : A = hGrow T r xs :: (A0 ++ rowsD T k l os)) (H : TrL P B n ops Q rest E (A0 ++ rowsO T (putM k xs l) (putO k r xs l os))) : TrL P B n ops Q rest E A := by
  subst hA; exact fun hd => Tr.rowInO T k (H hd)
theorem ents_strip {kv : κ → Value} {S : Store} : ∀ {es : List MapEntry} {m : List (κ × (OS × List α))}, EntsOK kv pvO es m S → EntsOK kv (fun v : List α => pSl v) es (stripO m) S
  | [], [], _ => trivial
  | _ :: _, _ :: _, h => ⟨⟨h.1.1, h.1.2.2⟩, ents_strip h.2⟩
  | [], _ :: _, h => h.elim
  | _ :: _, [], h => h.elim
theorem msO {kv : κ → Value} {l : List (κ × List α)} {os : List OS} (v : Value) (S : Store) (h : (pMS kv pvO (zipO l os)).holds v S) : (pMS kv (fun v : List α => pSl v) l).holds v S := by
  obtain ⟨b, es, clock, h1, h2, h3⟩ := h
  have := ents_strip h3
  rw [strip_zip] at this
  exact ⟨b, es, clock, h1, h2, this⟩
end
end Go.Mp
namespace Go.Mp
open Go
set_option linter.unusedVariables false
set_option linter.unusedSimpArgs false
section
variable {P : Program} {o : Oper} {E : Env} {A : List HP} {B : Base} {S : Store} {W : World} {n : Nat} {ops : Array Oper} {Q : Exit → Act → World → Prop}
def pQue {α : Type} [Enc α] (r : OS) (k : Nat) (zs xs : List α) : Pred := ⟨fun v S => zs.drop k = xs ∧ k ≤ zs.length ∧ (pSl xs).holds v S ∧ (match r with
  | .nil => v = .slice none 0 0 ∧ zs = []
  | .at b c => ∃ ad : Addr, v = .slice (some ad) xs.length (c - k) ∧ (k < c → ad = ⟨b, k * Enc.n α, none⟩)), fun hS h => ⟨h.1, h.2.1, (pSl _).mono hS h.2.2.1, h.2.2.2⟩⟩
instance {α : Type} [Enc α] (r : OS) (k : Nat) (zs xs : List α) : One (pQue r k zs xs) := ⟨fun v S h => One.one v S h.2.2.1⟩
theorem shQue {α : Type} [Enc α] {r : OS} {xs : List α} (v : Value) (S : Store) (h : (pSh r xs).holds v S) : (pQue r 0 xs xs).holds v S := by
  refine ⟨rfl, Nat.zero_le _, h.2, ?_⟩
  cases r with
  | nil => exact h.1
  | «at» b c =>
    have h1 : v = _ := h.1
    exact ⟨_, h1, fun _ => by rw [Nat.zero_mul]⟩
theorem queSl {α : Type} [Enc α] {r : OS} {k : Nat} {zs xs : List α} (v : Value) (S : Store) (h : (pQue r k zs xs).holds v S) : (pSl xs).holds v S := h.2.2.1
theorem Lk.queSl {α : Type} [Enc α] {x : Operand} {r : OS} {k : Nat} {zs xs : List α} (h : Lk E x (pQue r k zs xs)) : Lk E x (pSl xs) := h.imp fun v S => Go.Mp.queSl v S
theorem PStep.slQue {α : Type} [Enc α] {T e : TypeId} {x lo : Operand} {r : OS} {k : Nat} {zs xs : List α} (l : Nat) (hT : ∀ W, (underlying T).run P W = .ok (.slice e) W) (he' : ∀ W, (sizeOf e).run P W = .ok (Enc.n α) W) (ho : o.op = .slice T x (.some lo) .none .none)
    (hx : Lk E x (pQue r k zs xs)) (hlo : Lk E lo (pI (l : Int))) (hl : l ≤ xs.length) : PStep P o E A (pQue r (k + l) zs (xs.drop l)) := PStep.val fun S W a hS he => by
  obtain ⟨q1, q2, q3, q4⟩ := hx.at he (by simp +contextual [readsOf, ho, Op.operands])
  have v1 : a.eval lo = .int .i64 (l : Int) := hlo.at he (by simp +contextual [readsOf, ho, Op.operands])
  obtain ⟨ad, c, h1, h2, h3, h4⟩ := q3
  have hxl : xs.length = zs.length - k := by rw [← q1, List.length_drop]
  have eb : (Instr.sliceBounds true xs.length c (some (.int .i64 (l : Int))) none none).run P W = .ok (l, xs.length, c) W := by
    have e2 : (Instr.sliceBound (.int .i64 (l : Int)) xs.length .sliceB).run P W = .ok l W := run_sliceBounds _ rfl (by omega)
    unfold Instr.sliceBounds
    simp [e2]
  have hrun : (execOp a.eval o).run P W = .ok (.value (.slice (if c = l then ad else ad.map (·.add (l * Enc.n α))) (xs.length - l) (c - l))) W := by
    simp [execOp, ho, h1, v1, Instr.sliceAt, Instr.slice, hT, eb, he']
  refine ⟨_, hrun, by rw [← q1, List.drop_drop], by omega, ⟨_, c - l, by rw [List.length_drop], by rw [List.length_drop]; omega, by omega, ?_⟩, ?_⟩
  · by_cases h0 : xs.drop l = []
    · exact .inl h0
    · right
      have hlt : l < xs.length := by
        rcases Nat.lt_or_ge l xs.length with h | h
        · exact h
        · exact absurd (List.drop_eq_nil_of_le h) h0
      rcases h4 with rfl | ⟨b, o', cs, T', fr, rfl, g2, g3⟩
      · simp at hlt
      · refine ⟨b, o' + l * Enc.n α, cs, T', fr, by rw [if_neg (by omega)]; simp [add_plain], g2, ?_⟩
        rw [flat_drop]
        exact g3.drop _
  · cases r with
    | nil =>
      obtain ⟨w1, w2⟩ := q4
      have hx0 : xs.length = 0 := by rw [hxl, w2]; simp
      rw [h1] at w1
      injection w1 with w1 _ w3
      refine ⟨?_, w2⟩
      have h0 : l = 0 := by omega
      subst h0
      rw [w1, w3, hx0]; rfl
    | «at» b c0 =>
      obtain ⟨ad0, w1, w2⟩ := q4
      rw [h1] at w1
      injection w1 with w1 _ w3
      subst w1
      subst w3
      by_cases hcl : c0 - k = l
      · exact ⟨ad0, by rw [if_pos hcl, List.length_drop]; congr 1; omega, fun h => by omega⟩
      · refine ⟨ad0.add (l * Enc.n α), by rw [if_neg hcl, List.length_drop]; simp; omega, fun h => ?_⟩
        rw [w2 (by omega), add_plain, Nat.add_mul]
theorem Sat.setNew {idx : Nat} {h hp : HP} {x : Obj} (hs : Sat B S A W) (hk : nth A idx = some h) (hb : hp.blk = some W.heap.size) (hh : hp.holds x S) : Sat B S (A.set idx hp) (W.alloc x) := by
  have hidx : idx < A.length := (List.getElem?_eq_some_iff.1 (by rw [← nth_eq]; exact hk)).1
  exact Sat.fromFront hidx (by simpa using (hs.drop hk).alloc hb hh)
theorem run_append_room_off (w : World) (t ty e : TypeId) (i : TypeInfo) (ht : P.underlying t = some (.slice e)) (hi : P.info? e = some i)
    (g off sLen sCap : Nat) (cur : Array Value) (hg : w.heap[g]? = some (.cells cur e (0, 0)))
    (a : Addr) (m c : Nat) (news : List Value) (hl : news.length = m * i.size) (hnews : ∀ j u, news[j]? = some u → w.cell? (a.add j) = some u) (h1 : ∀ u ∈ news, u.oneCell' = true)
    (hroom : sLen + m ≤ sCap) (hfit : off + sLen * i.size + news.length ≤ cur.size) :
    (Builtin.append_ #[t, t] ty #[.slice (some ⟨g, off, none⟩) sLen sCap, .slice (some a) m c]).run P w =
      .ok (.slice (some ⟨g, off, none⟩) (sLen + m) sCap) (w.setRow g (cur.toList.take (off + sLen * i.size) ++ news ++ cur.toList.drop (off + sLen * i.size + news.length)).toArray) := by
  have hf := run_firstCells_some (P := P) w i.size m a m c news hl hnews
  have hst := run_storeCells_at (P := P) g (off + sLen * i.size) e news 0 cur w hg (by simpa using hfit) h1
  simp only [Nat.add_zero] at hst
  simp [Builtin.append_, run_underlying ht, sizeOf, typeInfo, hi, Builtin.lenOf, hroom, hf, Addr.add_lit, hst]
theorem append_wpQ (idx : Nat) {α : Type} [Enc α] {T e : TypeId} {bytes : Nat} {x y : Operand} {r : OS} {k : Nat} {zs xs ys : List α} {a : Act} (hT : ApT P T e (Enc.n α) bytes) (ho : o.op = .call ⟨.builtin .append, #[x, y], #[T, T]⟩)
    (hs : Sat B S A W) (hvx : (pQue r k zs xs).holds (a.eval x) S) (hvy : (pSl ys).holds (a.eval y) S) (hk : nth A idx = some (hGrow e r zs)) (hl : (xs.length + ys.length) * bytes ≤ 140737488355328 ∧ xs.length + ys.length ≤ 140737488355328) (K' : Act → World → Prop)
    (hK : ∀ r' k' zs' v S' W', S.le S' → (pQue r' k' zs' (xs ++ ys)).holds v S' → Sat B S' (A.set idx (hGrow e r' zs')) W' → K' (a.put o.dst v) W') : o.wp P a W K' Q := by
  obtain ⟨i, z, i1, i2, i3, i4, i5⟩ := hT.info
  obtain ⟨ay0, cy, hey, hys⟩ := sl_vals hs.agreeS hvy
  have hvx0 := hvx
  obtain ⟨q1, q2, q3, q4⟩ := hvx
  have hxl : xs.length = zs.length - k := by rw [← q1, List.length_drop]
  have hidx : idx < A.length := (List.getElem?_eq_some_iff.1 (by rw [← nth_eq]; exact hk)).1
  have fin : ∀ (v : Value) (S' : Store) (W' : World) (r' : OS) (k' : Nat) (zs' : List α), S.le S' → (Builtin.append_ #[T, T] o.type #[a.eval x, a.eval y]).run P W = .ok v W' → (pQue r' k' zs' (xs ++ ys)).holds v S' → Sat B S' (A.set idx (hGrow e r' zs')) W' → o.wp P a W K' Q := by
    intro v S' W' r' k' zs' hS hrun hv hs'
    unfold Oper.wp
    rw [run_bcall ho (r := .ok (.value v) W') (by simp [builtin, hrun])]
    exact hK r' k' zs' v S' W' hS hv hs'
  by_cases hy0 : ys = []
  · subst hy0
    obtain ⟨ax, cx, e1, e2, _⟩ := q3
    refine fin (a.eval x) S W r k zs (Store.le.refl _) ?_ (by rw [List.append_nil]; exact hvx0) (by rw [set_same hk]; exact hs)
    rw [e1, hey]; exact run_append_nothing (k := 0) (bytes := 0) hT.und i1 e2 _ _
  · obtain ⟨ay, news, rfl, n1, n2, n3⟩ := hys.resolve_left hy0
    have hpos : 0 < ys.length := by
      rcases ys with _ | ⟨y0, ys⟩
      · exact absurd rfl hy0
      · simp
    have hk0 := Enc.pos (α := α)
    have hnone : ∀ u ∈ news, u.oneCell' = true := n3.oneAll (by rw [n1, flat_length])
    -- a new row
    have grow : ∀ (cap : Nat) (cur : Array Value) (W' : World), W' = { W with drawn := W'.drawn, heap := W.heap.push (.cells cur e) } → cur.size = cap * Enc.n α → (xs ++ ys).length ≤ cap → cap ≤ 9223372036854775807 → pCells cur 0 (flat (xs ++ ys)) S →
        (Builtin.append_ #[T, T] o.type #[a.eval x, a.eval y]).run P W = .ok (.slice (some ⟨W.heap.size, 0, none⟩) (xs ++ ys).length cap) W' → o.wp P a W K' Q := by
      intro cap cur W' hW k1 k2 k3 k4 hrun
      have hs1 : Sat B S (A.set idx (hGrow e (.at W.heap.size cap) (xs ++ ys))) W' := by
        rw [hW]
        exact Sat.setNew (x := .cells cur e) (hs.drawn (d := W'.drawn)) hk rfl ⟨_, cap, cur, rfl, rfl, k1, k2, k3, k4⟩
      obtain ⟨S', hS, hs2, hx⟩ := hs1.share (k := idx) (by rw [nth_eq, List.getElem?_set_self hidx])
      rw [List.set_set] at hs2
      have hv := hx (.slice (some ⟨W.heap.size, 0, none⟩) (xs ++ ys).length cap) rfl
      exact fin _ S' W' (.at W.heap.size cap) 0 (xs ++ ys) hS hrun ⟨rfl, Nat.zero_le _, hv, _, rfl, fun _ => by rw [Nat.zero_mul]⟩ hs2
    have hfits : ∀ c, xs.length + ys.length > c → Builtin.nextslicecap (xs.length + ys.length) c * i.bytes ≤ 281474976710656 := by
      intro c hc
      have h1 := nextslicecap_le (need := xs.length + ys.length) (old := c) hc
      have h2 := Nat.mul_le_mul_right i.bytes h1
      rw [i4, Nat.mul_assoc] at h2
      rw [i4]; omega
    have hcapmax : ∀ c, grownCap W (xs.length + ys.length) c e ≤ maxLen := fun c => grownCap_le_maxLen W (xs.length + ys.length) c e (by simp only [maxLen]; omega)
    have hcapge : ∀ c, xs.length + ys.length ≤ grownCap W (xs.length + ys.length) c e := fun c => grownCap_ge W (xs.length + ys.length) c e
    have fill : ∀ (olds : List Value) (c : Nat), olds.length = xs.length * Enc.n α → pCells olds.toArray 0 (flat xs) S →
        (Builtin.append_ #[T, T] o.type #[a.eval x, a.eval y]).run P W = .ok (.slice (some ⟨W.heap.size, 0, none⟩) (xs.length + ys.length) (grownCap W (xs.length + ys.length) c e)) (W.drew.alloc (.cells (olds.toArray ++ news.toArray ++ Builtin.zeroCells z.cells (grownCap W (xs.length + ys.length) c e - (xs.length + ys.length))) e)) → o.wp P a W K' Q := by
      intro olds c o1 o3 hrun
      have hcells : pCells (olds ++ news).toArray 0 (flat (xs ++ ys)) S := by rw [flat_append]; exact o3.append n3 (by rw [o1, flat_length])
      have hlen : (olds ++ news).length = (flat (xs ++ ys)).length := by rw [List.length_append, o1, n1, flat_append, List.length_append, flat_length, flat_length]
      refine grow (grownCap W (xs.length + ys.length) c e) (olds.toArray ++ news.toArray ++ Builtin.zeroCells z.cells (grownCap W (xs.length + ys.length) c e - (xs.length + ys.length))) _ rfl ?_ (by rw [List.length_append]; exact hcapge c) (by have := hcapmax c; simpa [maxLen] using this) (hcells.ofVals hlen ?_) (by rw [List.length_append]; exact hrun)
      · simp only [Array.size_append, List.size_toArray, size_zeroCells, i5, o1, n1, ← Nat.add_mul]
        congr 1
        have := hcapge c
        omega
      · simp only [Array.toList_append, List.append_assoc]
        rw [← List.append_assoc]
        exact List.take_left
    cases r with
    | nil =>
      obtain ⟨w1, w2⟩ := q4
      have hx0 : xs = [] := by rw [← q1, w2]; simp
      have hr := run_append_nil (P := P) W T o.type e i z hT.und i1 i2 ay ys.length cy news (by rw [n1, i3]) n2 (by omega) (by omega) (by rw [i4]; have := hl.1; rw [hx0, List.length_nil, Nat.zero_add] at this; omega)
      refine fill [] 0 (by rw [hx0]; simp) (fun j p hp => by rw [hx0] at hp; simp [flat] at hp) ?_
      rw [w1, hey]
      simpa [hx0] using hr
    | «at» b c =>
      obtain ⟨ad, w1, w2⟩ := q4
      obtain ⟨cur, g1, g2, g3, g4, g5⟩ := own_cur hs hk b c rfl
      by_cases hroom : xs.length + ys.length ≤ c - k
      · -- there is room
        have had := w2 (by omega)
        subst had
        have hzk : zs.length = k + xs.length := by omega
        have hle : (zs.length + ys.length) * Enc.n α ≤ cur.size := by rw [g2]; exact Nat.mul_le_mul_right _ (by omega)
        rw [Nat.add_mul] at hle
        have hkz : k * Enc.n α + xs.length * Enc.n α = zs.length * Enc.n α := by rw [← Nat.add_mul, hzk]
        have hr := run_append_room_off (P := P) W T o.type e i hT.und i1 b (k * Enc.n α) xs.length (c - k) cur g1 ay ys.length cy news (by rw [n1, i3]) n2 hnone hroom (by rw [n1, i3]; omega)
        rw [i3, hkz] at hr
        have hs1 : Sat B S (A.set idx (hGrow e (.at b c) (zs ++ ys))) (W.setRow b (cur.toList.take (zs.length * Enc.n α) ++ news ++ cur.toList.drop (zs.length * Enc.n α + news.length)).toArray) := by
          have hget : ∀ j, j < zs.length * Enc.n α → (cur.toList.take (zs.length * Enc.n α) ++ news ++ cur.toList.drop (zs.length * Enc.n α + news.length)).toArray[j]? = cur[j]? := by
            intro j hj
            rw [List.append_assoc, List.getElem?_toArray, List.getElem?_append_left (by rw [List.length_take, show cur.toList.length = cur.size from Array.length_toList]; omega), List.getElem?_take, if_pos hj]
            simp
          refine hs.turnK hk (b := b) rfl rfl ⟨b, c, _, rfl, rfl, ?_, by rw [List.length_append]; omega, g4, ?_⟩ (fun p ob hob ho' hp hkp => ?_) rfl rfl rfl (setRow_heap W b cur _ e _ g1) (fun c' hc' => setRow_other W b c' _ hc')
          · simp only [List.size_toArray, List.length_append, List.length_take, List.length_drop, Array.length_toList, n1]
            omega
          · obtain ⟨vs, k1, k2, k3⟩ := g5.vals
            rw [flat_length] at k1
            have htk : cur.toList.take (zs.length * Enc.n α) = vs := by
              apply List.ext_getElem?
              intro j
              rw [List.getElem?_take]
              by_cases hj : j < zs.length * Enc.n α
              · rw [if_pos hj]
                have hv := k2 j _ (List.getElem?_eq_getElem (show j < vs.length by omega))
                rw [Nat.zero_add] at hv
                rw [List.getElem?_eq_getElem (show j < vs.length by omega), ← hv]
                simp
              · rw [if_neg hj, List.getElem?_eq_none (by omega)]
            rw [htk, flat_append]
            refine (k3.append n3 (by rw [k1, flat_length])).ofVals (by rw [List.length_append, List.length_append, k1, n1, flat_length, flat_length]) ?_
            simp only [List.append_assoc]
            rw [← List.append_assoc]
            exact List.take_left
          · rw [g1] at hob
            cases hob
            obtain ⟨hg', pc, rfl, hsz⟩ := hkp
            obtain ⟨c', hc', hj'⟩ := hp
            cases hc'
            refine ⟨⟨_, rfl, fun j v hv => ?_⟩, hg', pc, rfl, by rw [List.length_append, Nat.add_mul]; omega⟩
            have hjs : j < pc.size := (Array.getElem?_eq_some_iff.1 hv).1
            rw [hget j (by omega)]
            exact hj' j v hv
        obtain ⟨S', hS, hs2, hx⟩ := hs1.share (k := idx) (by rw [nth_eq, List.getElem?_set_self hidx])
        rw [List.set_set] at hs2
        have hv := hx (.slice (some ⟨b, 0, none⟩) (zs ++ ys).length c) rfl
        have hdrop : (zs ++ ys).drop k = xs ++ ys := by rw [List.drop_append_of_le_length q2, q1]
        obtain ⟨ad', c', e1, e2, e3, e4⟩ := hv
        cases e1
        refine fin (.slice (some ⟨b, k * Enc.n α, none⟩) (xs.length + ys.length) (c - k)) S' _ (.at b c) k (zs ++ ys) hS (by rw [w1, hey]; exact hr) ⟨hdrop, by rw [List.length_append]; omega, ⟨_, c - k, by rw [List.length_append], by rw [List.length_append]; exact hroom, by omega, .inr ?_⟩, ⟨_, by rw [List.length_append], fun _ => rfl⟩⟩ hs2
        rcases e4 with e4 | ⟨b', o', cs, T', fr, e4, g6, g7⟩
        · exact absurd (List.append_eq_nil_iff.1 e4).2 hy0
        · cases e4
          refine ⟨b, k * Enc.n α, cs, T', fr, rfl, g6, ?_⟩
          rw [← hdrop, flat_drop]
          have := g7.drop (k * Enc.n α)
          rwa [Nat.zero_add] at this
      · obtain ⟨olds, o1, o2, o3⟩ : ∃ olds : List Value, olds.length = xs.length * Enc.n α ∧ (∀ j v, olds[j]? = some v → W.cell? (ad.add j) = some v) ∧ pCells olds.toArray 0 (flat xs) S := by
          obtain ⟨ad2, c2, f1, f2⟩ := sl_vals hs.agreeS q3
          rw [w1] at f1
          injection f1 with f1 _ _
          subst f1
          rcases f2 with rfl | ⟨ad3, vs, f3, f4, f5, f6⟩
          · exact ⟨[], by simp, fun j v hv => by simp at hv, fun j p hp => by simp [flat] at hp⟩
          · cases f3
            exact ⟨vs, f4, f5, f6⟩
        refine fill olds (c - k) o1 o3 ?_
        rw [w1, hey]
        exact run_append_grow (P := P) W T o.type e i z hT.und i1 i2 ad xs.length (c - k) olds (by rw [o1, i3]) o2 ay ys.length cy news (by rw [n1, i3]) n2 (by omega) (by omega) (hfits _ (by omega))
theorem TrL.appendQ (idx : Nat) {α : Type} [Enc α] {T e : TypeId} {bytes : Nat} {rest : List Oper} {x y : Operand} {d : Nat} {r : OS} {k : Nat} {zs xs ys : List α} (hT : ApT P T e (Enc.n α) bytes) (hg : o.guard = none) (ho : o.op = .call ⟨.builtin .append, #[x, y], #[T, T]⟩) (hd : o.dst = some d)
    (hx : Lk E x (pQue r k zs xs)) (hy : Lk E y (pSl ys)) (hk : nth A idx = some (hGrow e r zs)) (hl : (xs.length + ys.length) * bytes ≤ 140737488355328 ∧ xs.length + ys.length ≤ 140737488355328)
    (K : ∀ r' k' zs', TrL P B n ops Q rest ((d, pQue r' k' zs' (xs ++ ys)) :: E) (A.set idx (hGrow e r' zs'))) : TrL P B n ops Q (o :: rest) E A := by
  intro hdd S W a hs he
  have hd' : dstOk n o = true ∧ dstsOk n rest = true := by simpa [dstsOk] using hdd
  refine wpList_plain hg fun K' hK => ?_
  have hvx := hx.at (he.on (readsOf o)) (by simp +contextual [readsOf, ho, Op.operands, Call.operands])
  have hvy := hy.at (he.on (readsOf o)) (by simp +contextual [readsOf, ho, Op.operands, Call.operands])
  refine append_wpQ idx hT ho hs hvx hvy hk hl K' fun r' k' zs' v S' W' hS hv hs' => hK _ _ (K r' k' zs' hd'.2 S' W' _ hs' ?_)
  have := put_dst (R := pQue r' k' zs' (xs ++ ys)) hd'.1 he hS hv
  simpa [bindDst, hd] using this
end
theorem sameBits_self : ∀ (n : Nat) (vs : List Value), (∀ v ∈ vs, Instr.sameBits n v v = true) → Instr.sameBits (n + 1) (.agg vs.toArray) (.agg vs.toArray) = true := by
  intro n vs h
  unfold Instr.sameBits
  simp only [beq_self_eq_true, Bool.true_and]
  rw [List.all_eq_true]
  rintro ⟨x, y⟩ hxy
  have hz : ∀ (l : List Value), (∀ v ∈ l, Instr.sameBits n v v = true) → ∀ x y, (x, y) ∈ l.zip l → Instr.sameBits n x y = true := by
    intro l
    induction l with
    | nil => intro _ x y h; simp at h
    | cons a l ih =>
      intro hl x y hxy
      simp only [List.zip_cons_cons, List.mem_cons, Prod.mk.injEq] at hxy
      rcases hxy with ⟨rfl, rfl⟩ | hxy
      · exact hl _ List.mem_cons_self
      · exact ih (fun v hv => hl v (List.mem_cons_of_mem _ hv)) x y hxy
  exact hz vs h x y (by simpa using hxy)
section
variable {P : Program}
def CheckL (P : Program) (b : Bool) (n : Nat) (cs : Array Value) (l : List Field) : Prop := ∀ f ∈ l, ∀ W, (do Instr.checkKey b n f.type (← part f.type cs f.offset) : Sem Unit).run P W = .ok () W
theorem CheckL.nil {b : Bool} {n : Nat} {cs : Array Value} : CheckL P b n cs [] := fun f hf => by cases hf
theorem CheckL.cons {b : Bool} {n : Nat} {cs : Array Value} {f : Field} {l : List Field} {u : Value} (h1 : ∀ W, (part f.type cs f.offset).run P W = .ok u W) (h2 : ∀ W, (Instr.checkKey b n f.type u).run P W = .ok () W) (h : CheckL P b n cs l) : CheckL P b n cs (f :: l) := fun g hg W => by
  rcases List.mem_cons.1 hg with rfl | hg
  · rw [Sem.run_bind, h1]; exact h2 W
  · exact h g hg W
theorem forIn_ok {α : Type} (g : α → Sem Unit) (c : α → Bool) : ∀ (l : List α) (W : World), (∀ x ∈ l, ∀ W, (g x).run P W = .ok () W) →
    (forIn l PUnit.unit (fun x _ => if c x then (do g x; pure (ForInStep.yield PUnit.unit)) else (pure (ForInStep.yield PUnit.unit) : Sem (ForInStep PUnit)))).run P W = .ok () W
  | [], W, _ => rfl
  | x :: l, W, h => by
    rw [List.forIn_cons, Sem.run_bind]
    cases c x with
    | true =>
      simp only [if_true, Sem.run_bind, h x List.mem_cons_self, Result.andThen_ok, Sem.run_pure]
      exact forIn_ok g c l W fun y hy => h y (List.mem_cons_of_mem _ hy)
    | false =>
      simp only [Bool.false_eq_true, if_false, Sem.run_pure, Result.andThen_ok]
      exact forIn_ok g c l W fun y hy => h y (List.mem_cons_of_mem _ hy)
theorem checkStruct {b : Bool} {n : Nat} {K : TypeId} {cs : Array Value} {fs : Array Field} {W : World} (h : ∀ W, (underlying K).run P W = .ok (.struct fs) W) (hl : CheckL P b n cs fs.toList) : (Instr.checkKey b (n + 1) K (.agg cs)).run P W = .ok () W := by
  unfold Instr.checkKey
  simp only [Sem.run_bind, h, Result.andThen_ok]
  have := forIn_ok (P := P) (fun f : Field => (do Instr.checkKey b n f.type (← part f.type cs f.offset) : Sem Unit)) (fun f => decide (f.name ≠ "_")) fs.toList W hl
  simp only [decide_eq_true_eq] at this
  rw [Array.forIn_toList] at this
  simp at this ⊢
  rw [this]; rfl
end
theorem same_int {n : Nat} {k : IntKind} {m : Int} : Instr.sameBits n (.int k m) (.int k m) = true := by simp [Instr.sameBits]
theorem same_str {n : Nat} {m : ByteArray} : Instr.sameBits n (.string m) (.string m) = true := by simp [Instr.sameBits, byte_beq]
end Go.Mp
namespace Go.Mp
open Go
instance : Inhabited RawSl := ⟨⟨none, 0, 0⟩⟩
@[ext] structure Version where
  major : Int
  minor : Int
  patch : Int
  deriving DecidableEq
instance : Enc Version := ⟨3, by decide, fun x => [pI (x.major), pI (x.minor), pI (x.patch)], fun _ => rfl, fun x p hp v S h => by
  simp only [List.mem_cons, List.not_mem_nil, or_false] at hp
  rcases hp with rfl | rfl | rfl
  · exact One.one v S h
  · exact One.one v S h
  · exact One.one v S h⟩
def zVersion : Version := ⟨0, 0, 0⟩
instance : Inhabited Version := ⟨zVersion⟩
def valsVersion (x : Version) : List Value := [.int .i64 (x.major), .int .i64 (x.minor), .int .i64 (x.patch)]
theorem cellsVersion (x : Version) : Enc.cells x = (valsVersion x).map pV := rfl
@[ext] structure Selected where
  path : ByteArray
  version : Version
  deriving DecidableEq
instance : Enc Selected := ⟨4, by decide, fun x => [pS (x.path), pI (x.version.major), pI (x.version.minor), pI (x.version.patch)], fun _ => rfl, fun x p hp v S h => by
  simp only [List.mem_cons, List.not_mem_nil, or_false] at hp
  rcases hp with rfl | rfl | rfl | rfl
  · exact One.one v S h
  · exact One.one v S h
  · exact One.one v S h
  · exact One.one v S h⟩
def zSelected : Selected := ⟨ByteArray.empty, zVersion⟩
instance : Inhabited Selected := ⟨zSelected⟩
def valsSelected (x : Selected) : List Value := [.string (x.path), .int .i64 (x.version.major), .int .i64 (x.version.minor), .int .i64 (x.version.patch)]
theorem cellsSelected (x : Selected) : Enc.cells x = (valsSelected x).map pV := rfl
@[ext] structure Span where
  from_ : Int
  to_ : Int
  deriving DecidableEq
instance : Enc Span := ⟨2, by decide, fun x => [pI (x.from_), pI (x.to_)], fun _ => rfl, fun x p hp v S h => by
  simp only [List.mem_cons, List.not_mem_nil, or_false] at hp
  rcases hp with rfl | rfl
  · exact One.one v S h
  · exact One.one v S h⟩
def zSpan : Span := ⟨0, 0⟩
instance : Inhabited Span := ⟨zSpan⟩
def valsSpan (x : Span) : List Value := [.int .i64 (x.from_), .int .i64 (x.to_)]
theorem cellsSpan (x : Span) : Enc.cells x = (valsSpan x).map pV := rfl
@[ext] structure Requirement where
  path : ByteArray
  set_ : (List Span)
  deriving DecidableEq
instance : Enc Requirement := ⟨2, by decide, fun x => [pS (x.path), pSl (x.set_)], fun _ => rfl, fun x p hp v S h => by
  simp only [List.mem_cons, List.not_mem_nil, or_false] at hp
  rcases hp with rfl | rfl
  · exact One.one v S h
  · exact One.one v S h⟩
def zRequirement : Requirement := ⟨ByteArray.empty, []⟩
instance : Inhabited Requirement := ⟨zRequirement⟩
@[ext] structure Release where
  path : ByteArray
  version : Version
  requirements : (List Requirement)
  archive : ByteArray
  interface : ByteArray
  certificate : ByteArray
  yanked : Bool
  deriving DecidableEq
instance : Enc Release := ⟨9, by decide, fun x => [pS (x.path), pI (x.version.major), pI (x.version.minor), pI (x.version.patch), pSl (x.requirements), pS (x.archive), pS (x.interface), pS (x.certificate), pB (x.yanked)], fun _ => rfl, fun x p hp v S h => by
  simp only [List.mem_cons, List.not_mem_nil, or_false] at hp
  rcases hp with rfl | rfl | rfl | rfl | rfl | rfl | rfl | rfl | rfl
  · exact One.one v S h
  · exact One.one v S h
  · exact One.one v S h
  · exact One.one v S h
  · exact One.one v S h
  · exact One.one v S h
  · exact One.one v S h
  · exact One.one v S h
  · exact One.one v S h⟩
def zRelease : Release := ⟨ByteArray.empty, zVersion, [], ByteArray.empty, ByteArray.empty, ByteArray.empty, false⟩
instance : Inhabited Release := ⟨zRelease⟩
@[ext] structure Index where
  releases : (List Release)
  interfaces : RawSl
  deriving DecidableEq
instance : Enc Index := ⟨2, by decide, fun x => [pSl (x.releases), pV (.slice (x.interfaces).at_ (x.interfaces).len (x.interfaces).cap)], fun _ => rfl, fun x p hp v S h => by
  simp only [List.mem_cons, List.not_mem_nil, or_false] at hp
  rcases hp with rfl | rfl
  · exact One.one v S h
  · exact One.one v S h⟩
def zIndex : Index := ⟨[], ⟨none, 0, 0⟩⟩
instance : Inhabited Index := ⟨zIndex⟩
@[ext] structure Inference where
  kind : Int
  path : ByteArray
  place : Int
  number : Int
  left : Int
  right : Int
  deriving DecidableEq
instance : Enc Inference := ⟨6, by decide, fun x => [pI (x.kind), pS (x.path), pI (x.place), pI (x.number), pI (x.left), pI (x.right)], fun _ => rfl, fun x p hp v S h => by
  simp only [List.mem_cons, List.not_mem_nil, or_false] at hp
  rcases hp with rfl | rfl | rfl | rfl | rfl | rfl
  · exact One.one v S h
  · exact One.one v S h
  · exact One.one v S h
  · exact One.one v S h
  · exact One.one v S h
  · exact One.one v S h⟩
def zInference : Inference := ⟨0, ByteArray.empty, 0, 0, 0, 0⟩
instance : Inhabited Inference := ⟨zInference⟩
def valsInference (x : Inference) : List Value := [.int .i64 (x.kind), .string (x.path), .int .i64 (x.place), .int .i64 (x.number), .int .i64 (x.left), .int .i64 (x.right)]
theorem cellsInference (x : Inference) : Enc.cells x = (valsInference x).map pV := rfl
@[ext] structure Skip where
  path : ByteArray
  place : Int
  inference : Int
  deriving DecidableEq
instance : Enc Skip := ⟨3, by decide, fun x => [pS (x.path), pI (x.place), pI (x.inference)], fun _ => rfl, fun x p hp v S h => by
  simp only [List.mem_cons, List.not_mem_nil, or_false] at hp
  rcases hp with rfl | rfl | rfl
  · exact One.one v S h
  · exact One.one v S h
  · exact One.one v S h⟩
def zSkip : Skip := ⟨ByteArray.empty, 0, 0⟩
instance : Inhabited Skip := ⟨zSkip⟩
@[ext] structure Answer where
  found : Bool
  selection : (List Selected)
  inferences : (List Inference)
  skips : (List Skip)
  deriving DecidableEq
instance : Enc Answer := ⟨4, by decide, fun x => [pB (x.found), pSl (x.selection), pSl (x.inferences), pSl (x.skips)], fun _ => rfl, fun x p hp v S h => by
  simp only [List.mem_cons, List.not_mem_nil, or_false] at hp
  rcases hp with rfl | rfl | rfl | rfl
  · exact One.one v S h
  · exact One.one v S h
  · exact One.one v S h
  · exact One.one v S h⟩
def zAnswer : Answer := ⟨false, [], [], []⟩
instance : Inhabited Answer := ⟨zAnswer⟩
@[ext] structure Term where
  path : ByteArray
  absent : Bool
  set_ : (List Span)
  deriving DecidableEq
instance : Enc Term := ⟨3, by decide, fun x => [pS (x.path), pB (x.absent), pSl (x.set_)], fun _ => rfl, fun x p hp v S h => by
  simp only [List.mem_cons, List.not_mem_nil, or_false] at hp
  rcases hp with rfl | rfl | rfl
  · exact One.one v S h
  · exact One.one v S h
  · exact One.one v S h⟩
def zTerm : Term := ⟨ByteArray.empty, false, []⟩
instance : Inhabited Term := ⟨zTerm⟩
@[ext] structure Table where
  releases : (List (Selected × Release))
  paths : (List (ByteArray × (List Release)))
  deriving DecidableEq
instance : Enc Table := ⟨2, by decide, fun x => [pMS (fun x : Selected => Value.agg (valsSelected x).toArray) (fun v : Release => pT v) (x.releases), pMS (fun x : ByteArray => Value.string x) (fun v : (List Release) => pSl v) (x.paths)], fun _ => rfl, fun x p hp v S h => by
  simp only [List.mem_cons, List.not_mem_nil, or_false] at hp
  rcases hp with rfl | rfl
  · exact One.one v S h
  · exact One.one v S h⟩
def zTable : Table := ⟨[], []⟩
instance : Inhabited Table := ⟨zTable⟩
@[ext] structure Checker where
  index_ : Index
  roots_ : (List Requirement)
  derived : (List (List Term))
  deriving DecidableEq
instance : Enc Checker := ⟨4, by decide, fun x => [pSl (x.index_.releases), pV (.slice (x.index_.interfaces).at_ (x.index_.interfaces).len (x.index_.interfaces).cap), pSl (x.roots_), pSl (x.derived)], fun _ => rfl, fun x p hp v S h => by
  simp only [List.mem_cons, List.not_mem_nil, or_false] at hp
  rcases hp with rfl | rfl | rfl | rfl
  · exact One.one v S h
  · exact One.one v S h
  · exact One.one v S h
  · exact One.one v S h⟩
def zChecker : Checker := ⟨zIndex, [], []⟩
instance : Inhabited Checker := ⟨zChecker⟩
end Go.Mp
namespace Go.Mp
open Go Go.ChangeShapes
def storeOf (W : World) : Store := fun b => W.heap[b]?
def Cl (cs : List Value) (off : Nat) (ps : List Pred) (S : Store) : Prop := ∀ j p, ps[j]? = some p → ∃ u, cs[off + j]? = some u ∧ p.holds u S
theorem Cl.part {cs : List Value} {off n : Nat} {ps : List Pred} {S : Store} (h : Cl ((cs.drop off).take n) 0 ps S) : Cl cs off ps S := fun j p hp => by
  obtain ⟨u, h1, h2⟩ := h j p hp
  refine ⟨u, ?_, h2⟩
  rw [Nat.zero_add, List.getElem?_take] at h1
  split at h1
  · rwa [List.getElem?_drop] at h1
  · cases h1
theorem Cl.app {cs : List Value} {off : Nat} {ps qs : List Pred} {S : Store} (h : Cl cs off ps S) (k : Cl cs (off + ps.length) qs S) : Cl cs off (ps ++ qs) S := fun j p hp => by
  rcases Nat.lt_or_ge j ps.length with hj | hj
  · rw [List.getElem?_append_left hj] at hp
    exact h j p hp
  · rw [List.getElem?_append_right hj] at hp
    obtain ⟨u, h1, h2⟩ := k _ p hp
    exact ⟨u, by rw [← h1]; congr 1; omega, h2⟩
theorem Cl.pCells {cs : List Value} {ps : List Pred} {S : Store} (h : Cl cs 0 ps S) (h1 : ∀ p ∈ ps, ∀ v S, p.holds v S → v.oneCell' = true) : Mp.pCells cs.toArray 0 ps S := fun j p hp => by
  obtain ⟨u, k1, k2⟩ := h j p hp
  exact ⟨u, by simpa using k1, h1 p (List.mem_of_getElem? hp) u S k2, k2⟩
theorem Cl.one {u : Value} {p : Pred} {S : Store} (h : p.holds u S) : Cl [u] 0 [p] S := fun j q hq => by
  cases j with
  | zero => cases hq; exact ⟨u, rfl, h⟩
  | succ j => simp at hq
structure Rd (P : Program) (T : TypeId) (α : Type) [Enc α] : Prop where
  size : P.cellsOf T = Enc.n α
  read : ∀ {H : Type} {enc : TypeId × Value → H} {W : World} {fuel : Nat} {cs : List Value} {x : DataW H × List MemPlace}, DataW.trod enc P W 0 (fun _ => true) true fuel T cs = some x → cs.length = Enc.n α ∧ ∃ a : α, Cl cs 0 (Enc.cells a) (storeOf W)
theorem rd_int {P : Program} {T : TypeId} (hT : P.underlying T = some (.int .i64)) (hn : P.cellsOf T = 1) : Rd P T Int := ⟨hn, fun h => by
  obtain ⟨n, rfl, _, _⟩ := DataW.trod_int hT h
  exact ⟨rfl, n, Cl.one rfl⟩⟩
theorem rd_bool {P : Program} {T : TypeId} (hT : P.underlying T = some .bool) (hn : P.cellsOf T = 1) : Rd P T Bool := ⟨hn, fun h => by
  obtain ⟨n, rfl, _⟩ := DataW.trod_bool hT h
  exact ⟨rfl, n, Cl.one rfl⟩⟩
theorem rd_string {P : Program} {T : TypeId} (hT : P.underlying T = some .string) (hn : P.cellsOf T = 1) : Rd P T ByteArray := ⟨hn, fun h => by
  obtain ⟨n, rfl, _⟩ := DataW.trod_string hT h
  exact ⟨rfl, n, Cl.one rfl⟩⟩
theorem rd_raw {P : Program} {T e : TypeId} (hT : P.underlying T = some (.slice e)) (hn : P.cellsOf T = 1) : Rd P T RawSl := ⟨hn, fun h => by
  rcases DataW.trod_slice hT h with ⟨rfl, _⟩ | ⟨a, len, cap, elems, rest, n, rfl, rfl, _⟩
  · exact ⟨rfl, ⟨none, 0, 0⟩, Cl.one rfl⟩
  · exact ⟨rfl, ⟨some a, len, cap⟩, Cl.one rfl⟩⟩
theorem add_add {a : Addr} (h : a.spot = none) (m j : Nat) : (a.add m).add j = ⟨a.block, a.off + m + j, none⟩ := by
  obtain ⟨b, o, s⟩ := a
  simp only at h
  subst h
  unfold Addr.add
  by_cases h1 : m = 0 <;> by_cases h2 : j = 0 <;> simp [h1, h2, Nat.add_assoc]
theorem cells?_at {w : World} {a : Addr} {n : Nat} {cs : List Value} (h : w.cells? 0 a n = some cs) : cs.length = n ∧ ∀ j, j < n → w.cell? (a.add j) = cs[j]? := by
  unfold World.cells? at h
  rw [if_pos (Nat.zero_le _)] at h
  exact ⟨by simpa using mapM_some_length h, fun j hj => mapM_some_get h j j (by simp [hj])⟩
theorem rd_slice {P : Program} {T e : TypeId} {α : Type} [Enc α] (hT : P.underlying T = some (.slice e)) (hn : P.cellsOf T = 1) (hr : Rd P e α) : Rd P T (List α) := ⟨hn, fun {H enc W fuel cs x} h => by
  rcases DataW.trod_slice hT h with ⟨rfl, _⟩ | ⟨a, len, cap, elems, rest, n, rfl, rfl, _, _, hlc, hcm, hel, hi, _⟩
  · exact ⟨rfl, [], Cl.one (pSl.nil _)⟩
  · refine ⟨rfl, ?_⟩
    have hx : ∀ i : Fin len, ∃ y : α, ∃ ci : List Value, W.cells? 0 (a.add (i * P.cellsOf e)) (P.cellsOf e) = some ci ∧ Cl ci 0 (Enc.cells y) (storeOf W) := fun i => by
      have hk := hi i i.2
      have hlt : (i : Nat) < elems.length := by omega
      rw [List.getElem?_eq_getElem hlt] at hk
      obtain ⟨ci, h1, h2⟩ := Option.bind_eq_some_iff.1 hk
      obtain ⟨_, y, hy⟩ := hr.read h2
      exact ⟨y, ci, h1, hy⟩
    let xs : List α := List.ofFn fun i => (hx i).choose
    have hxl : xs.length = len := List.length_ofFn
    refine ⟨xs, Cl.one (show (pSl xs).holds _ _ from ⟨some a, cap, by rw [hxl], by omega, Nat.le_trans hcm (by decide), ?_⟩)⟩
    by_cases h0 : len = 0
    · exact .inl (List.eq_nil_of_length_eq_zero (by omega))
    · right
      have hpos : 0 < P.cellsOf e := by rw [hr.size]; exact Enc.pos
      obtain ⟨ci, h1, _⟩ := (hx ⟨0, by omega⟩).choose_spec
      obtain ⟨hl, hc⟩ := cells?_at h1
      have h2 := hc 0 hpos
      rw [List.getElem?_eq_getElem (by omega), Nat.zero_mul] at h2
      have e00 : (a.add 0).add 0 = a := by simp [Addr.add]
      rw [e00] at h2
      have hsp : a.spot = none := by
        unfold World.cell? at h2
        split at h2
        · cases hs : a.spot with
          | none => rfl
          | some s => rw [hs] at h2; simp at h2
        · cases h2
      have hblk : ∃ c T' fr, W.heap[a.block]? = some (.cells c T' fr) := by
        unfold World.cell? at h2
        split at h2
        · rename_i c T' fr he
          exact ⟨c, T', fr, he⟩
        · cases h2
      obtain ⟨c, T', fr, hb⟩ := hblk
      refine ⟨a.block, a.off, c, T', fr, by rw [← hsp], hb, fun j p hp => ?_⟩
      have hjl : j < xs.length * Enc.n α := by
        rw [← flat_length]
        exact (List.getElem?_eq_some_iff.1 hp).1
      have hk0 : 0 < Enc.n α := Enc.pos
      have hi' : j / Enc.n α < len := by
        rw [Nat.div_lt_iff_lt_mul hk0, ← hxl]; exact hjl
      have hr' : j % Enc.n α < Enc.n α := Nat.mod_lt _ hk0
      have hjj : j / Enc.n α * Enc.n α + j % Enc.n α = j := by rw [Nat.mul_comm]; exact Nat.div_add_mod _ _
      have hxi : xs[j / Enc.n α]? = some (hx ⟨j / Enc.n α, hi'⟩).choose := by
        simp [xs, hi']
      have hp2 := flat_at xs _ _ _ hxi hr'
      rw [hjj, hp] at hp2
      obtain ⟨cj, k1, k2⟩ := (hx ⟨j / Enc.n α, hi'⟩).choose_spec
      obtain ⟨u, k3, k4⟩ := k2 _ p hp2.symm
      obtain ⟨kl, kc⟩ := cells?_at k1
      have k5 := kc (j % Enc.n α) (by rw [hr.size]; exact hr')
      rw [Nat.zero_add] at k3
      rw [k3, add_add hsp, hr.size, Nat.add_assoc, hjj] at k5
      refine ⟨u, ?_, Enc.one _ p (List.mem_of_getElem? hp2.symm) u _ k4, k4⟩
      simpa [World.cell?, hb] using k5⟩
theorem rd_field {P : Program} {W : World} {H : Type} {enc : TypeId × Value → H} {fs : Array Field} {n : Nat} {cs : List Value} {xs : List (DataW H × List MemPlace)}
    (hl : xs.length = fs.size) (hf : ∀ (i : Nat) (f : Field), fs[i]? = some f → DataW.trod enc P W 0 (fun _ => true) true n f.type ((cs.drop f.offset).take (P.cellsOf f.type)) = xs[i]?)
    (i : Nat) {f : Field} (he : fs[i]? = some f) {α : Type} [Enc α] (hr : Rd P f.type α) : ∃ a : α, Cl cs f.offset (Enc.cells a) (storeOf W) := by
  have h := hf i f he
  have hi : i < fs.size := (Array.getElem?_eq_some_iff.1 he).1
  rw [List.getElem?_eq_getElem (by omega)] at h
  obtain ⟨_, a, ha⟩ := hr.read h
  exact ⟨a, ha.part⟩
theorem arg_slice {P : Program} {T e : TypeId} {α : Type} [Enc α] {H : Type} {enc : TypeId × Value → H} {W : World} {base : Nat} {v : Value} {d : DataW H} {p : List MemPlace} (hT : P.underlying T = some (.slice e)) (hr : Rd P T (List α))
    (hv : Value.okWide P W .any base T v) (h : DataW.Trod enc P W 0 (fun _ => true) true T v d p) : ∃ xs : List α, (pSl xs).holds v (storeOf W) := by
  obtain ⟨a, len, cap, rfl⟩ := WideShapes.okWide_slice hT hv
  obtain ⟨n, hn⟩ := h
  obtain ⟨_, xs, hx⟩ := hr.read hn
  obtain ⟨u, h1, h2⟩ := hx 0 (pSl xs) rfl
  cases h1
  exact ⟨xs, h2⟩
theorem arg_struct {P : Program} {T : TypeId} {fs : Array Field} {α : Type} [Enc α] {H : Type} {enc : TypeId × Value → H} {W : World} {base : Nat} {v : Value} {d : DataW H} {p : List MemPlace} (hT : P.underlying T = some (.struct fs)) (hr : Rd P T α)
    (hv : Value.okWide P W .any base T v) (h : DataW.Trod enc P W 0 (fun _ => true) true T v d p) : ∃ a : α, (pT a).holds v (storeOf W) := by
  unfold Value.okWide at hv
  rw [hT] at hv
  obtain ⟨cs, rfl, hs, _⟩ := hv
  obtain ⟨n, hn⟩ := h
  obtain ⟨hl, a, ha⟩ := hr.read hn
  refine ⟨a, cs, rfl, ?_, ?_⟩
  · rw [Enc.len]
    simpa [Value.cells] using hl
  · have := ha.pCells (Enc.one a)
    simpa [Value.cells] using this
theorem glob_of {W : World} (h : ∃ m, W.cell? ⟨gMax, 0, none⟩ = some (.int .i64 m)) : Glob (storeOf W) := by
  obtain ⟨m, h⟩ := h
  unfold World.cell? at h
  split at h
  · rename_i c T fr he
    simp only [Option.isSome_none, Bool.false_eq_true, if_false] at h
    exact ⟨m, c, T, fr, he, h⟩
  · cases h
theorem sat_of {W : World} (g : Glob (storeOf W)) : Sat ⟨W, storeOf W, storeOf W, g⟩ (storeOf W) [] W :=
  ⟨rfl, rfl, rfl, Store.le.refl _, fun _ o h => ⟨o, h, OPre.refl o⟩, fun _ _ h => h, fun _ _ _ => rfl, fun _ h => (nomatch h), List.nodup_nil⟩
structure Left (W W' : World) : Prop where
  os : W'.os = W.os
  output : W'.output = W.output
  heap : ∀ (i : Nat) o, W.heap[i]? = some o → W'.heap[i]? = some o
theorem left_of {W W' : World} {g : Glob (storeOf W)} {S' : Store} (h : Sat ⟨W, storeOf W, storeOf W, g⟩ S' [] W') : Left W W' := ⟨h.os, h.output, fun i o hi => h.agreeF i o hi⟩
theorem Left.kept {W W' : World} (h : Left W W') (may : MemPlace → Prop) : W.keptBut W' may := ⟨h.os, h.output, fun i hi => by
  have h1 : W.heap[i]? = some W.heap[i] := by simp [hi]
  rw [h.heap i _ h1, h1]
  cases W.heap[i] with
  | cells c t fr => exact ⟨rfl, rfl, rfl, fun _ _ => rfl⟩
  | map es c => exact .inr ⟨rfl, rfl⟩
  | _ => rfl⟩
theorem law_call {P : Program} {f : FuncId} {ps : List Pred} (hs : Fn P f ps (pB true)) {W : World} (hg : ∃ m, W.cell? ⟨gMax, 0, none⟩ = some (.int .i64 m)) {vs : List Value} (hv : HoldAll ps vs (storeOf W)) :
    Calls P f vs.toArray W fun e W' => e = .returned (.bool true) ∧ Left W W' :=
  (hs ⟨W, storeOf W, storeOf W, glob_of hg⟩ (storeOf W) W vs (sat_of _) hv).mono fun e W' ⟨r, S', he, hr, _, hS⟩ => by
    have hr : r = .bool true := hr
    subst hr
    exact ⟨he, left_of hS⟩
end Go.Mp
namespace Go.Mp
open Go Go.ChangeShapes
theorem Left.same {W W' : World} (h : Left W W') {p : MemPlace} (hp : p.block < W.heap.size) : W.sameAt W' p := by
  have e : ∀ b, b < W.heap.size → W'.heap[b]? = W.heap[b]? := fun b hb => by
    have h1 : W.heap[b]? = some W.heap[b] := by simp [hb]
    rw [h1]; exact h.heap b _ h1
  cases p with
  | cell b o =>
    show W'.cell? _ = W.cell? _
    unfold World.cell?
    rw [e b hp]
  | map b => exact e b hp
theorem Left.stay {W W' : World} (h : Left W W') {H : Type} {enc : TypeId × Value → H} {P : Program} {t : TypeId} (hl : laidOutB P = true) (hr : P.readableRec t = true) (hrow : t < P.types.size) {v : Value} {d : DataW H} {ps : List MemPlace} {sp : Nat → Bool}
    (hd : DataW.Trod enc P W 0 (fun _ => true) true t v d ps) (hlt : ∀ x ∈ ps, x.block < W.heap.size) (hsp : ∀ x ∈ ps, sp x.block = true) : DataW.Trod enc P W' 0 sp true t v d ps :=
  WideElems.Trod_stays hl hr hrow hd (fun x hx => h.same (hlt x hx)) hsp
theorem Left.stays {W W' : World} (h : Left W W') {H : Type} {enc : TypeId × Value → H} {P : Program} (hl : laidOutB P = true) {sp : Nat → Bool} :
    ∀ {ts : List TypeId} {vs : List Value} {ds : List (DataW H)} {ps : List MemPlace}, (∀ t ∈ ts, P.readableRec t = true ∧ t < P.types.size) → DataW.TrodAll enc P W 0 (fun _ => true) true ts vs ds ps →
      (∀ x ∈ ps, x.block < W.heap.size) → (∀ x ∈ ps, sp x.block = true) → DataW.TrodAll enc P W' 0 sp true ts vs ds ps
  | [], vs, ds, ps, _, hd, _, _ => by
    obtain ⟨rfl, rfl, rfl⟩ := trodAll_nil hd
    exact trodAll_mk0
  | t :: ts, vs, ds, ps, hr, hd, hlt, hsp => by
    obtain ⟨v, vs, d, ds, p, q, rfl, rfl, rfl, h1, h2⟩ := trodAll_cons hd
    exact trodAll_cons_mk (h.stay hl (hr t List.mem_cons_self).1 (hr t List.mem_cons_self).2 h1 (fun x hx => hlt x (List.mem_append.2 (.inl hx))) (fun x hx => hsp x (List.mem_append.2 (.inl hx))))
      (h.stays hl (fun t ht => hr t (List.mem_cons_of_mem _ ht)) h2 (fun x hx => hlt x (List.mem_append.2 (.inr hx))) (fun x hx => hsp x (List.mem_append.2 (.inr hx))))
theorem post_left {H : Type} {enc : TypeId × Value → H} {P : Program} {f : Func} {s : ChangeSpec} {W W' : World} {args : Array Value} {v : Value} {ds gs : List (DataW H)} {before : List MemPlace} (hlo : laidOutB P = true)
    (hr : ∀ t ∈ f.params.toList, P.readableRec t = true ∧ t < P.types.size) (hvars : s.vars = []) (hfa : (s.fn H (ds ++ gs)).args = ds) (hfv : (s.fn H (ds ++ gs)).vars = [])
    (hW : DataW.Whole enc P f.params.toList s.vars false W args.toList ds gs before) (hl : Left W W')
    (hres : ∀ b sp hd, DataW.TrodAll enc P W' b sp hd f.resultTypes.toList (v.resultList f.resultTypes.size) (s.fn H (ds ++ gs)).results []) : s.post enc P f false true false false W args v W' := by
  have hlt := hW.lt
  obtain ⟨p, q, hA, hV, hpq, h5, h6⟩ := hW
  rw [hvars] at hV
  obtain ⟨rfl, rfl⟩ := trodVars_none hV
  have hbp : before = p := by rw [hpq, List.append_nil]
  rw [hbp] at hlt
  refine ⟨ds, [], before, [], before, [], ⟨p, [], hA, by rw [hvars]; rfl, hpq, h5, h6⟩, hres _ _ _, ?_, ?_, hl.kept _, fun h => by cases h⟩
  · rw [hfa, hbp]
    exact hl.stays hlo hr hA hlt fun x hx => by simpa using hlt x hx
  · rw [hvars, hfv]
    rfl
theorem handed_shaped {H : Type} {enc : TypeId × Value → H} {a : Assume} {C : Checked} {os : Os} {f : FuncId} {fn : Func} {s : ChangeSpec} {conds : List PathCond} {apart fresh handsOn again : Bool} {X : World → Array Value → Prop}
    (own : ownKnob C.prog.godebug = none) (started : os.Started) (noInit : C.prog.inits.idxOf? f = none) (hfn : C.prog.funcs[f]? = some fn)
    (witness : ∃ (w : World) (tape : Tape) (i : Input), w.os = os ∧ (w.forCall tape i).Shaped C.prog ∧ i.vars = [] ∧ Input.okWide C.prog (w.forCall tape i) .any w.heap.size f i ∧
      ((s.pre enc C.prog fn conds apart (w.forCall tape i).memory i.args ∧ X (w.forCall tape i).memory i.args) ∧ sizedMet enc C.prog fn (OpenSpec.ofChange s) apart (w.forCall tape i).memory i.args) ∧ a.holds C.prog (lone (Frame.enter C.prog f i.args .normal) [] (w.forCall tape i)))
    (contract : ∀ (W : World) (base : Nat) (args : Array Value) (ds gs : List (DataW H)) (before : List MemPlace),
      (∀ (j : Nat) t v, fn.params[j]? = some t → args[j]? = some v → Value.okWide C.prog W .any base t v) →
      DataW.Whole enc C.prog fn.params.toList s.vars apart W args.toList ds gs before → W.ShapedOpen C.prog →
      Calls C.prog f args W fun e W' => ∃ v, e = .returned v ∧ s.post enc C.prog fn apart fresh handsOn again W args v W') :
    ReturnsInHanded a C os f .any (fun w args => (s.pre enc C.prog fn conds apart w args ∧ X w args) ∧ sizedMet enc C.prog fn (OpenSpec.ofChange s) apart w args) (s.post enc C.prog fn apart fresh handsOn again) := by
  refine returnsInHanded_of_calls own started noInit witness ?_
  intro w tape i _ hsh _ hok hpre _
  obtain ⟨_, _, _, fn', hfn', _, _, _, _, hval⟩ := hok
  have e : fn' = fn := Option.some.inj (hfn'.symm.trans hfn)
  subst e
  obtain ⟨⟨⟨ds, gs, before, hw, _⟩, _⟩, _⟩ := hpre
  have hw' := DataW.Whole.of_heap (w' := w.forCall tape i) (by rfl) hw
  refine (contract (w.forCall tape i) w.heap.size i.args ds gs before hval hw' hsh).mono fun e W' ⟨v, he, hp⟩ => ?_
  subst he
  exact ChangeSpec.post_blind hp
end Go.Mp
set_option maxRecDepth 100000
namespace Go.Mp
open Go Go.Proofs Go.Proofs.YtbmhkahphmgggaaGreatDoor Go.ChangeShapes
theorem rdT9 : Rd Tryz.prog 9 ByteArray := rd_string Tryz.underlying9 (by kernel_rfl)
theorem rdT3 : Rd Tryz.prog 3 Int := rd_int Tryz.underlying3 (by kernel_rfl)
theorem rdT57 : Rd Tryz.prog 57 Version := ⟨by kernel_rfl, fun {_ _ _ _ _ _} h => by
  obtain ⟨xs, n, rfl, rfl, hl, hlen, hf⟩ := DataW.trod_struct Tryz.underlying57 h
  obtain ⟨a0, h0⟩ := rd_field hlen hf 0 rfl rdT3
  obtain ⟨a1, h1⟩ := rd_field hlen hf 1 rfl rdT3
  obtain ⟨a2, h2⟩ := rd_field hlen hf 2 rfl rdT3
  exact ⟨hl.trans (by kernel_rfl), ⟨a0, a1, a2⟩, (Cl.app h0 (Cl.app h1 h2))⟩⟩
theorem rdT118 : Rd Tryz.prog 118 Span := ⟨by kernel_rfl, fun {_ _ _ _ _ _} h => by
  obtain ⟨xs, n, rfl, rfl, hl, hlen, hf⟩ := DataW.trod_struct Tryz.underlying118 h
  obtain ⟨a0, h0⟩ := rd_field hlen hf 0 rfl rdT3
  obtain ⟨a1, h1⟩ := rd_field hlen hf 1 rfl rdT3
  exact ⟨hl.trans (by kernel_rfl), ⟨a0, a1⟩, (Cl.app h0 h1)⟩⟩
theorem rdT105 : Rd Tryz.prog 105 (List Span) := rd_slice Tryz.underlying105 (by kernel_rfl) rdT118
theorem rdT120 : Rd Tryz.prog 120 Requirement := ⟨by kernel_rfl, fun {_ _ _ _ _ _} h => by
  obtain ⟨xs, n, rfl, rfl, hl, hlen, hf⟩ := DataW.trod_struct Tryz.underlying120 h
  obtain ⟨a0, h0⟩ := rd_field hlen hf 0 rfl rdT9
  obtain ⟨a1, h1⟩ := rd_field hlen hf 1 rfl rdT105
  exact ⟨hl.trans (by kernel_rfl), ⟨a0, a1⟩, (Cl.app h0 h1)⟩⟩
theorem rdT26 : Rd Tryz.prog 26 (List Requirement) := rd_slice Tryz.underlying26 (by kernel_rfl) rdT120
theorem rdT4 : Rd Tryz.prog 4 Bool := rd_bool Tryz.underlying4 (by kernel_rfl)
theorem rdT89 : Rd Tryz.prog 89 Release := ⟨by kernel_rfl, fun {_ _ _ _ _ _} h => by
  obtain ⟨xs, n, rfl, rfl, hl, hlen, hf⟩ := DataW.trod_struct Tryz.underlying89 h
  obtain ⟨a0, h0⟩ := rd_field hlen hf 0 rfl rdT9
  obtain ⟨a1, h1⟩ := rd_field hlen hf 1 rfl rdT57
  obtain ⟨a2, h2⟩ := rd_field hlen hf 2 rfl rdT26
  obtain ⟨a3, h3⟩ := rd_field hlen hf 3 rfl rdT9
  obtain ⟨a4, h4⟩ := rd_field hlen hf 4 rfl rdT9
  obtain ⟨a5, h5⟩ := rd_field hlen hf 5 rfl rdT9
  obtain ⟨a6, h6⟩ := rd_field hlen hf 6 rfl rdT4
  exact ⟨hl.trans (by kernel_rfl), ⟨a0, a1, a2, a3, a4, a5, a6⟩, (Cl.app h0 (Cl.app h1 (Cl.app h2 (Cl.app h3 (Cl.app h4 (Cl.app h5 h6))))))⟩⟩
theorem rdT22 : Rd Tryz.prog 22 (List Release) := rd_slice Tryz.underlying22 (by kernel_rfl) rdT89
theorem rdT23 : Rd Tryz.prog 23 RawSl := rd_raw Tryz.underlying23 (by kernel_rfl)
theorem rdT25 : Rd Tryz.prog 25 Index := ⟨by kernel_rfl, fun {_ _ _ _ _ _} h => by
  obtain ⟨xs, n, rfl, rfl, hl, hlen, hf⟩ := DataW.trod_struct Tryz.underlying25 h
  obtain ⟨a0, h0⟩ := rd_field hlen hf 0 rfl rdT22
  obtain ⟨a1, h1⟩ := rd_field hlen hf 1 rfl rdT23
  exact ⟨hl.trans (by kernel_rfl), ⟨a0, a1⟩, (Cl.app h0 h1)⟩⟩
theorem rdT68 : Rd Tryz.prog 68 Inference := ⟨by kernel_rfl, fun {_ _ _ _ _ _} h => by
  obtain ⟨xs, n, rfl, rfl, hl, hlen, hf⟩ := DataW.trod_struct Tryz.underlying68 h
  obtain ⟨a0, h0⟩ := rd_field hlen hf 0 rfl rdT3
  obtain ⟨a1, h1⟩ := rd_field hlen hf 1 rfl rdT9
  obtain ⟨a2, h2⟩ := rd_field hlen hf 2 rfl rdT3
  obtain ⟨a3, h3⟩ := rd_field hlen hf 3 rfl rdT3
  obtain ⟨a4, h4⟩ := rd_field hlen hf 4 rfl rdT3
  obtain ⟨a5, h5⟩ := rd_field hlen hf 5 rfl rdT3
  exact ⟨hl.trans (by kernel_rfl), ⟨a0, a1, a2, a3, a4, a5⟩, (Cl.app h0 (Cl.app h1 (Cl.app h2 (Cl.app h3 (Cl.app h4 h5)))))⟩⟩
theorem rdT27 : Rd Tryz.prog 27 (List Inference) := rd_slice Tryz.underlying27 (by kernel_rfl) rdT68
theorem rdT59 : Rd Tryz.prog 59 Selected := ⟨by kernel_rfl, fun {_ _ _ _ _ _} h => by
  obtain ⟨xs, n, rfl, rfl, hl, hlen, hf⟩ := DataW.trod_struct Tryz.underlying59 h
  obtain ⟨a0, h0⟩ := rd_field hlen hf 0 rfl rdT9
  obtain ⟨a1, h1⟩ := rd_field hlen hf 1 rfl rdT57
  exact ⟨hl.trans (by kernel_rfl), ⟨a0, a1⟩, (Cl.app h0 h1)⟩⟩
theorem rdT37 : Rd Tryz.prog 37 (List Selected) := rd_slice Tryz.underlying37 (by kernel_rfl) rdT59
theorem rdT72 : Rd Tryz.prog 72 Skip := ⟨by kernel_rfl, fun {_ _ _ _ _ _} h => by
  obtain ⟨xs, n, rfl, rfl, hl, hlen, hf⟩ := DataW.trod_struct Tryz.underlying72 h
  obtain ⟨a0, h0⟩ := rd_field hlen hf 0 rfl rdT9
  obtain ⟨a1, h1⟩ := rd_field hlen hf 1 rfl rdT3
  obtain ⟨a2, h2⟩ := rd_field hlen hf 2 rfl rdT3
  exact ⟨hl.trans (by kernel_rfl), ⟨a0, a1, a2⟩, (Cl.app h0 (Cl.app h1 h2))⟩⟩
theorem rdT38 : Rd Tryz.prog 38 (List Skip) := rd_slice Tryz.underlying38 (by kernel_rfl) rdT72
theorem rdT40 : Rd Tryz.prog 40 Answer := ⟨by kernel_rfl, fun {_ _ _ _ _ _} h => by
  obtain ⟨xs, n, rfl, rfl, hl, hlen, hf⟩ := DataW.trod_struct Tryz.underlying40 h
  obtain ⟨a0, h0⟩ := rd_field hlen hf 0 rfl rdT4
  obtain ⟨a1, h1⟩ := rd_field hlen hf 1 rfl rdT37
  obtain ⟨a2, h2⟩ := rd_field hlen hf 2 rfl rdT27
  obtain ⟨a3, h3⟩ := rd_field hlen hf 3 rfl rdT38
  exact ⟨hl.trans (by kernel_rfl), ⟨a0, a1, a2, a3⟩, (Cl.app h0 (Cl.app h1 (Cl.app h2 h3)))⟩⟩
theorem own_ : ownKnob Tryz.prog.godebug = none := by kernel_rfl
theorem laidOut_ : laidOutB Tryz.prog = true := by kernel_rfl
theorem maxLen_ {W : World} (h : W.ShapedOpen Tryz.prog) : ∃ m, W.cell? ⟨gMax, 0, none⟩ = some (.int .i64 m) :=
  cell_of_shapedOpen_int (P := Tryz.prog) (g := 0) (t := 3) (zero := #[.int .i64 0]) h (of_decide_eq_true (by kernel_rfl)) (by kernel_rfl) rfl (by kernel_rfl) (by kernel_rfl) Tryz.underlying3
end Go.Mp
set_option maxRecDepth 100000
namespace Go.Mp
open Go Go.Proofs
set_option linter.unusedVariables false
set_option linter.unusedSimpArgs false
theorem mixed : Tryz.prog.follows .mixedOrders = true := by kernel_rfl
theorem fo25_0 : FieldOff Tryz.prog 25 0 0 := FieldOff.of Tryz.runUnderlying25 rfl rfl Tryz.sizeOf22 rfl
theorem fo40_0 : FieldOff Tryz.prog 40 0 0 := FieldOff.of Tryz.runUnderlying40 rfl rfl Tryz.sizeOf4 rfl
theorem fo40_1 : FieldOff Tryz.prog 40 1 1 := FieldOff.of Tryz.runUnderlying40 rfl rfl Tryz.sizeOf37 rfl
theorem fo40_2 : FieldOff Tryz.prog 40 2 2 := FieldOff.of Tryz.runUnderlying40 rfl rfl Tryz.sizeOf27 rfl
theorem fo40_3 : FieldOff Tryz.prog 40 3 3 := FieldOff.of Tryz.runUnderlying40 rfl rfl Tryz.sizeOf38 rfl
theorem fo57_0 : FieldOff Tryz.prog 57 0 0 := FieldOff.of Tryz.runUnderlying57 rfl rfl Tryz.sizeOf3 rfl
theorem fo57_1 : FieldOff Tryz.prog 57 1 1 := FieldOff.of Tryz.runUnderlying57 rfl rfl Tryz.sizeOf3 rfl
theorem fo57_2 : FieldOff Tryz.prog 57 2 2 := FieldOff.of Tryz.runUnderlying57 rfl rfl Tryz.sizeOf3 rfl
theorem fo59_0 : FieldOff Tryz.prog 59 0 0 := FieldOff.of Tryz.runUnderlying59 rfl rfl Tryz.sizeOf9 rfl
theorem fo59_1 : FieldOff Tryz.prog 59 1 1 := FieldOff.of Tryz.runUnderlying59 rfl rfl Tryz.sizeOf57 rfl
theorem fo68_0 : FieldOff Tryz.prog 68 0 0 := FieldOff.of Tryz.runUnderlying68 rfl rfl Tryz.sizeOf3 rfl
theorem fo68_1 : FieldOff Tryz.prog 68 1 1 := FieldOff.of Tryz.runUnderlying68 rfl rfl Tryz.sizeOf9 rfl
theorem fo68_2 : FieldOff Tryz.prog 68 2 2 := FieldOff.of Tryz.runUnderlying68 rfl rfl Tryz.sizeOf3 rfl
theorem fo68_3 : FieldOff Tryz.prog 68 3 3 := FieldOff.of Tryz.runUnderlying68 rfl rfl Tryz.sizeOf3 rfl
theorem fo68_4 : FieldOff Tryz.prog 68 4 4 := FieldOff.of Tryz.runUnderlying68 rfl rfl Tryz.sizeOf3 rfl
theorem fo68_5 : FieldOff Tryz.prog 68 5 5 := FieldOff.of Tryz.runUnderlying68 rfl rfl Tryz.sizeOf3 rfl
theorem fo72_0 : FieldOff Tryz.prog 72 0 0 := FieldOff.of Tryz.runUnderlying72 rfl rfl Tryz.sizeOf9 rfl
theorem fo72_1 : FieldOff Tryz.prog 72 1 1 := FieldOff.of Tryz.runUnderlying72 rfl rfl Tryz.sizeOf3 rfl
theorem fo72_2 : FieldOff Tryz.prog 72 2 2 := FieldOff.of Tryz.runUnderlying72 rfl rfl Tryz.sizeOf3 rfl
theorem fo83_0 : FieldOff Tryz.prog 83 0 0 := FieldOff.of Tryz.runUnderlying83 rfl rfl Tryz.sizeOf25 rfl
theorem fo83_1 : FieldOff Tryz.prog 83 1 2 := FieldOff.of Tryz.runUnderlying83 rfl rfl Tryz.sizeOf26 rfl
theorem fo83_2 : FieldOff Tryz.prog 83 2 3 := FieldOff.of Tryz.runUnderlying83 rfl rfl Tryz.sizeOf30 rfl
theorem fo89_0 : FieldOff Tryz.prog 89 0 0 := FieldOff.of Tryz.runUnderlying89 rfl rfl Tryz.sizeOf9 rfl
theorem fo89_1 : FieldOff Tryz.prog 89 1 1 := FieldOff.of Tryz.runUnderlying89 rfl rfl Tryz.sizeOf57 rfl
theorem fo89_2 : FieldOff Tryz.prog 89 2 4 := FieldOff.of Tryz.runUnderlying89 rfl rfl Tryz.sizeOf26 rfl
theorem fo89_3 : FieldOff Tryz.prog 89 3 5 := FieldOff.of Tryz.runUnderlying89 rfl rfl Tryz.sizeOf9 rfl
theorem fo89_4 : FieldOff Tryz.prog 89 4 6 := FieldOff.of Tryz.runUnderlying89 rfl rfl Tryz.sizeOf9 rfl
theorem fo89_5 : FieldOff Tryz.prog 89 5 7 := FieldOff.of Tryz.runUnderlying89 rfl rfl Tryz.sizeOf9 rfl
theorem fo89_6 : FieldOff Tryz.prog 89 6 8 := FieldOff.of Tryz.runUnderlying89 rfl rfl Tryz.sizeOf4 rfl
theorem fo107_0 : FieldOff Tryz.prog 107 0 0 := FieldOff.of Tryz.runUnderlying107 rfl rfl Tryz.sizeOf9 rfl
theorem fo107_1 : FieldOff Tryz.prog 107 1 1 := FieldOff.of Tryz.runUnderlying107 rfl rfl Tryz.sizeOf4 rfl
theorem fo107_2 : FieldOff Tryz.prog 107 2 2 := FieldOff.of Tryz.runUnderlying107 rfl rfl Tryz.sizeOf105 rfl
theorem fo118_0 : FieldOff Tryz.prog 118 0 0 := FieldOff.of Tryz.runUnderlying118 rfl rfl Tryz.sizeOf3 rfl
theorem fo118_1 : FieldOff Tryz.prog 118 1 1 := FieldOff.of Tryz.runUnderlying118 rfl rfl Tryz.sizeOf3 rfl
theorem fo120_0 : FieldOff Tryz.prog 120 0 0 := FieldOff.of Tryz.runUnderlying120 rfl rfl Tryz.sizeOf9 rfl
theorem fo120_1 : FieldOff Tryz.prog 120 1 1 := FieldOff.of Tryz.runUnderlying120 rfl rfl Tryz.sizeOf105 rfl
theorem fo141_0 : FieldOff Tryz.prog 141 0 0 := FieldOff.of Tryz.runUnderlying141 rfl rfl Tryz.sizeOf138 rfl
theorem fo141_1 : FieldOff Tryz.prog 141 1 1 := FieldOff.of Tryz.runUnderlying141 rfl rfl Tryz.sizeOf139 rfl
theorem fo174_0 : FieldOff Tryz.prog 174 0 0 := FieldOff.of Tryz.runUnderlying174 rfl rfl Tryz.sizeOf171 rfl
theorem fo174_1 : FieldOff Tryz.prog 174 1 1 := FieldOff.of Tryz.runUnderlying174 rfl rfl Tryz.sizeOf172 rfl
theorem stT25 : StT Tryz.prog 25 #[.slice none 0 0, .slice none 0 0] #[(0, 1), (1, 1)] := ⟨Tryz.zeroValue25, _, Tryz.runUnderlying25, fun W => by simp [Tryz.sizeOf22, Tryz.sizeOf23]⟩
theorem zc25 (S : Store) : pCells #[.slice none 0 0, .slice none 0 0] 0 [pSl ([] : (List Release)), pV (.slice none 0 0)] S := pCells.ofL (vs := [.slice none 0 0, .slice none 0 0]) ⟨⟨rfl, pSl.nil S⟩, ⟨rfl, rfl⟩, trivial⟩
theorem stT40 : StT Tryz.prog 40 #[.bool false, .slice none 0 0, .slice none 0 0, .slice none 0 0] #[(0, 1), (1, 1), (2, 1), (3, 1)] := ⟨Tryz.zeroValue40, _, Tryz.runUnderlying40, fun W => by simp [Tryz.sizeOf4, Tryz.sizeOf27, Tryz.sizeOf37, Tryz.sizeOf38]⟩
theorem zc40 (S : Store) : pCells #[.bool false, .slice none 0 0, .slice none 0 0, .slice none 0 0] 0 [pV (.bool false), pSl ([] : (List Selected)), pSl ([] : (List Inference)), pSl ([] : (List Skip))] S := pCells.ofL (vs := [.bool false, .slice none 0 0, .slice none 0 0, .slice none 0 0]) ⟨⟨rfl, rfl⟩, ⟨rfl, pSl.nil S⟩, ⟨rfl, pSl.nil S⟩, ⟨rfl, pSl.nil S⟩, trivial⟩
theorem stT57 : StT Tryz.prog 57 #[.int .i64 0, .int .i64 0, .int .i64 0] #[(0, 1), (1, 1), (2, 1)] := ⟨Tryz.zeroValue57, _, Tryz.runUnderlying57, fun W => by simp [Tryz.sizeOf3]⟩
theorem zc57 (S : Store) : pCells #[.int .i64 0, .int .i64 0, .int .i64 0] 0 [pV (.int .i64 0), pV (.int .i64 0), pV (.int .i64 0)] S := pCells.ofL (vs := [.int .i64 0, .int .i64 0, .int .i64 0]) ⟨⟨rfl, rfl⟩, ⟨rfl, rfl⟩, ⟨rfl, rfl⟩, trivial⟩
theorem eqR57 {d : Nat} (a b : Version) (W : World) : (Op.equalIn (d + 2) 57 (.agg (valsVersion a).toArray) (.agg (valsVersion b).toArray)).run Tryz.prog W = .ok (decide (a = b)) W := by
  have h : (decide (a = b)) = (decide (a.major = b.major) && (decide (a.minor = b.minor) && (decide (a.patch = b.patch) && (true)))) := by
    cases a; cases b; simp [Bool.and_assoc]
  rw [h]
  exact eqStruct Tryz.underlying57 Tryz.stoodInHeld57 (eqCons (by decide) (part1 Tryz.isAgg3 rfl _) (part1 Tryz.isAgg3 rfl _) (eqInt _ _ Tryz.underlying3 _) (eqCons (by decide) (part1 Tryz.isAgg3 rfl _) (part1 Tryz.isAgg3 rfl _) (eqInt _ _ Tryz.underlying3 _) (eqCons (by decide) (part1 Tryz.isAgg3 rfl _) (part1 Tryz.isAgg3 rfl _) (eqInt _ _ Tryz.underlying3 _) (eqNil _ _ _ _))))
theorem eqT57 : EqT Tryz.prog 57 valsVersion := ⟨Tryz.eqGuardType57, fun a b W => eqR57 a b W⟩
theorem stT59 : StT Tryz.prog 59 #[.string { data := #[] }, .int .i64 0, .int .i64 0, .int .i64 0] #[(0, 1), (1, 3)] := ⟨Tryz.zeroValue59, _, Tryz.runUnderlying59, fun W => by simp [Tryz.sizeOf9, Tryz.sizeOf57]⟩
theorem zc59 (S : Store) : pCells #[.string { data := #[] }, .int .i64 0, .int .i64 0, .int .i64 0] 0 [pV (.string { data := #[] }), pV (.int .i64 0), pV (.int .i64 0), pV (.int .i64 0)] S := pCells.ofL (vs := [.string { data := #[] }, .int .i64 0, .int .i64 0, .int .i64 0]) ⟨⟨rfl, rfl⟩, ⟨rfl, rfl⟩, ⟨rfl, rfl⟩, ⟨rfl, rfl⟩, trivial⟩
theorem eqR59 {d : Nat} (a b : Selected) (W : World) : (Op.equalIn (d + 3) 59 (.agg (valsSelected a).toArray) (.agg (valsSelected b).toArray)).run Tryz.prog W = .ok (decide (a = b)) W := by
  have h : (decide (a = b)) = (decide (a.path = b.path) && (decide (a.version = b.version) && (true))) := by
    cases a; cases b; simp [Bool.and_assoc]
  rw [h]
  exact eqStruct Tryz.underlying59 Tryz.stoodInHeld59 (eqCons (by decide) (part1 Tryz.isAgg9 rfl _) (part1 Tryz.isAgg9 rfl _) (eqStr _ _ Tryz.underlying9 _) (eqCons (by decide) (partK Tryz.isAgg57 Tryz.sizeOf57 (ds := (valsVersion a.version).toArray) rfl _) (partK Tryz.isAgg57 Tryz.sizeOf57 (ds := (valsVersion b.version).toArray) rfl _) (eqR57 _ _ _) (eqNil _ _ _ _)))
theorem eqT59 : EqT Tryz.prog 59 valsSelected := ⟨Tryz.eqGuardType59, fun a b W => eqR59 a b W⟩
theorem stT68 : StT Tryz.prog 68 #[.int .i64 0, .string { data := #[] }, .int .i64 0, .int .i64 0, .int .i64 0, .int .i64 0] #[(0, 1), (1, 1), (2, 1), (3, 1), (4, 1), (5, 1)] := ⟨Tryz.zeroValue68, _, Tryz.runUnderlying68, fun W => by simp [Tryz.sizeOf3, Tryz.sizeOf9]⟩
theorem zc68 (S : Store) : pCells #[.int .i64 0, .string { data := #[] }, .int .i64 0, .int .i64 0, .int .i64 0, .int .i64 0] 0 [pV (.int .i64 0), pV (.string { data := #[] }), pV (.int .i64 0), pV (.int .i64 0), pV (.int .i64 0), pV (.int .i64 0)] S := pCells.ofL (vs := [.int .i64 0, .string { data := #[] }, .int .i64 0, .int .i64 0, .int .i64 0, .int .i64 0]) ⟨⟨rfl, rfl⟩, ⟨rfl, rfl⟩, ⟨rfl, rfl⟩, ⟨rfl, rfl⟩, ⟨rfl, rfl⟩, ⟨rfl, rfl⟩, trivial⟩
theorem eqR68 {d : Nat} (a b : Inference) (W : World) : (Op.equalIn (d + 2) 68 (.agg (valsInference a).toArray) (.agg (valsInference b).toArray)).run Tryz.prog W = .ok (decide (a = b)) W := by
  have h : (decide (a = b)) = (decide (a.kind = b.kind) && (decide (a.path = b.path) && (decide (a.place = b.place) && (decide (a.number = b.number) && (decide (a.left = b.left) && (decide (a.right = b.right) && (true))))))) := by
    cases a; cases b; simp [Bool.and_assoc]
  rw [h]
  exact eqStruct Tryz.underlying68 Tryz.stoodInHeld68 (eqCons (by decide) (part1 Tryz.isAgg3 rfl _) (part1 Tryz.isAgg3 rfl _) (eqInt _ _ Tryz.underlying3 _) (eqCons (by decide) (part1 Tryz.isAgg9 rfl _) (part1 Tryz.isAgg9 rfl _) (eqStr _ _ Tryz.underlying9 _) (eqCons (by decide) (part1 Tryz.isAgg3 rfl _) (part1 Tryz.isAgg3 rfl _) (eqInt _ _ Tryz.underlying3 _) (eqCons (by decide) (part1 Tryz.isAgg3 rfl _) (part1 Tryz.isAgg3 rfl _) (eqInt _ _ Tryz.underlying3 _) (eqCons (by decide) (part1 Tryz.isAgg3 rfl _) (part1 Tryz.isAgg3 rfl _) (eqInt _ _ Tryz.underlying3 _) (eqCons (by decide) (part1 Tryz.isAgg3 rfl _) (part1 Tryz.isAgg3 rfl _) (eqInt _ _ Tryz.underlying3 _) (eqNil _ _ _ _)))))))
theorem eqT68 : EqT Tryz.prog 68 valsInference := ⟨Tryz.eqGuardType68, fun a b W => eqR68 a b W⟩
theorem stT72 : StT Tryz.prog 72 #[.string { data := #[] }, .int .i64 0, .int .i64 0] #[(0, 1), (1, 1), (2, 1)] := ⟨Tryz.zeroValue72, _, Tryz.runUnderlying72, fun W => by simp [Tryz.sizeOf3, Tryz.sizeOf9]⟩
theorem zc72 (S : Store) : pCells #[.string { data := #[] }, .int .i64 0, .int .i64 0] 0 [pV (.string { data := #[] }), pV (.int .i64 0), pV (.int .i64 0)] S := pCells.ofL (vs := [.string { data := #[] }, .int .i64 0, .int .i64 0]) ⟨⟨rfl, rfl⟩, ⟨rfl, rfl⟩, ⟨rfl, rfl⟩, trivial⟩
theorem stT83 : StT Tryz.prog 83 #[.slice none 0 0, .slice none 0 0, .slice none 0 0, .slice none 0 0] #[(0, 2), (2, 1), (3, 1)] := ⟨Tryz.zeroValue83, _, Tryz.runUnderlying83, fun W => by simp [Tryz.sizeOf25, Tryz.sizeOf26, Tryz.sizeOf30]⟩
theorem zx83 (S : Store) : pCells #[.slice none 0 0, .slice none 0 0, .slice none 0 0, .slice none 0 0] 0 [pV (.slice none 0 0), pV (.slice none 0 0), pV (.slice none 0 0), pV (.slice none 0 0)] S := pCells.ofL (vs := [.slice none 0 0, .slice none 0 0, .slice none 0 0, .slice none 0 0]) ⟨⟨rfl, rfl⟩, ⟨rfl, rfl⟩, ⟨rfl, rfl⟩, ⟨rfl, rfl⟩, trivial⟩
theorem stT89 : StT Tryz.prog 89 #[.string { data := #[] }, .int .i64 0, .int .i64 0, .int .i64 0, .slice none 0 0, .string { data := #[] }, .string { data := #[] }, .string { data := #[] }, .bool false] #[(0, 1), (1, 3), (4, 1), (5, 1), (6, 1), (7, 1), (8, 1)] := ⟨Tryz.zeroValue89, _, Tryz.runUnderlying89, fun W => by simp [Tryz.sizeOf4, Tryz.sizeOf9, Tryz.sizeOf26, Tryz.sizeOf57]⟩
theorem zc89 (S : Store) : pCells #[.string { data := #[] }, .int .i64 0, .int .i64 0, .int .i64 0, .slice none 0 0, .string { data := #[] }, .string { data := #[] }, .string { data := #[] }, .bool false] 0 [pV (.string { data := #[] }), pV (.int .i64 0), pV (.int .i64 0), pV (.int .i64 0), pSl ([] : (List Requirement)), pV (.string { data := #[] }), pV (.string { data := #[] }), pV (.string { data := #[] }), pV (.bool false)] S := pCells.ofL (vs := [.string { data := #[] }, .int .i64 0, .int .i64 0, .int .i64 0, .slice none 0 0, .string { data := #[] }, .string { data := #[] }, .string { data := #[] }, .bool false]) ⟨⟨rfl, rfl⟩, ⟨rfl, rfl⟩, ⟨rfl, rfl⟩, ⟨rfl, rfl⟩, ⟨rfl, pSl.nil S⟩, ⟨rfl, rfl⟩, ⟨rfl, rfl⟩, ⟨rfl, rfl⟩, ⟨rfl, rfl⟩, trivial⟩
theorem stT107 : StT Tryz.prog 107 #[.string { data := #[] }, .bool false, .slice none 0 0] #[(0, 1), (1, 1), (2, 1)] := ⟨Tryz.zeroValue107, _, Tryz.runUnderlying107, fun W => by simp [Tryz.sizeOf4, Tryz.sizeOf9, Tryz.sizeOf105]⟩
theorem zc107 (S : Store) : pCells #[.string { data := #[] }, .bool false, .slice none 0 0] 0 [pV (.string { data := #[] }), pV (.bool false), pSl ([] : (List Span))] S := pCells.ofL (vs := [.string { data := #[] }, .bool false, .slice none 0 0]) ⟨⟨rfl, rfl⟩, ⟨rfl, rfl⟩, ⟨rfl, pSl.nil S⟩, trivial⟩
theorem stT118 : StT Tryz.prog 118 #[.int .i64 0, .int .i64 0] #[(0, 1), (1, 1)] := ⟨Tryz.zeroValue118, _, Tryz.runUnderlying118, fun W => by simp [Tryz.sizeOf3]⟩
theorem zc118 (S : Store) : pCells #[.int .i64 0, .int .i64 0] 0 [pV (.int .i64 0), pV (.int .i64 0)] S := pCells.ofL (vs := [.int .i64 0, .int .i64 0]) ⟨⟨rfl, rfl⟩, ⟨rfl, rfl⟩, trivial⟩
theorem eqR118 {d : Nat} (a b : Span) (W : World) : (Op.equalIn (d + 2) 118 (.agg (valsSpan a).toArray) (.agg (valsSpan b).toArray)).run Tryz.prog W = .ok (decide (a = b)) W := by
  have h : (decide (a = b)) = (decide (a.from_ = b.from_) && (decide (a.to_ = b.to_) && (true))) := by
    cases a; cases b; simp [Bool.and_assoc]
  rw [h]
  exact eqStruct Tryz.underlying118 Tryz.stoodInHeld118 (eqCons (by decide) (part1 Tryz.isAgg3 rfl _) (part1 Tryz.isAgg3 rfl _) (eqInt _ _ Tryz.underlying3 _) (eqCons (by decide) (part1 Tryz.isAgg3 rfl _) (part1 Tryz.isAgg3 rfl _) (eqInt _ _ Tryz.underlying3 _) (eqNil _ _ _ _)))
theorem eqT118 : EqT Tryz.prog 118 valsSpan := ⟨Tryz.eqGuardType118, fun a b W => eqR118 a b W⟩
theorem stT120 : StT Tryz.prog 120 #[.string { data := #[] }, .slice none 0 0] #[(0, 1), (1, 1)] := ⟨Tryz.zeroValue120, _, Tryz.runUnderlying120, fun W => by simp [Tryz.sizeOf9, Tryz.sizeOf105]⟩
theorem zc120 (S : Store) : pCells #[.string { data := #[] }, .slice none 0 0] 0 [pV (.string { data := #[] }), pSl ([] : (List Span))] S := pCells.ofL (vs := [.string { data := #[] }, .slice none 0 0]) ⟨⟨rfl, rfl⟩, ⟨rfl, pSl.nil S⟩, trivial⟩
theorem stT141 : StT Tryz.prog 141 #[.map none, .map none] #[(0, 1), (1, 1)] := ⟨Tryz.zeroValue141, _, Tryz.runUnderlying141, fun W => by simp [Tryz.sizeOf138, Tryz.sizeOf139]⟩
theorem zc141 (S : Store) : pCells #[.map none, .map none] 0 [pV (.map none), pV (.map none)] S := pCells.ofL (vs := [.map none, .map none]) ⟨⟨rfl, rfl⟩, ⟨rfl, rfl⟩, trivial⟩
theorem stT174 : StT Tryz.prog 174 #[.nilFunc, .nilFunc] #[(0, 1), (1, 1)] := ⟨Tryz.zeroValue174, _, Tryz.runUnderlying174, fun W => by simp [Tryz.sizeOf171, Tryz.sizeOf172]⟩
theorem zc174 (S : Store) : pCells #[.nilFunc, .nilFunc] 0 [pV (.nilFunc), pV (.nilFunc)] S := pCells.ofL (vs := [.nilFunc, .nilFunc]) ⟨⟨rfl, rfl⟩, ⟨rfl, rfl⟩, trivial⟩
theorem zc3 (S : Store) : pCells #[.int .i64 0] 0 [pV (.int .i64 0)] S := pCells.ofL (vs := [.int .i64 0]) ⟨⟨rfl, rfl⟩, trivial⟩
theorem zc4 (S : Store) : pCells #[.bool false] 0 [pV (.bool false)] S := pCells.ofL (vs := [.bool false]) ⟨⟨rfl, rfl⟩, trivial⟩
theorem zc9 (S : Store) : pCells #[.string { data := #[] }] 0 [pV (.string { data := #[] })] S := pCells.ofL (vs := [.string { data := #[] }]) ⟨⟨rfl, rfl⟩, trivial⟩
theorem slT22 : SlT Tryz.prog 22 89 9 := ⟨Tryz.runUnderlying22, Tryz.sizeOf89, _, Tryz.zeroValue89⟩
theorem apT22 : ApT Tryz.prog 22 89 9 120 := ApT.of Tryz.underlying22 Tryz.type89 rfl rfl rfl rfl
theorem slT26 : SlT Tryz.prog 26 120 2 := ⟨Tryz.runUnderlying26, Tryz.sizeOf120, _, Tryz.zeroValue120⟩
theorem apT26 : ApT Tryz.prog 26 120 2 40 := ApT.of Tryz.underlying26 Tryz.type120 rfl rfl rfl rfl
theorem slT27 : SlT Tryz.prog 27 68 6 := ⟨Tryz.runUnderlying27, Tryz.sizeOf68, _, Tryz.zeroValue68⟩
theorem slT30 : SlT Tryz.prog 30 51 1 := ⟨Tryz.runUnderlying30, Tryz.sizeOf51, _, Tryz.zeroValue51⟩
theorem apT30 : ApT Tryz.prog 30 51 1 24 := ApT.of Tryz.underlying30 Tryz.type51 rfl rfl rfl rfl
theorem slT37 : SlT Tryz.prog 37 59 4 := ⟨Tryz.runUnderlying37, Tryz.sizeOf59, _, Tryz.zeroValue59⟩
theorem apT37 : ApT Tryz.prog 37 59 4 40 := ApT.of Tryz.underlying37 Tryz.type59 rfl rfl rfl rfl
theorem slT38 : SlT Tryz.prog 38 72 3 := ⟨Tryz.runUnderlying38, Tryz.sizeOf72, _, Tryz.zeroValue72⟩
theorem apT38 : ApT Tryz.prog 38 72 3 32 := ApT.of Tryz.underlying38 Tryz.type72 rfl rfl rfl rfl
theorem zc38 (S : Store) : pCells #[.slice none 0 0] 0 [pSl ([] : (List Skip))] S := pCells.ofL (vs := [.slice none 0 0]) ⟨⟨rfl, pSl.nil S⟩, trivial⟩
theorem slT42 : SlT Tryz.prog 42 9 1 := ⟨Tryz.runUnderlying42, Tryz.sizeOf9, _, Tryz.zeroValue9⟩
theorem apT42 : ApT Tryz.prog 42 9 1 16 := ApT.of Tryz.underlying42 Tryz.type9 rfl rfl rfl rfl
theorem zn42 (S : Store) : pCells #[.slice none 0 0] 0 [pV (.slice none 0 0)] S := pCells.ofL (vs := [.slice none 0 0]) ⟨⟨rfl, rfl⟩, trivial⟩
theorem slT50 : SlT Tryz.prog 50 107 3 := ⟨Tryz.runUnderlying50, Tryz.sizeOf107, _, Tryz.zeroValue107⟩
theorem slT51 : SlT Tryz.prog 51 107 3 := ⟨Tryz.runUnderlying51, Tryz.sizeOf107, _, Tryz.zeroValue107⟩
theorem apT51 : ApT Tryz.prog 51 107 3 48 := ApT.of Tryz.underlying51 Tryz.type107 rfl rfl rfl rfl
theorem zc79 (S : Store) : pCells #[.pointer none] 0 [pV (.pointer none)] S := pCells.ofL (vs := [.pointer none]) ⟨⟨rfl, rfl⟩, trivial⟩
theorem slT105 : SlT Tryz.prog 105 118 2 := ⟨Tryz.runUnderlying105, Tryz.sizeOf118, _, Tryz.zeroValue118⟩
theorem apT105 : ApT Tryz.prog 105 118 2 16 := ApT.of Tryz.underlying105 Tryz.type118 rfl rfl rfl rfl
theorem mpT110 : MpT Tryz.prog 110 9 107 := ⟨Tryz.runUnderlying110⟩
theorem mpT138 : MpT Tryz.prog 138 59 89 := ⟨Tryz.runUnderlying138⟩
theorem mpT139 : MpT Tryz.prog 139 9 22 := ⟨Tryz.runUnderlying139⟩
theorem mpT146 : MpT Tryz.prog 146 9 89 := ⟨Tryz.runUnderlying146⟩
theorem zc146 (S : Store) : pCells #[.map none] 0 [pV (.map none)] S := pCells.ofL (vs := [.map none]) ⟨⟨rfl, rfl⟩, trivial⟩
theorem mpT151 : MpT Tryz.prog 151 9 4 := ⟨Tryz.runUnderlying151⟩
theorem slT154 : SlT Tryz.prog 154 3 1 := ⟨Tryz.runUnderlying154, Tryz.sizeOf3, _, Tryz.zeroValue3⟩
theorem apT154 : ApT Tryz.prog 154 3 1 8 := ApT.of Tryz.underlying154 Tryz.type3 rfl rfl rfl rfl
theorem arT175 : ArT Tryz.prog 175 174 4 2 #[.nilFunc, .nilFunc, .nilFunc, .nilFunc, .nilFunc, .nilFunc, .nilFunc, .nilFunc] := ⟨Tryz.runUnderlying175, Tryz.sizeOf174, Tryz.zeroValue175⟩
theorem zc175 (S : Store) : pCells #[.nilFunc, .nilFunc, .nilFunc, .nilFunc, .nilFunc, .nilFunc, .nilFunc, .nilFunc] 0 [pV (.nilFunc), pV (.nilFunc), pV (.nilFunc), pV (.nilFunc), pV (.nilFunc), pV (.nilFunc), pV (.nilFunc), pV (.nilFunc)] S := pCells.ofL (vs := [.nilFunc, .nilFunc, .nilFunc, .nilFunc, .nilFunc, .nilFunc, .nilFunc, .nilFunc]) ⟨⟨rfl, rfl⟩, ⟨rfl, rfl⟩, ⟨rfl, rfl⟩, ⟨rfl, rfl⟩, ⟨rfl, rfl⟩, ⟨rfl, rfl⟩, ⟨rfl, rfl⟩, ⟨rfl, rfl⟩, trivial⟩
theorem slT184 : SlT Tryz.prog 184 105 1 := ⟨Tryz.runUnderlying184, Tryz.sizeOf105, _, Tryz.zeroValue105⟩
theorem arT195 : ArT Tryz.prog 195 3 3 1 #[.int .i64 0, .int .i64 0, .int .i64 0] := ⟨Tryz.runUnderlying195, Tryz.sizeOf3, Tryz.zeroValue195⟩
theorem zc195 (S : Store) : pCells #[.int .i64 0, .int .i64 0, .int .i64 0] 0 [pV (.int .i64 0), pV (.int .i64 0), pV (.int .i64 0)] S := pCells.ofL (vs := [.int .i64 0, .int .i64 0, .int .i64 0]) ⟨⟨rfl, rfl⟩, ⟨rfl, rfl⟩, ⟨rfl, rfl⟩, trivial⟩
theorem mpT222 : MpT Tryz.prog 222 3 3 := ⟨Tryz.runUnderlying222⟩
theorem key3 : KeyT Tryz.prog 3 (fun x : Int => Value.int .i64 x) := KeyT.int Tryz.runUnderlying3
theorem key9 : KeyT Tryz.prog 9 (fun x : ByteArray => Value.string x) := KeyT.str Tryz.runUnderlying9
theorem key59 : KeyT Tryz.prog 59 (fun x : Selected => Value.agg (valsSelected x).toArray) := ⟨⟨_, Tryz.runUnderlying59, .inr ⟨fun _ _ => rfl, fun a b W => eqR59 a b W⟩⟩, fun b k W => (checkStruct (n := 9999) Tryz.runUnderlying59 (CheckL.cons (part1 Tryz.isAgg9 rfl) (check_str (n := 9998) Tryz.runUnderlying9 _) (CheckL.cons (fun W => partK Tryz.isAgg57 Tryz.sizeOf57 (ds := (valsVersion k.version).toArray) rfl W) (fun W => (checkStruct (n := 9998) Tryz.runUnderlying57 (CheckL.cons (part1 Tryz.isAgg3 rfl) (check_int (n := 9997) Tryz.runUnderlying3 _) (CheckL.cons (part1 Tryz.isAgg3 rfl) (check_int (n := 9997) Tryz.runUnderlying3 _) (CheckL.cons (part1 Tryz.isAgg3 rfl) (check_int (n := 9997) Tryz.runUnderlying3 _) CheckL.nil))))) CheckL.nil))), fun k => sameBits_self 9999 (valsSelected k) (fun v hv => by
  simp only [valsSelected, List.mem_cons, List.not_mem_nil, or_false] at hv
  rcases hv with rfl | rfl | rfl | rfl
  · exact same_str
  · exact same_int
  · exact same_int
  · exact same_int)⟩
theorem zp89 (S : Store) : (pT zRelease).holds (.agg #[.string { data := #[] }, .int .i64 0, .int .i64 0, .int .i64 0, .slice none 0 0, .string { data := #[] }, .string { data := #[] }, .string { data := #[] }, .bool false]) S := ⟨_, rfl, rfl, zc89 S⟩
theorem zp107 (S : Store) : (pT zTerm).holds (.agg #[.string { data := #[] }, .bool false, .slice none 0 0]) S := ⟨_, rfl, rfl, zc107 S⟩
section
variable {o : Oper} {E : Env} {A : List HP}
theorem mk25_0 {x0 : Operand} {v0 : (List Release)} (ho : o.op = .build 25 #[(0, x0)]) (h0 : Lk E x0 (pSl (v0))) : PStep Tryz.prog o E A (pT (⟨v0, ⟨none, 0, 0⟩⟩ : Index)) :=
  PStep.build [(0, [pSl (v0)])] stT25 rfl zc25 ho ⟨⟨rfl, Nat.le_of_ble_eq_true rfl, h0.cs1⟩, trivial⟩ rfl
theorem mk40_0 {x0 : Operand} {v0 : Bool} (ho : o.op = .build 40 #[(0, x0)]) (h0 : Lk E x0 (pB (v0))) : PStep Tryz.prog o E A (pT (⟨v0, [], [], []⟩ : Answer)) :=
  PStep.build [(0, [pB (v0)])] stT40 rfl zc40 ho ⟨⟨rfl, Nat.le_of_ble_eq_true rfl, h0.cs1⟩, trivial⟩ rfl
theorem mk40_2 {x2 : Operand} {v2 : (List Inference)} (ho : o.op = .build 40 #[(2, x2)]) (h2 : Lk E x2 (pSl (v2))) : PStep Tryz.prog o E A (pT (⟨false, [], v2, []⟩ : Answer)) :=
  PStep.build [(2, [pSl (v2)])] stT40 rfl zc40 ho ⟨⟨rfl, Nat.le_of_ble_eq_true rfl, h2.cs1⟩, trivial⟩ rfl
theorem mk57_0 {x0 : Operand} {v0 : Int} (ho : o.op = .build 57 #[(0, x0)]) (h0 : Lk E x0 (pI (v0))) : PStep Tryz.prog o E A (pT (⟨v0, 0, 0⟩ : Version)) :=
  PStep.build [(0, [pI (v0)])] stT57 rfl zc57 ho ⟨⟨rfl, Nat.le_of_ble_eq_true rfl, h0.cs1⟩, trivial⟩ rfl
theorem mk57_01 {x0 : Operand} {v0 : Int} {x1 : Operand} {v1 : Int} (ho : o.op = .build 57 #[(0, x0), (1, x1)]) (h0 : Lk E x0 (pI (v0))) (h1 : Lk E x1 (pI (v1))) : PStep Tryz.prog o E A (pT (⟨v0, v1, 0⟩ : Version)) :=
  PStep.build [(0, [pI (v0)]), (1, [pI (v1)])] stT57 rfl zc57 ho ⟨⟨rfl, Nat.le_of_ble_eq_true rfl, h0.cs1⟩, ⟨rfl, Nat.le_of_ble_eq_true rfl, h1.cs1⟩, trivial⟩ rfl
theorem mk59_01 {x0 : Operand} {v0 : ByteArray} {x1 : Operand} {v1 : Version} (ho : o.op = .build 59 #[(0, x0), (1, x1)]) (h0 : Lk E x0 (pS (v0))) (h1 : Lk E x1 (pT (v1))) : PStep Tryz.prog o E A (pT (⟨v0, v1⟩ : Selected)) :=
  PStep.build [(0, [pS (v0)]), (1, Enc.cells v1)] stT59 rfl zc59 ho ⟨⟨rfl, Nat.le_of_ble_eq_true rfl, h0.cs1⟩, ⟨rfl, Nat.le_of_ble_eq_true rfl, h1.cs⟩, trivial⟩ rfl
theorem mk68_0 {x0 : Operand} {v0 : Int} (ho : o.op = .build 68 #[(0, x0)]) (h0 : Lk E x0 (pI (v0))) : PStep Tryz.prog o E A (pT (⟨v0, ByteArray.empty, 0, 0, 0, 0⟩ : Inference)) :=
  PStep.build [(0, [pI (v0)])] stT68 rfl zc68 ho ⟨⟨rfl, Nat.le_of_ble_eq_true rfl, h0.cs1⟩, trivial⟩ rfl
theorem mk68_01 {x0 : Operand} {v0 : Int} {x1 : Operand} {v1 : ByteArray} (ho : o.op = .build 68 #[(0, x0), (1, x1)]) (h0 : Lk E x0 (pI (v0))) (h1 : Lk E x1 (pS (v1))) : PStep Tryz.prog o E A (pT (⟨v0, v1, 0, 0, 0, 0⟩ : Inference)) :=
  PStep.build [(0, [pI (v0)]), (1, [pS (v1)])] stT68 rfl zc68 ho ⟨⟨rfl, Nat.le_of_ble_eq_true rfl, h0.cs1⟩, ⟨rfl, Nat.le_of_ble_eq_true rfl, h1.cs1⟩, trivial⟩ rfl
theorem mk68_0145 {x0 : Operand} {v0 : Int} {x1 : Operand} {v1 : ByteArray} {x4 : Operand} {v4 : Int} {x5 : Operand} {v5 : Int} (ho : o.op = .build 68 #[(0, x0), (1, x1), (4, x4), (5, x5)]) (h0 : Lk E x0 (pI (v0))) (h1 : Lk E x1 (pS (v1))) (h4 : Lk E x4 (pI (v4))) (h5 : Lk E x5 (pI (v5))) : PStep Tryz.prog o E A (pT (⟨v0, v1, 0, 0, v4, v5⟩ : Inference)) :=
  PStep.build [(0, [pI (v0)]), (1, [pS (v1)]), (4, [pI (v4)]), (5, [pI (v5)])] stT68 rfl zc68 ho ⟨⟨rfl, Nat.le_of_ble_eq_true rfl, h0.cs1⟩, ⟨rfl, Nat.le_of_ble_eq_true rfl, h1.cs1⟩, ⟨rfl, Nat.le_of_ble_eq_true rfl, h4.cs1⟩, ⟨rfl, Nat.le_of_ble_eq_true rfl, h5.cs1⟩, trivial⟩ rfl
theorem mk72_0 {x0 : Operand} {v0 : ByteArray} (ho : o.op = .build 72 #[(0, x0)]) (h0 : Lk E x0 (pS (v0))) : PStep Tryz.prog o E A (pT (⟨v0, 0, 0⟩ : Skip)) :=
  PStep.build [(0, [pS (v0)])] stT72 rfl zc72 ho ⟨⟨rfl, Nat.le_of_ble_eq_true rfl, h0.cs1⟩, trivial⟩ rfl
theorem mk89_  (ho : o.op = .build 89 #[])  : PStep Tryz.prog o E A (pT (⟨ByteArray.empty, zVersion, [], ByteArray.empty, ByteArray.empty, ByteArray.empty, false⟩ : Release)) :=
  PStep.build [] stT89 rfl zc89 ho trivial rfl
theorem mk89_01 {x0 : Operand} {v0 : ByteArray} {x1 : Operand} {v1 : Version} (ho : o.op = .build 89 #[(0, x0), (1, x1)]) (h0 : Lk E x0 (pS (v0))) (h1 : Lk E x1 (pT (v1))) : PStep Tryz.prog o E A (pT (⟨v0, v1, [], ByteArray.empty, ByteArray.empty, ByteArray.empty, false⟩ : Release)) :=
  PStep.build [(0, [pS (v0)]), (1, Enc.cells v1)] stT89 rfl zc89 ho ⟨⟨rfl, Nat.le_of_ble_eq_true rfl, h0.cs1⟩, ⟨rfl, Nat.le_of_ble_eq_true rfl, h1.cs⟩, trivial⟩ rfl
theorem mk89_012 {x0 : Operand} {v0 : ByteArray} {x1 : Operand} {v1 : Version} {x2 : Operand} {v2 : (List Requirement)} (ho : o.op = .build 89 #[(0, x0), (1, x1), (2, x2)]) (h0 : Lk E x0 (pS (v0))) (h1 : Lk E x1 (pT (v1))) (h2 : Lk E x2 (pSl (v2))) : PStep Tryz.prog o E A (pT (⟨v0, v1, v2, ByteArray.empty, ByteArray.empty, ByteArray.empty, false⟩ : Release)) :=
  PStep.build [(0, [pS (v0)]), (1, Enc.cells v1), (4, [pSl (v2)])] stT89 rfl zc89 ho ⟨⟨rfl, Nat.le_of_ble_eq_true rfl, h0.cs1⟩, ⟨rfl, Nat.le_of_ble_eq_true rfl, h1.cs⟩, ⟨rfl, Nat.le_of_ble_eq_true rfl, h2.cs1⟩, trivial⟩ rfl
theorem mk107_  (ho : o.op = .build 107 #[])  : PStep Tryz.prog o E A (pT (⟨ByteArray.empty, false, []⟩ : Term)) :=
  PStep.build [] stT107 rfl zc107 ho trivial rfl
theorem mk107_012 {x0 : Operand} {v0 : ByteArray} {x1 : Operand} {v1 : Bool} {x2 : Operand} {v2 : (List Span)} (ho : o.op = .build 107 #[(0, x0), (1, x1), (2, x2)]) (h0 : Lk E x0 (pS (v0))) (h1 : Lk E x1 (pB (v1))) (h2 : Lk E x2 (pSl (v2))) : PStep Tryz.prog o E A (pT (⟨v0, v1, v2⟩ : Term)) :=
  PStep.build [(0, [pS (v0)]), (1, [pB (v1)]), (2, [pSl (v2)])] stT107 rfl zc107 ho ⟨⟨rfl, Nat.le_of_ble_eq_true rfl, h0.cs1⟩, ⟨rfl, Nat.le_of_ble_eq_true rfl, h1.cs1⟩, ⟨rfl, Nat.le_of_ble_eq_true rfl, h2.cs1⟩, trivial⟩ rfl
theorem mk107_02 {x0 : Operand} {v0 : ByteArray} {x2 : Operand} {v2 : (List Span)} (ho : o.op = .build 107 #[(0, x0), (2, x2)]) (h0 : Lk E x0 (pS (v0))) (h2 : Lk E x2 (pSl (v2))) : PStep Tryz.prog o E A (pT (⟨v0, false, v2⟩ : Term)) :=
  PStep.build [(0, [pS (v0)]), (2, [pSl (v2)])] stT107 rfl zc107 ho ⟨⟨rfl, Nat.le_of_ble_eq_true rfl, h0.cs1⟩, ⟨rfl, Nat.le_of_ble_eq_true rfl, h2.cs1⟩, trivial⟩ rfl
theorem mk118_01 {x0 : Operand} {v0 : Int} {x1 : Operand} {v1 : Int} (ho : o.op = .build 118 #[(0, x0), (1, x1)]) (h0 : Lk E x0 (pI (v0))) (h1 : Lk E x1 (pI (v1))) : PStep Tryz.prog o E A (pT (⟨v0, v1⟩ : Span)) :=
  PStep.build [(0, [pI (v0)]), (1, [pI (v1)])] stT118 rfl zc118 ho ⟨⟨rfl, Nat.le_of_ble_eq_true rfl, h0.cs1⟩, ⟨rfl, Nat.le_of_ble_eq_true rfl, h1.cs1⟩, trivial⟩ rfl
theorem mk120_01 {x0 : Operand} {v0 : ByteArray} {x1 : Operand} {v1 : (List Span)} (ho : o.op = .build 120 #[(0, x0), (1, x1)]) (h0 : Lk E x0 (pS (v0))) (h1 : Lk E x1 (pSl (v1))) : PStep Tryz.prog o E A (pT (⟨v0, v1⟩ : Requirement)) :=
  PStep.build [(0, [pS (v0)]), (1, [pSl (v1)])] stT120 rfl zc120 ho ⟨⟨rfl, Nat.le_of_ble_eq_true rfl, h0.cs1⟩, ⟨rfl, Nat.le_of_ble_eq_true rfl, h1.cs1⟩, trivial⟩ rfl
end
end Go.Mp
namespace Go.Mp
open Go
def bytesOf (s : ByteArray) : List Int := s.data.toList.map fun b => (b.toNat : Int)
@[simp] theorem bytes_len (s : ByteArray) : (bytesOf s).length = s.size := by simp [bytesOf]
theorem bytes_ix (s : ByteArray) (i : Nat) (h : (i : Int) < s.size) : ix (bytesOf s) i = bix s i := by
  have h' : i < s.data.toList.length := by simpa using (by omega : i < s.size)
  have h2 : i < (bytesOf s).length := by simpa using (by omega : i < s.size)
  rw [ix_nat _ _ h2]
  simp only [bytesOf, List.getElem_map, bix, Int.toNat_natCast, List.getElem?_eq_getElem h', Option.getD_some]
def isDigit (c : Int) : Bool := decide (48 ≤ c) && decide (c ≤ 57)
def isSmall (c : Int) : Bool := decide (97 ≤ c) && decide (c ≤ 122)
def isCapital (c : Int) : Bool := decide (65 ≤ c) && decide (c ≤ 90)
def isWord (c : Int) : Bool := ((isSmall c || isCapital c) || isDigit c) || decide (c = 95)
def smallDigit (c : Int) : Bool := isSmall c || isDigit c
def allB (s : ByteArray) (f : Int → Bool) : Bool := (bytesOf s).all f
end Go.Mp
namespace Go.Mp
open Go
theorem size_pos {s : ByteArray} (h : s ≠ ⟨#[]⟩) : (0 : Int) < s.size := by
  have : s.size ≠ 0 := fun e => h (by
    obtain ⟨⟨l⟩⟩ := s
    cases l with
    | nil => rfl
    | cons a l => simp [ByteArray.size] at e)
  omega
def hasV (s : ByteArray) : Bool := Lib.hasPrefix s.data.toList [118]
def cutV (s : ByteArray) : ByteArray := ⟨(Lib.trimPrefix s.data.toList [118]).toArray⟩
def digitStep (n c : Int) : Int := IntKind.i64.wrap (IntKind.i64.wrap (10 * n) + IntKind.i64.wrap (IntKind.u8.wrap (c - 48)))
def digitsB (s : ByteArray) : Int := (bytesOf s).foldl digitStep 0
def lexVersion (s : ByteArray) : Int × Bool :=
  if ((((!hasV s) || decide (cutV s = ⟨#[]⟩)) || decide ((3 : Int) < (cutV s).size)) || (decide ((1 : Int) < (cutV s).size) && decide (bix (cutV s) 0 = 48))) || !allB (cutV s) isDigit then (0, false) else (digitsB (cutV s), true)
def kwBytes : List UInt8 := [32, 97, 110, 100, 32, 97, 110, 121, 32, 97, 115, 32, 98, 111, 111, 108, 32, 100, 101, 112, 114, 101, 99, 97, 116, 101, 100, 32, 101, 108, 115, 101, 32, 101, 120, 112, 111, 114, 116, 32, 102, 97, 108, 115, 101, 32, 102, 110, 32, 102, 111, 108, 100, 32, 102, 114, 111, 109, 32, 105, 102, 32, 105, 109, 112, 111, 114, 116, 32, 105, 110, 32, 105, 110, 116, 32, 108, 101, 110, 103, 116, 104, 32, 108, 101, 116, 32, 108, 105, 115, 116, 32, 109, 97, 116, 99, 104, 32, 109, 111, 100, 117, 108, 101, 32, 110, 111, 110, 101, 32, 110, 111, 116, 32, 111, 114, 32, 116, 101, 120, 116, 32, 116, 104, 101, 110, 32, 116, 114, 117, 101, 32, 116, 121, 112, 101, 32, 117, 115, 101, 32]
def lexKeyword (s : ByteArray) : Bool := Lib.contains kwBytes (((⟨#[32]⟩ : ByteArray) ++ s) ++ ⟨#[32]⟩ : ByteArray).data.toList
def lexIsName (s : ByteArray) : Bool := ((((decide (s ≠ ⟨#[]⟩)) && decide ((s.size : Int) ≤ 32)) && isSmall (bix s 0)) && allB s isWord) && !lexKeyword s
def partsOf (s : ByteArray) : List ByteArray := Lib.splitB ⟨#[47]⟩ 0 (Lib.countB s ⟨#[47]⟩) s
theorem partsOf_len (s : ByteArray) : (partsOf s).length = Lib.countB s ⟨#[47]⟩ + 1 := Lib.splitB_all _ (by decide) 0 _ s rfl
theorem partsOf_pos (s : ByteArray) : (0 : Int) < (partsOf s).length := by rw [partsOf_len]; omega
theorem partsOf_le (s : ByteArray) : (partsOf s).length ≤ s.size + 1 := by
  rw [partsOf_len]
  have := Lib.countB_le ⟨#[47]⟩ (by decide) s.size s (Nat.le_refl _)
  omega
def badPart (s : ByteArray) : Bool := (!lexIsName s) || !allB s smallDigit
def lastOf (s : ByteArray) : ByteArray := ix (partsOf s) ((partsOf s).length - 1)
def lexMajor (p : ByteArray) : Int × Int :=
  if ((!(lexVersion (lastOf p)).2) || decide ((64 : Int) < p.size)) || decide (((partsOf p).length : Int) < 2) then (0, 4)
  else if (partsOf p).any badPart then (0, 4) else ((lexVersion (lastOf p)).1, 0)
def lexIsPath (p : ByteArray) : Bool := decide ((lexMajor p).2 = 0)
theorem isName_size {s : ByteArray} (h : lexIsName s = true) : s.size ≤ 9223372036854775807 := by
  simp only [lexIsName, Bool.and_eq_true, decide_eq_true_eq] at h
  have := h.1.1.1.2
  omega
end Go.Mp
namespace Go.Mp
open Go
def v3 (v : Version) : List Int := [v.major, v.minor, v.patch]
def badNum (n : Int) : Bool := decide (n < 0) || decide (999 < n)
def validV (v : Version) : Bool := !(v3 v).any badNum
def slash (p : ByteArray) : Int := Lib.lastIndexByte p 47
def lineOf (p : ByteArray) : ByteArray × Int × Int :=
  if (!lexIsPath p) || decide ((lexMajor p).2 ≠ 0) then (⟨#[]⟩, 0, 4) else (p.extract 0 (slash p).toNat, (lexMajor p).1, 0)
theorem get_bang (p : ByteArray) (i : Nat) (b : UInt8) (h : p.data.toList[i]? = some b) : ((p.data[i]!).toNat : Int) = b.toNat := by
  have : p.data[i]? = some b := by simpa using h
  rw [Array.getElem!_eq_getD, Array.getD_eq_getD_getElem?, this]; rfl
theorem slash_ok (p : ByteArray) (h : 2 ≤ (partsOf p).length) : 0 ≤ slash p ∧ slash p ≤ p.size := by
  rw [partsOf_len] at h
  rcases Lib.lastIndexByte_spec p 47 with ⟨_, hno⟩ | ⟨i, hi, e, _⟩
  · rcases Lib.indexB_cases p ⟨#[47]⟩ with hx | ⟨i, hx, hroom⟩
    · rw [Lib.countB_miss p _ hx] at h; omega
    · rw [Lib.one p ⟨#[47]⟩ rfl] at hx
      have hx : Lib.indexByte p.data.toList 47 = (i : Int) := hx
      have := (Lib.indexByte_some hx).1
      have hroom : i + 1 ≤ p.size := hroom
      exact absurd (get_bang p i 47 this) (hno i (by omega))
  · unfold slash; omega
theorem major_ok (p : ByteArray) (h : (lexMajor p).2 = 0) : 2 ≤ (partsOf p).length := by
  unfold lexMajor at h
  split at h
  · exact absurd h (by decide)
  · rename_i hc
    simp only [Bool.or_eq_true, decide_eq_true_eq, not_or] at hc
    omega
def cmpS (s t : ByteArray) : Int := if strLt s t then -1 else if !(strLt s t || decide (s = t)) then 1 else 0
def cmpI (x y : Int) : Int := if x < y then -1 else if y < x then 1 else 0
def firstNZ : List Int → Int
  | [] => 0
  | x :: l => if x ≠ 0 then x else firstNZ l
def cmpAt (a b : Version) (i : Nat) : Int := cmpI (ix (v3 a) i) (ix (v3 b) i)
def cmpV (a b : Version) : Int := firstNZ [cmpAt a b 0, cmpAt a b 1, cmpAt a b 2]
def cmpFrom (a b : Version) : Nat → Int := fun i => firstNZ ([cmpAt a b 0, cmpAt a b 1, cmpAt a b 2].drop i)
theorem cmpFrom_step {a b : Version} {i : Nat} (h : (i : Int) < 3) : cmpFrom a b i = if cmpAt a b i ≠ 0 then cmpAt a b i else cmpFrom a b (i + 1) := by
  have : i = 0 ∨ i = 1 ∨ i = 2 := by omega
  rcases this with rfl | rfl | rfl <;> rfl
theorem cmpFrom_end {a b : Version} {i : Nat} (h : ¬ (i : Int) < 3) : cmpFrom a b i = 0 := by
  unfold cmpFrom
  rw [List.drop_eq_nil_of_le (by simp; omega)]; rfl
end Go.Mp
namespace Go.Mp
open Go
def placeOf (v : Version) : Int × Int := if !validV v then (0, 2) else (1000 * v.minor + v.patch, 0)
theorem badNum_ok {n : Int} (h : badNum n = false) : 0 ≤ n ∧ n ≤ 999 := by
  simp only [badNum, Bool.or_eq_false_iff, decide_eq_false_iff_not] at h; omega
theorem validV_ok {v : Version} (h : validV v = true) : (0 ≤ v.major ∧ v.major ≤ 999) ∧ (0 ≤ v.minor ∧ v.minor ≤ 999) ∧ (0 ≤ v.patch ∧ v.patch ≤ 999) := by
  simp only [validV, v3, Bool.not_eq_true', List.any_cons, List.any_nil, Bool.or_false, Bool.or_eq_false_iff] at h
  exact ⟨badNum_ok h.1, badNum_ok h.2.1, badNum_ok h.2.2⟩
def idx {α : Type} (s : List α) (f : α → Bool) : Int := match s.findIdx? f with
  | some i => i
  | none => -1
def idxFrom {α : Type} (s : List α) (f : α → Bool) (i : Nat) : Int := match (s.drop i).findIdx? f with
  | some k => (k + i : Nat)
  | none => -1
theorem idxFrom_zero {α : Type} (s : List α) (f : α → Bool) : idxFrom s f 0 = idx s f := by
  unfold idxFrom idx
  rw [List.drop_zero]
  cases s.findIdx? f <;> rfl
theorem idxFrom_hit {α : Type} [Inhabited α] {s : List α} {f : α → Bool} {i : Nat} (h : (i : Int) < s.length) (hf : f (ix s i) = true) : idxFrom s f i = i := by
  unfold idxFrom
  rw [drop_ix h, List.findIdx?_cons, if_pos hf]
  simp
theorem idxFrom_miss {α : Type} [Inhabited α] {s : List α} {f : α → Bool} {i : Nat} (h : (i : Int) < s.length) (hf : f (ix s i) = false) : idxFrom s f i = idxFrom s f (i + 1) := by
  unfold idxFrom
  rw [drop_ix h, List.findIdx?_cons, hf]
  cases (s.drop (i + 1)).findIdx? f with
  | none => rfl
  | some k => simp; omega
theorem idxFrom_end {α : Type} {s : List α} {f : α → Bool} {i : Nat} (h : ¬ (i : Int) < s.length) : idxFrom s f i = -1 := by
  unfold idxFrom
  rw [drop_no h]; rfl
theorem idx_any {α : Type} (s : List α) (f : α → Bool) : decide (0 ≤ idx s f) = s.any f := by
  unfold idx
  cases e : s.findIdx? f with
  | none =>
    have : s.any f = false := by
      rw [List.findIdx?_eq_none_iff] at e
      rw [List.any_eq_false]; simpa using e
    rw [this]; rfl
  | some i =>
    have : s.any f = true := by
      rw [List.findIdx?_eq_some_iff_getElem] at e
      obtain ⟨hi, hf, _⟩ := e
      exact List.any_eq_true.2 ⟨_, List.getElem_mem hi, hf⟩
    rw [this]; simp
def inSpan (p : Int) (x : Span) : Bool := decide (x.from_ ≤ p) && decide (p < x.to_)
def has (s : List Span) (p : Int) : Bool := (decide (0 ≤ p) && decide (p < 1000000)) && s.any (inSpan p)
def clipS (x : Span) : Span := ⟨max x.from_ 0, min x.to_ 1000000⟩
def clip (s : List Span) : List Span := (s.map clipS).filter fun x => decide (x.from_ < x.to_)
def mergeStep (acc : List Span) (x : Span) : List Span := match acc.getLast? with
  | none => [x]
  | some y => if x.from_ ≤ y.to_ then acc.dropLast ++ [⟨y.from_, max y.to_ x.to_⟩] else acc ++ [x]
def mergeAll (ys : List Span) : List Span := ys.foldl mergeStep []
structure MergeInv (ys : List Span) (i n : Nat) (xs : List Span) : Prop where
  ni : n ≤ i
  il : i ≤ xs.length
  len : xs.length = ys.length
  pos : 0 < i → 0 < n
  rest : (xs.drop i).foldl mergeStep (xs.take n) = mergeAll ys
theorem MergeInv.start (ys : List Span) : MergeInv ys 0 0 ys := ⟨Nat.le_refl _, Nat.zero_le _, rfl, fun h => h, rfl⟩
theorem ix_last {xs : List Span} {n : Nat} (h0 : 0 < n) (hn : n ≤ xs.length) : (xs.take n).getLast? = some (ix xs ((n : Int) - 1)) ∧ (xs.take n) = (xs.take n).dropLast ++ [ix xs ((n : Int) - 1)] := by
  have e : ((n : Int) - 1) = ((n - 1 : Nat) : Int) := by omega
  have hl : n - 1 < xs.length := by omega
  rw [e, ix_nat xs (n - 1) hl]
  have hlast : (xs.take n).getLast? = some xs[n - 1] := by
    rw [List.getLast?_eq_getElem?, List.length_take, Nat.min_eq_left hn, List.getElem?_take, if_pos (by omega), List.getElem?_eq_getElem hl]
  refine ⟨hlast, ?_⟩
  have hne : xs.take n ≠ [] := by intro h; rw [h] at hlast; cases hlast
  conv => lhs; rw [← List.dropLast_concat_getLast hne]
  rw [List.getLast?_eq_some_getLast hne] at hlast
  rw [Option.some.inj hlast]
theorem MergeInv.join {ys : List Span} {i n : Nat} {xs : List Span} (h : MergeInv ys i n xs) (hi : (i : Int) < xs.length) (h0 : 0 < i) (hc : (ix xs i).from_ ≤ (ix xs ((n : Int) - 1)).to_) :
    MergeInv ys (i + 1) n (xs.set ((n : Int) - 1).toNat ⟨(ix xs ((n : Int) - 1)).from_, max (ix xs ((n : Int) - 1)).to_ (ix xs i).to_⟩) := by
  have hn := h.pos h0
  have hni := h.ni
  have hil := h.il
  have e : ((n : Int) - 1).toNat = n - 1 := by omega
  obtain ⟨l1, l2⟩ := ix_last hn (by omega : n ≤ xs.length)
  refine ⟨by omega, by rw [List.length_set]; omega, by rw [List.length_set]; exact h.len, fun _ => hn, ?_⟩
  have hr := h.rest
  rw [drop_ix hi, List.foldl_cons] at hr
  rw [← hr, e, List.drop_set_of_lt (by omega)]
  congr 1
  have : mergeStep (xs.take n) (ix xs i) = (xs.take n).dropLast ++ [⟨(ix xs ((n : Int) - 1)).from_, max (ix xs ((n : Int) - 1)).to_ (ix xs i).to_⟩] := by
    unfold mergeStep
    rw [l1]
    exact if_pos hc
  rw [this, List.take_set, List.set_eq_take_append_cons_drop, if_pos (by simp; omega)]
  rw [List.drop_eq_nil_of_le (by simp; omega)]
  congr 1
  rw [List.dropLast_eq_take, List.length_take, Nat.min_eq_left (by omega)]
theorem MergeInv.push {ys : List Span} {i n : Nat} {xs : List Span} (h : MergeInv ys i n xs) (hi : (i : Int) < xs.length) (hc : 0 < i → ¬ (ix xs i).from_ ≤ (ix xs ((n : Int) - 1)).to_) :
    MergeInv ys (i + 1) (n + 1) (xs.set n (ix xs i)) := by
  have hni := h.ni
  have hil := h.il
  have hlt : n < xs.length := by omega
  refine ⟨by omega, by rw [List.length_set]; omega, by rw [List.length_set]; exact h.len, fun _ => by omega, ?_⟩
  have hr := h.rest
  rw [drop_ix hi, List.foldl_cons] at hr
  rw [← hr, List.drop_set_of_lt (by omega)]
  congr 1
  have : mergeStep (xs.take n) (ix xs i) = xs.take n ++ [ix xs i] := by
    by_cases h0 : 0 < n
    · obtain ⟨l1, l2⟩ := ix_last h0 (by omega : n ≤ xs.length)
      unfold mergeStep
      rw [l1]
      exact if_neg (hc (by omega))
    · have : n = 0 := by omega
      subst this
      rfl
  rw [this, List.take_set, List.set_eq_take_append_cons_drop, if_pos (by simp; omega), List.take_take, Nat.min_eq_left (by omega), List.drop_eq_nil_of_le (by simp; omega)]
theorem MergeInv.done {ys : List Span} {i n : Nat} {xs : List Span} (h : MergeInv ys i n xs) (hi : ¬ (i : Int) < xs.length) : xs.take n = mergeAll ys := by
  have := h.rest
  rw [drop_no hi] at this
  exact this
end Go.Mp
namespace Go.Mp
theorem clip_yes {s acc : List Span} {i : Nat} (h : (i : Int) < s.length) (hc : (clipS (ix s i)).from_ < (clipS (ix s i)).to_) (hi : i ≤ s.length) (hI : acc ++ clip (s.drop i) = clip s) (hl : acc.length ≤ i) :
    i + 1 ≤ s.length ∧ (acc ++ [clipS (ix s i)]) ++ clip (s.drop (i + 1)) = clip s ∧ (acc ++ [clipS (ix s i)]).length ≤ i + 1 := by
  refine ⟨by omega, ?_, by simp; omega⟩
  rw [← hI, drop_ix h]
  simp [clip, hc]
theorem clip_no {s acc : List Span} {i : Nat} (h : (i : Int) < s.length) (hc : ¬ (clipS (ix s i)).from_ < (clipS (ix s i)).to_) (hi : i ≤ s.length) (hI : acc ++ clip (s.drop i) = clip s) (hl : acc.length ≤ i) :
    i + 1 ≤ s.length ∧ acc ++ clip (s.drop (i + 1)) = clip s ∧ acc.length ≤ i + 1 := by
  refine ⟨by omega, ?_, by omega⟩
  rw [← hI, drop_ix h]
  simp [clip, hc]
def insS (x : Span) : List Span → List Span
  | [] => [x]
  | y :: l => if x.from_ ≤ y.from_ then x :: y :: l else y :: insS x l
def sortS (l : List Span) : List Span := l.foldr insS []
def canon (s : List Span) : List Span := mergeAll (sortS (clip s))
end Go.Mp
namespace Go.Mp
theorem clip_end {s acc : List Span} {i : Nat} (h : ¬ (i : Int) < s.length) (hI : acc ++ clip (s.drop i) = clip s) : clip s = acc := by
  rw [drop_no h] at hI
  simpa [clip] using hI.symm
theorem clip_bound (s : List Span) : ∀ x ∈ clip s, 0 ≤ x.from_ ∧ x.from_ ≤ 1000000 := by
  intro x hx
  simp only [clip, List.mem_filter, List.mem_map, decide_eq_true_eq] at hx
  obtain ⟨⟨y, _, rfl⟩, h⟩ := hx
  simp only [clipS] at h ⊢
  omega
theorem clip_len (s : List Span) : (clip s).length ≤ s.length := by
  have := List.length_filter_le (fun x : Span => decide (x.from_ < x.to_)) (s.map clipS)
  simpa [clip] using this
end Go.Mp
namespace Go.Mp
open Go
def Cov (l : List Span) (p : Int) : Prop := ∃ x ∈ l, x.from_ ≤ p ∧ p < x.to_
structure CanonL (l : List Span) : Prop where
  apart : l.Pairwise fun a b => a.to_ < b.from_
  full : ∀ x ∈ l, x.from_ < x.to_
theorem Cov.append {a b : List Span} {p : Int} : Cov (a ++ b) p ↔ Cov a p ∨ Cov b p := by
  unfold Cov
  constructor
  · rintro ⟨x, hx, h⟩
    rcases List.mem_append.1 hx with hx | hx
    · exact .inl ⟨x, hx, h⟩
    · exact .inr ⟨x, hx, h⟩
  · rintro (⟨x, hx, h⟩ | ⟨x, hx, h⟩)
    · exact ⟨x, List.mem_append.2 (.inl hx), h⟩
    · exact ⟨x, List.mem_append.2 (.inr hx), h⟩
theorem Cov.one {x : Span} {p : Int} : Cov [x] p ↔ x.from_ ≤ p ∧ p < x.to_ := by
  unfold Cov; simp
theorem Cov.nil {p : Int} : ¬ Cov [] p := by rintro ⟨x, hx, _⟩; cases hx
theorem Cov.cons {x : Span} {l : List Span} {p : Int} : Cov (x :: l) p ↔ (x.from_ ≤ p ∧ p < x.to_) ∨ Cov l p := by
  rw [show x :: l = [x] ++ l from rfl, Cov.append, Cov.one]
theorem CanonL.tail {x : Span} {l : List Span} (h : CanonL (x :: l)) : CanonL l := ⟨(List.pairwise_cons.1 h.apart).2, fun y hy => h.full y (List.mem_cons_of_mem _ hy)⟩
theorem CanonL.head_le {x : Span} {l : List Span} (h : CanonL (x :: l)) {p : Int} (hp : Cov (x :: l) p) : x.from_ ≤ p := by
  obtain ⟨y, hy, h1, h2⟩ := hp
  have hx := h.full x List.mem_cons_self
  rcases List.mem_cons.1 hy with rfl | hy
  · exact h1
  · have := (List.pairwise_cons.1 h.apart).1 y hy; omega
theorem CanonL.gap {x : Span} {l : List Span} (h : CanonL (x :: l)) : ¬ Cov (x :: l) x.to_ := by
  rintro ⟨y, hy, h1, h2⟩
  rcases List.mem_cons.1 hy with rfl | hy
  · omega
  · have := (List.pairwise_cons.1 h.apart).1 y hy; omega
theorem CanonL.rest {x : Span} {l : List Span} (h : CanonL (x :: l)) (p : Int) : Cov l p ↔ Cov (x :: l) p ∧ x.to_ ≤ p := by
  rw [Cov.cons]
  constructor
  · intro hp
    refine ⟨.inr hp, ?_⟩
    obtain ⟨y, hy, h1, h2⟩ := hp
    have := (List.pairwise_cons.1 h.apart).1 y hy; omega
  · rintro ⟨hp | hp, h2⟩
    · omega
    · exact hp
theorem canon_unique : ∀ {a b : List Span}, CanonL a → CanonL b → (∀ p, Cov a p ↔ Cov b p) → a = b
  | [], [], _, _, _ => rfl
  | [], y :: b, _, hb, h => by
    have := hb.full y List.mem_cons_self
    exact absurd ((h y.from_).2 ⟨y, List.mem_cons_self, by omega, by omega⟩) Cov.nil
  | x :: a, [], ha, _, h => by
    have := ha.full x List.mem_cons_self
    exact absurd ((h x.from_).1 ⟨x, List.mem_cons_self, by omega, by omega⟩) Cov.nil
  | x :: a, y :: b, ha, hb, h => by
    have fx := ha.full x List.mem_cons_self
    have fy := hb.full y List.mem_cons_self
    have h1 : y.from_ ≤ x.from_ := hb.head_le ((h x.from_).1 ⟨x, List.mem_cons_self, by omega, by omega⟩)
    have h2 : x.from_ ≤ y.from_ := ha.head_le ((h y.from_).2 ⟨y, List.mem_cons_self, by omega, by omega⟩)
    have h3 : ¬ x.to_ < y.to_ := fun hlt => ha.gap ((h x.to_).2 ⟨y, List.mem_cons_self, by omega, hlt⟩)
    have h4 : ¬ y.to_ < x.to_ := fun hlt => hb.gap ((h y.to_).1 ⟨x, List.mem_cons_self, by omega, hlt⟩)
    have e : x = y := Span.ext (by omega) (by omega)
    subst e
    rw [canon_unique ha.tail hb.tail fun p => by rw [ha.rest p, hb.rest p, h p]]
theorem last_cases (l : List Span) : l = [] ∨ ∃ i y, l = i ++ [y] := by
  rcases List.eq_nil_or_concat l with h | ⟨i, y, h⟩
  · exact .inl h
  · exact .inr ⟨i, y, by simpa using h⟩
theorem mergeStep_spec {acc : List Span} {x : Span} (h : CanonL acc) (hx : x.from_ < x.to_) (hs : ∀ y ∈ acc, y.from_ ≤ x.from_) :
    CanonL (mergeStep acc x) ∧ (∀ p, Cov (mergeStep acc x) p ↔ Cov acc p ∨ Cov [x] p) ∧ ∀ y ∈ mergeStep acc x, y.from_ ≤ x.from_ := by
  rcases last_cases acc with rfl | ⟨i, y, rfl⟩
  · refine ⟨⟨List.pairwise_singleton _ _, fun y hy => ?_⟩, fun p => ⟨.inr, fun h => h.resolve_left Cov.nil⟩, fun y hy => ?_⟩
    · have hy : y ∈ [x] := hy
      simp at hy; subst hy; exact hx
    · have hy : y ∈ [x] := hy
      simp at hy; subst hy; exact Int.le_refl _
  · have hap := List.pairwise_append.1 h.apart
    have hfy := h.full y (by simp)
    have hsy := hs y (by simp)
    unfold mergeStep
    rw [List.getLast?_concat]
    by_cases hc : x.from_ ≤ y.to_
    · simp only [if_pos hc, List.dropLast_concat]
      refine ⟨⟨List.pairwise_append.2 ⟨hap.1, List.pairwise_singleton _ _, fun a ha b hb => ?_⟩, fun z hz => ?_⟩, fun p => ?_, fun z hz => ?_⟩
      · simp at hb; subst hb
        exact hap.2.2 a ha y (by simp)
      · rcases List.mem_append.1 hz with hz | hz
        · exact h.full z (by simp [hz])
        · simp at hz; subst hz; simp only []; omega
      · rw [Cov.append, Cov.append, Cov.one, Cov.one, Cov.one]
        simp only []
        constructor
        · rintro (h1 | h1)
          · exact .inl (.inl h1)
          · by_cases h2 : p < y.to_
            · exact .inl (.inr ⟨h1.1, h2⟩)
            · exact .inr ⟨by omega, by omega⟩
        · rintro ((h1 | h1) | h1)
          · exact .inl h1
          · exact .inr ⟨h1.1, by omega⟩
          · exact .inr ⟨by omega, by omega⟩
      · rcases List.mem_append.1 hz with hz | hz
        · exact hs z (by simp [hz])
        · simp at hz; subst hz; exact hsy
    · simp only [if_neg hc]
      refine ⟨⟨List.pairwise_append.2 ⟨h.apart, List.pairwise_singleton _ _, fun a ha b hb => ?_⟩, fun z hz => ?_⟩, fun p => by rw [Cov.append], fun z hz => ?_⟩
      · simp at hb; subst hb
        rcases List.mem_append.1 ha with ha | ha
        · have := hap.2.2 a ha y (by simp); omega
        · simp at ha; subst ha; omega
      · rcases List.mem_append.1 hz with hz | hz
        · exact h.full z hz
        · simp at hz; subst hz; exact hx
      · rcases List.mem_append.1 hz with hz | hz
        · exact hs z hz
        · simp at hz; subst hz; exact Int.le_refl _
theorem mergeFold_spec : ∀ (ys acc : List Span), CanonL acc → (∀ x ∈ ys, x.from_ < x.to_) → ys.Pairwise (fun a b => a.from_ ≤ b.from_) → (∀ y ∈ acc, ∀ x ∈ ys, y.from_ ≤ x.from_) →
    CanonL (ys.foldl mergeStep acc) ∧ ∀ p, Cov (ys.foldl mergeStep acc) p ↔ Cov acc p ∨ Cov ys p
  | [], acc, h, _, _, _ => ⟨h, fun p => ⟨.inl, fun k => k.resolve_right Cov.nil⟩⟩
  | x :: ys, acc, h, hf, hp, hs => by
    obtain ⟨s1, s2, s3⟩ := mergeStep_spec h (hf x List.mem_cons_self) (fun y hy => hs y hy x List.mem_cons_self)
    have hp' := List.pairwise_cons.1 hp
    obtain ⟨r1, r2⟩ := mergeFold_spec ys (mergeStep acc x) s1 (fun z hz => hf z (List.mem_cons_of_mem _ hz)) hp'.2 (fun y hy z hz => Int.le_trans (s3 y hy) (hp'.1 z hz))
    refine ⟨r1, fun p => ?_⟩
    show Cov (ys.foldl mergeStep (mergeStep acc x)) p ↔ _
    rw [r2 p, s2 p, Cov.one, Cov.cons]
    constructor
    · rintro ((h | h) | h)
      · exact .inl h
      · exact .inr (.inl h)
      · exact .inr (.inr h)
    · rintro (h | h | h)
      · exact .inl (.inl h)
      · exact .inl (.inr h)
      · exact .inr h
theorem mergeAll_spec {ys : List Span} (hf : ∀ x ∈ ys, x.from_ < x.to_) (hp : ys.Pairwise fun a b => a.from_ ≤ b.from_) : CanonL (mergeAll ys) ∧ ∀ p, Cov (mergeAll ys) p ↔ Cov ys p := by
  have := mergeFold_spec ys [] ⟨List.Pairwise.nil, fun x hx => by cases hx⟩ hf hp (fun y hy => by cases hy)
  exact ⟨this.1, fun p => by rw [mergeAll, this.2 p]; exact ⟨fun h => h.resolve_left Cov.nil, .inr⟩⟩
theorem insS_perm (x : Span) : ∀ l, (insS x l).Perm (x :: l)
  | [] => List.Perm.refl _
  | y :: l => by
    unfold insS
    split
    · exact List.Perm.refl _
    · exact ((insS_perm x l).cons y).trans (List.Perm.swap x y l)
theorem insS_sorted (x : Span) : ∀ l, l.Pairwise (fun a b => a.from_ ≤ b.from_) → (insS x l).Pairwise fun a b => a.from_ ≤ b.from_
  | [], _ => List.pairwise_singleton _ _
  | y :: l, h => by
    unfold insS
    have h' := List.pairwise_cons.1 h
    split
    · rename_i hc
      refine List.pairwise_cons.2 ⟨fun z hz => ?_, h⟩
      rcases List.mem_cons.1 hz with rfl | hz
      · exact hc
      · exact Int.le_trans hc (h'.1 z hz)
    · rename_i hc
      refine List.pairwise_cons.2 ⟨fun z hz => ?_, insS_sorted x l h'.2⟩
      rcases List.mem_cons.1 ((insS_perm x l).mem_iff.1 hz) with rfl | hz
      · omega
      · exact h'.1 z hz
theorem sortS_spec (l : List Span) : (sortS l).Perm l ∧ (sortS l).Pairwise fun a b => a.from_ ≤ b.from_ := by
  induction l with
  | nil => exact ⟨List.Perm.refl _, List.Pairwise.nil⟩
  | cons x l ih => exact ⟨(insS_perm x _).trans (ih.1.cons x), insS_sorted x _ ih.2⟩
theorem Cov.perm {a b : List Span} (h : a.Perm b) (p : Int) : Cov a p ↔ Cov b p := by
  unfold Cov
  constructor <;> rintro ⟨x, hx, k⟩
  · exact ⟨x, h.mem_iff.1 hx, k⟩
  · exact ⟨x, h.mem_iff.2 hx, k⟩
theorem clip_full (s : List Span) : ∀ x ∈ clip s, x.from_ < x.to_ := by
  intro x hx
  simp only [clip, List.mem_filter, decide_eq_true_eq] at hx
  exact hx.2
theorem canon_spec (s : List Span) : CanonL (canon s) ∧ ∀ p, Cov (canon s) p ↔ Cov (clip s) p := by
  obtain ⟨h1, h2⟩ := sortS_spec (clip s)
  obtain ⟨h3, h4⟩ := mergeAll_spec (ys := sortS (clip s)) (fun x hx => clip_full s x (h1.mem_iff.1 hx)) h2
  exact ⟨h3, fun p => (h4 p).trans (Cov.perm h1 p)⟩
theorem canon_of {s ys : List Span} (h : ys.Perm (clip s) ∧ ys.Pairwise fun a b => decide (b.from_ < a.from_) = false) : mergeAll ys = canon s := by
  have hp : ys.Pairwise fun a b => a.from_ ≤ b.from_ := h.2.imp fun k => by have := of_decide_eq_false k; omega
  obtain ⟨h1, h2⟩ := mergeAll_spec (fun x hx => clip_full s x (h.1.mem_iff.1 hx)) hp
  obtain ⟨h3, h4⟩ := canon_spec s
  exact canon_unique h1 h3 fun p => by rw [h2 p, h4 p, Cov.perm h.1 p]
end Go.Mp
namespace Go.Mp
open Go
abbrev IMap := List (Int × Int)
def getI (m : IMap) (k : Int) : Int := (getM m k).getD 0
def bumpS (m : IMap) (x : Span) : IMap :=
  putM x.to_ (getI (putM x.from_ (getI m x.from_ + 1) m) x.to_ - 1) (putM x.from_ (getI m x.from_ + 1) m)
def changeOf (l : List (List Span)) : IMap := l.foldl (fun m s => (canon s).foldl bumpS m) [(0, 0), (1000000, 0)]
def insI (x : Int) : List Int → List Int
  | [] => [x]
  | y :: l => if y < x then y :: insI x l else x :: y :: l
def sortI (l : List Int) : List Int := l.foldr insI []
theorem insI_perm (x : Int) : ∀ l, (insI x l).Perm (x :: l)
  | [] => List.Perm.refl _
  | y :: l => by
    unfold insI
    split
    · exact ((insI_perm x l).cons y).trans (List.Perm.swap x y l)
    · exact List.Perm.refl _
theorem insI_sorted (x : Int) : ∀ l : List Int, l.Pairwise (· ≤ ·) → (insI x l).Pairwise (· ≤ ·)
  | [], _ => List.pairwise_singleton _ _
  | y :: l, h => by
    unfold insI
    have h' := List.pairwise_cons.1 h
    split
    · refine List.pairwise_cons.2 ⟨fun z hz => ?_, insI_sorted x l h'.2⟩
      rcases List.mem_cons.1 ((insI_perm x l).mem_iff.1 hz) with rfl | hz
      · omega
      · exact h'.1 z hz
    · refine List.pairwise_cons.2 ⟨fun z hz => ?_, h⟩
      rcases List.mem_cons.1 hz with rfl | hz
      · omega
      · have := h'.1 z hz; omega
theorem sortI_spec (l : List Int) : (sortI l).Perm l ∧ (sortI l).Pairwise (· ≤ ·) := by
  induction l with
  | nil => exact ⟨List.Perm.refl _, List.Pairwise.nil⟩
  | cons x l ih => exact ⟨(insI_perm x _).trans (ih.1.cons x), insI_sorted x _ ih.2⟩
theorem mergeSort_sortI {ks l : List Int} (h : ks.Perm l) : (ks.mergeSort fun x y => decide (x ≤ y)) = sortI l := by
  have h1 := sortI_spec l
  have h2 : (ks.mergeSort fun x y => decide (x ≤ y)).Pairwise (· ≤ ·) := by
    have := List.pairwise_mergeSort (le := fun x y : Int => decide (x ≤ y)) (fun a b c h k => by simp at *; omega) (fun a b => by simp; omega) ks
    exact this.imp fun h => by simpa using h
  exact List.Perm.eq_of_pairwise (le := fun x y : Int => x ≤ y) (fun a b _ _ e1 e2 => Int.le_antisymm e1 e2) h2 h1.2 (((List.mergeSort_perm ks _).trans h).trans h1.1.symm)
def keysOf (m : IMap) : List Int := sortI (m.map (·.1))
def segs (keep : Int → Bool) (m : IMap) : Int → List Int → List Span
  | c, a :: b :: rest => if keep (c + getI m a) then ⟨a, b⟩ :: segs keep m (c + getI m a) (b :: rest) else segs keep m (c + getI m a) (b :: rest)
  | _, _ => []
def combine (keep : Int → Bool) (l : List (List Span)) : List Span := canon (segs keep (changeOf l) 0 (keysOf (changeOf l)))
theorem findM_shift {κ ν : Type} [DecidableEq κ] (k : κ) : ∀ (m : List (κ × ν)) (i : Nat), (findM k m i).map (·.2) = getM m k
  | [], i => rfl
  | e :: m, i => by
    unfold getM findM
    split
    · rfl
    · rw [findM_shift k m (i + 1), ← findM_shift k m (0 + 1)]
theorem getM_cons {κ ν : Type} [DecidableEq κ] (e : κ × ν) (m : List (κ × ν)) (k : κ) : getM (e :: m) k = if k = e.1 then some e.2 else getM m k := by
  conv => lhs; unfold getM findM
  split
  · rfl
  · exact findM_shift k m 1
theorem getM_put {κ ν : Type} [DecidableEq κ] (k : κ) (v : ν) : ∀ (m : List (κ × ν)) (q : κ), getM (putM k v m) q = if q = k then some v else getM m q
  | [], q => by
    unfold putM
    rw [getM_cons]
  | e :: m, q => by
    unfold putM
    split
    · rename_i h
      subst h
      rw [getM_cons, getM_cons]
      by_cases hq : q = e.1 <;> simp [hq]
    · rename_i h
      rw [getM_cons, getM_cons, getM_put k v m q]
      by_cases hq : q = e.1
      · simp only [hq, if_true]
        rw [if_neg (fun e' : e.1 = k => h e'.symm)]
      · simp [hq]
theorem putM_length {κ ν : Type} [DecidableEq κ] (k : κ) (v : ν) : ∀ (m : List (κ × ν)), (putM k v m).length ≤ m.length + 1 ∧ m.length ≤ (putM k v m).length
  | [] => by simp [putM]
  | e :: m => by
    unfold putM
    split
    · simp
    · have := putM_length k v m
      simp; omega
def BoundM (m : IMap) (N : Nat) : Prop := ∀ k, -(N : Int) ≤ getI m k ∧ getI m k ≤ N
theorem BoundM.put {m : IMap} {N : Nat} (h : BoundM m N) (k v : Int) (hv : -((N : Int) + 1) ≤ v ∧ v ≤ N + 1) : BoundM (putM k v m) (N + 1) := fun q => by
  have hq := h q
  unfold getI at hq ⊢
  rw [getM_put]
  split
  · simp only [Option.getD_some]; omega
  · omega
theorem BoundM.bump {m : IMap} {N : Nat} (h : BoundM m N) (x : Span) : BoundM (bumpS m x) (N + 2) := by
  have h1 := h.put x.from_ (getI m x.from_ + 1) (by have := h x.from_; omega)
  exact h1.put x.to_ _ (by have := h1 x.to_; omega)
theorem BoundM.up {m : IMap} {N N' : Nat} (h : BoundM m N) (hN : N ≤ N') : BoundM m N' := fun k => by have := h k; omega
theorem BoundM.start : BoundM [(0, 0), (1000000, 0)] 0 := fun k => by
  have : getI [(0, 0), (1000000, 0)] k = 0 := by
    unfold getI
    rw [getM_cons, getM_cons]
    by_cases h : k = 0
    · simp [h]
    · by_cases h2 : k = 1000000 <;> simp [h, h2, getM, findM]
  omega
theorem bump_length (m : IMap) (x : Span) : (bumpS m x).length ≤ m.length + 2 ∧ m.length ≤ (bumpS m x).length := by
  unfold bumpS
  have h1 := putM_length x.from_ (getI m x.from_ + 1) m
  have h2 := putM_length x.to_ (getI (putM x.from_ (getI m x.from_ + 1) m) x.to_ - 1) (putM x.from_ (getI m x.from_ + 1) m)
  omega
theorem canon_len (s : List Span) : (canon s).length ≤ s.length := by
  have h : ∀ (ys acc : List Span), (ys.foldl mergeStep acc).length ≤ acc.length + ys.length := by
    intro ys
    induction ys with
    | nil => intro acc; simp
    | cons x ys ih =>
      intro acc
      have h1 := ih (mergeStep acc x)
      have h2 : (mergeStep acc x).length ≤ acc.length + 1 := by
        unfold mergeStep
        split
        · simp
        · split <;> simp <;> omega
      simp only [List.foldl_cons, List.length_cons]
      omega
  have h1 := h (sortS (clip s)) []
  have h2 := (sortS_spec (clip s)).1.length_eq
  have h3 := clip_len s
  unfold canon mergeAll
  simp at h1
  omega
theorem keys_perm {m : IMap} {ks : List Int} (h : ks.Perm (m.map (·.1))) : (ks.mergeSort fun x y => decide (x ≤ y)) = keysOf m := mergeSort_sortI h
attribute [irreducible] keysOf
theorem segs_step {keep : Int → Bool} {m : IMap} {c : Int} {bs : List Int} {i : Nat} (h : (i : Int) < bs.length - 1) : segs keep m c (bs.drop i) = if keep (c + getI m (ix bs i)) then ⟨ix bs i, ix bs ((i : Int) + 1)⟩ :: segs keep m (c + getI m (ix bs i)) (bs.drop (i + 1)) else segs keep m (c + getI m (ix bs i)) (bs.drop (i + 1)) := by
  rw [drop_ix (s := bs) (i := i) (by omega), drop_ix (s := bs) (i := i + 1) (by omega)]
  conv => lhs; unfold segs
  rfl
theorem segs_end {keep : Int → Bool} {m : IMap} {c : Int} {bs : List Int} {i : Nat} (h : ¬ (i : Int) < bs.length - 1) : segs keep m c (bs.drop i) = [] := by
  have : (bs.drop i).length ≤ 1 := by simp; omega
  match bs.drop i, this with
  | [], _ => rfl
  | [_], _ => rfl
end Go.Mp
namespace Go.Mp
def intersect (l : List (List Span)) : List Span := combine (fun n => decide (n = l.length)) l
def union (l : List (List Span)) : List Span := combine (fun n => decide (0 < n)) l
def complement (s : List Span) : List Span := combine (fun n => decide (n = 0)) [s]
end Go.Mp
namespace Go.Mp
open Go
theorem bl_irrefl : ∀ a : List UInt8, Op.bytesLess a a = false
  | [] => rfl
  | x :: a => by
    have := bl_irrefl a
    simp [Op.bytesLess, this]
theorem bl_trans : ∀ {a b c : List UInt8}, Op.bytesLess a b = true → Op.bytesLess b c = true → Op.bytesLess a c = true
  | _, [], _, h, _ => by simp [Op.bytesLess] at h
  | _, _ :: _, [], _, h => by simp [Op.bytesLess] at h
  | [], _ :: _, _ :: _, _, _ => rfl
  | x :: a, y :: b, z :: c, h1, h2 => by
    simp only [Op.bytesLess, Bool.or_eq_true, Bool.and_eq_true, decide_eq_true_eq, beq_iff_eq] at h1 h2 ⊢
    rcases h1 with h1 | ⟨rfl, h1⟩
    · rcases h2 with h2 | ⟨rfl, h2⟩
      · exact .inl (UInt8.lt_trans h1 h2)
      · exact .inl h1
    · rcases h2 with h2 | ⟨rfl, h2⟩
      · exact .inl h2
      · exact .inr ⟨rfl, bl_trans h1 h2⟩
theorem bl_tri : ∀ {a b : List UInt8}, Op.bytesLess a b = false → Op.bytesLess b a = false → a = b
  | [], [], _, _ => rfl
  | [], _ :: _, h, _ => by simp [Op.bytesLess] at h
  | _ :: _, [], _, h => by simp [Op.bytesLess] at h
  | x :: a, y :: b, h1, h2 => by
    simp only [Op.bytesLess, Bool.or_eq_false_iff, Bool.and_eq_false_iff, decide_eq_false_iff_not, beq_eq_false_iff_ne] at h1 h2
    have e : x = y := UInt8.le_antisymm (UInt8.not_lt.1 h2.1) (UInt8.not_lt.1 h1.1)
    subst e
    rw [bl_tri (h1.2.resolve_left fun h => h rfl) (h2.2.resolve_left fun h => h rfl)]
theorem cmp_bl : ∀ a b : List UInt8, decide (Lib.compareBytes a b < 0) = Op.bytesLess a b
  | [], [] => rfl
  | [], _ :: _ => rfl
  | _ :: _, [] => rfl
  | x :: a, y :: b => by
    unfold Lib.compareBytes
    simp only [Op.bytesLess]
    by_cases h1 : x < y
    · simp [h1]
    · rw [if_neg h1]
      by_cases h2 : y < x
      · rw [if_pos h2]
        have hne : x ≠ y := fun e => by subst e; exact h1 h2
        simp [h1, hne]
      · rw [if_neg h2]
        have e : x = y := UInt8.le_antisymm (UInt8.not_lt.1 h2) (UInt8.not_lt.1 h1)
        subst e
        rw [cmp_bl a b]
        simp [h1]
theorem strLt_data (s t : ByteArray) : strLt s t = Op.bytesLess s.data.toList t.data.toList := by
  unfold strLt
  rw [ByteArray.toList_eq, ByteArray.toList_eq]
theorem strLt_irrefl (s : ByteArray) : strLt s s = false := bl_irrefl _
theorem strLt_trans {a b c : ByteArray} (h1 : strLt a b = true) (h2 : strLt b c = true) : strLt a c = true := bl_trans h1 h2
theorem strLt_tri {a b : ByteArray} (h1 : strLt a b = false) (h2 : strLt b a = false) : a = b := toList_inj (bl_tri h1 h2)
theorem strLt_asymm {a b : ByteArray} (h1 : strLt a b = true) : strLt b a = false := by
  cases h : strLt b a with
  | false => rfl
  | true => have := strLt_trans h1 h; rw [strLt_irrefl] at this; cases this
theorem strLt_ntrans {a b c : ByteArray} (h1 : strLt a b = false) (h2 : strLt b c = false) : strLt a c = false := by
  cases h : strLt a c with
  | false => rfl
  | true =>
    cases h3 : strLt c b with
    | true => have := strLt_trans h h3; rw [h1] at this; cases this
    | false => rw [strLt_tri h2 h3, h] at h1; cases h1
theorem cmp_strLt (s t : ByteArray) : decide (Lib.compareBytes s.data.toList t.data.toList < 0) = strLt s t := by rw [cmp_bl, strLt_data]
theorem canonL_len : ∀ (l : List Span) (a : Int), CanonL l → (∀ x ∈ l, a ≤ x.from_ ∧ x.to_ ≤ 1000000) → a ≤ 1000000 → (l.length : Int) ≤ 1000000 - a
  | [], a, _, _, ha => by simp; omega
  | x :: l, a, h, hb, ha => by
    have hx := hb x List.mem_cons_self
    have hf := h.full x List.mem_cons_self
    have := canonL_len l x.to_ h.tail (fun y hy => ⟨by have := (List.pairwise_cons.1 h.apart).1 y hy; omega, (hb y (List.mem_cons_of_mem _ hy)).2⟩) (by omega)
    simp only [List.length_cons]
    omega
theorem clip_bound2 (s : List Span) : ∀ x ∈ clip s, 0 ≤ x.from_ ∧ x.to_ ≤ 1000000 := by
  intro x hx
  simp only [clip, List.mem_filter, List.mem_map, decide_eq_true_eq] at hx
  obtain ⟨⟨y, _, rfl⟩, h⟩ := hx
  simp only [clipS] at h ⊢
  omega
theorem canon_bound (s : List Span) : ∀ x ∈ canon s, 0 ≤ x.from_ ∧ x.to_ ≤ 1000000 := by
  intro x hx
  obtain ⟨hc, hcov⟩ := canon_spec s
  have hf := hc.full x hx
  have h1 := (hcov x.from_).1 ⟨x, hx, by omega, by omega⟩
  have h2 := (hcov (x.to_ - 1)).1 ⟨x, hx, by omega, by omega⟩
  obtain ⟨y, hy, hy1, hy2⟩ := h1
  obtain ⟨z, hz, hz1, hz2⟩ := h2
  have := clip_bound2 s y hy
  have := clip_bound2 s z hz
  omega
theorem canon_len2 (s : List Span) : (canon s).length ≤ 1000000 := by
  have := canonL_len (canon s) 0 (canon_spec s).1 (canon_bound s) (by omega)
  omega
theorem combine_len (keep : Int → Bool) (l : List (List Span)) : (combine keep l).length ≤ 1000000 := canon_len2 _
end Go.Mp
namespace Go.Mp
open Go
def TOK (t : Term) : Prop := t.set_.length ≤ 1000000
instance : DecidablePred TOK := fun t => inferInstanceAs (Decidable (t.set_.length ≤ 1000000))
def always (t : Term) : Bool := t.absent && decide (((complement t.set_).length : Int) = 0)
def never (t : Term) : Bool := (!t.absent) && decide (((canon t.set_).length : Int) = 0)
def both (a b : Term) : Term := ⟨a.path, a.absent && b.absent, intersect [a.set_, b.set_]⟩
def either (a b : Term) : Term := ⟨a.path, a.absent || b.absent, union [a.set_, b.set_]⟩
theorem both_ok (a b : Term) : TOK (both a b) := combine_len _ _
theorem either_ok (a b : Term) : TOK (either a b) := combine_len _ _
abbrev TMap := List (ByteArray × Term)
def mergeT1 (m : TMap) (t : Term) : TMap := putM t.path (both ((getM m t.path).getD t) t) m
def mergeT (l : List Term) : TMap := l.foldl mergeT1 []
def MOK (m : TMap) : Prop := ∀ e ∈ m, TOK e.2
theorem getM_mem {κ ν : Type} [DecidableEq κ] {k : κ} {v : ν} : ∀ {m : List (κ × ν)}, getM m k = some v → (k, v) ∈ m
  | [], h => by simp [getM, findM] at h
  | e :: m, h => by
    rw [getM_cons] at h
    split at h
    · rename_i hk
      cases h; subst hk
      exact List.mem_cons_self
    · exact List.mem_cons_of_mem _ (getM_mem h)
theorem putM_mem {κ ν : Type} [DecidableEq κ] {k : κ} {v : ν} : ∀ {m : List (κ × ν)} {e : κ × ν}, e ∈ putM k v m → e = (k, v) ∨ e ∈ m
  | [], e, h => by simp [putM] at h; exact .inl h
  | d :: m, e, h => by
    unfold putM at h
    split at h
    · rcases List.mem_cons.1 h with h | h
      · exact .inl h
      · exact .inr (List.mem_cons_of_mem _ h)
    · rcases List.mem_cons.1 h with h | h
      · exact .inr (by rw [h]; exact List.mem_cons_self)
      · rcases putM_mem h with h | h
        · exact .inl h
        · exact .inr (List.mem_cons_of_mem _ h)
theorem MOK.put {m : TMap} (h : MOK m) (k : ByteArray) {t : Term} (ht : TOK t) : MOK (putM k t m) := fun e he => by
  rcases putM_mem he with rfl | he
  · exact ht
  · exact h e he
theorem MOK.get {m : TMap} (h : MOK m) {k : ByteArray} {t : Term} (ht : getM m k = some t) : TOK t := h _ (getM_mem ht)
theorem MOK.getD {m : TMap} (h : MOK m) (k : ByteArray) {z : Term} (hz : TOK z) : TOK ((getM m k).getD z) := by
  cases e : getM m k with
  | none => exact hz
  | some t => exact h.get e
def keysNodup (m : TMap) : Prop := (m.map (·.1)).Nodup
theorem putM_keys {κ ν : Type} [DecidableEq κ] (k : κ) (v : ν) : ∀ m : List (κ × ν), (m.map (·.1)).Nodup → ((putM k v m).map (·.1)).Nodup
  | [], _ => by simp [putM]
  | e :: m, h => by
    unfold putM
    have h' := List.nodup_cons.1 h
    split
    · rename_i hk
      subst hk
      exact h
    · rename_i hk
      refine List.nodup_cons.2 ⟨fun hm => ?_, putM_keys k v m h'.2⟩
      obtain ⟨d, hd, hde⟩ := List.mem_map.1 hm
      rcases putM_mem hd with rfl | hd
      · exact hk hde
      · exact h'.1 (List.mem_map.2 ⟨d, hd, hde⟩)
theorem mergeT_keys (l : List Term) : keysNodup (mergeT l) := by
  have : ∀ (l : List Term) (m : TMap), keysNodup m → keysNodup (l.foldl mergeT1 m) := by
    intro l
    induction l with
    | nil => exact fun m h => h
    | cons t l ih => exact fun m h => ih _ (putM_keys _ _ m h)
  exact this l [] List.nodup_nil
def keysOwn (m : TMap) : Prop := ∀ e ∈ m, e.2.path = e.1
theorem mergeT_own (l : List Term) : keysOwn (mergeT l) := by
  have h1 : ∀ (m : TMap) (t : Term), keysOwn m → keysOwn (mergeT1 m t) := fun m t h e he => by
    rcases putM_mem he with rfl | he
    · show (both ((getM m t.path).getD t) t).path = t.path
      show ((getM m t.path).getD t).path = t.path
      cases e : getM m t.path with
      | none => rfl
      | some u => exact h _ (getM_mem e)
    · exact h e he
  have : ∀ (l : List Term) (m : TMap), keysOwn m → keysOwn (l.foldl mergeT1 m) := by
    intro l
    induction l with
    | nil => exact fun m h => h
    | cons t l ih => exact fun m h => ih _ (h1 m t h)
  exact this l [] fun e he => by cases he
theorem mergeT_len (l : List Term) : (mergeT l).length ≤ l.length := by
  have : ∀ (l : List Term) (m : TMap), (l.foldl mergeT1 m).length ≤ m.length + l.length := by
    intro l
    induction l with
    | nil => intro m; simp
    | cons t l ih =>
      intro m
      have h1 := ih (mergeT1 m t)
      have h2 := (putM_length t.path (both ((getM m t.path).getD t) t) m).1
      simp only [List.foldl_cons, List.length_cons]
      unfold mergeT1 at h1 ⊢
      omega
  have := this l []
  simpa [mergeT] using this
theorem mergeT_ok (l : List Term) : MOK (mergeT l) := by
  have : ∀ (l : List Term) (m : TMap), MOK m → MOK (l.foldl mergeT1 m) := by
    intro l
    induction l with
    | nil => exact fun m h => h
    | cons t l ih => exact fun m h => ih _ (h.put _ (both_ok _ _))
  exact this l [] fun e he => by cases he
def insT (x : Term) : List Term → List Term
  | [] => [x]
  | y :: l => if strLt y.path x.path then y :: insT x l else x :: y :: l
def sortT (l : List Term) : List Term := l.foldr insT []
def keptT (m : TMap) : List Term := (m.filter fun e => !always e.2).map (·.2)
def canonT (l : List Term) : List Term × Bool :=
  if (mergeT l).any (fun e => never e.2) then ([], false) else (sortT (keptT (mergeT l)), true)
theorem insT_perm (x : Term) : ∀ l, (insT x l).Perm (x :: l)
  | [] => List.Perm.refl _
  | y :: l => by
    unfold insT
    split
    · exact ((insT_perm x l).cons y).trans (List.Perm.swap x y l)
    · exact List.Perm.refl _
theorem insT_sorted (x : Term) : ∀ l, l.Pairwise (fun a b => strLt b.path a.path = false) → (insT x l).Pairwise fun a b => strLt b.path a.path = false
  | [], _ => List.pairwise_singleton _ _
  | y :: l, h => by
    unfold insT
    have h' := List.pairwise_cons.1 h
    split
    · rename_i hc
      refine List.pairwise_cons.2 ⟨fun z hz => ?_, insT_sorted x l h'.2⟩
      rcases List.mem_cons.1 ((insT_perm x l).mem_iff.1 hz) with rfl | hz
      · exact strLt_asymm hc
      · exact h'.1 z hz
    · rename_i hc
      have hc : strLt y.path x.path = false := by simpa using hc
      refine List.pairwise_cons.2 ⟨fun z hz => ?_, h⟩
      rcases List.mem_cons.1 hz with rfl | hz
      · exact hc
      · exact strLt_ntrans (h'.1 z hz) hc
theorem sortT_spec (l : List Term) : (sortT l).Perm l ∧ (sortT l).Pairwise fun a b => strLt b.path a.path = false := by
  induction l with
  | nil => exact ⟨List.Perm.refl _, List.Pairwise.nil⟩
  | cons x l ih => exact ⟨(insT_perm x _).trans (ih.1.cons x), insT_sorted x _ ih.2⟩
theorem inj_of_nodup {α β : Type} (f : α → β) : ∀ {l : List α}, (l.map f).Nodup → ∀ a ∈ l, ∀ b ∈ l, f a = f b → a = b
  | [], _, a, ha, _, _, _ => by cases ha
  | x :: l, h, a, ha, b, hb, e => by
    have h' := List.nodup_cons.1 h
    rcases List.mem_cons.1 ha with rfl | ha' <;> rcases List.mem_cons.1 hb with rfl | hb'
    · rfl
    · exact absurd (by rw [e]; exact List.mem_map_of_mem (f := f) hb') h'.1
    · exact absurd (by rw [← e]; exact List.mem_map_of_mem (f := f) ha') h'.1
    · exact inj_of_nodup f h'.2 a ha' b hb' e
theorem sortT_of {l ys : List Term} (h : ys.Perm l ∧ ys.Pairwise fun a b => strLt b.path a.path = false) (hn : (l.map (·.path)).Nodup) : ys = sortT l := by
  obtain ⟨h1, h2⟩ := sortT_spec l
  have hp := h.1.trans h1.symm
  refine List.Perm.eq_of_pairwise (le := fun a b : Term => strLt b.path a.path = false) (fun a b ha hb e1 e2 => ?_) h.2 h2 hp
  exact inj_of_nodup (fun t : Term => t.path) hn a (h.1.mem_iff.1 ha) b (h1.mem_iff.1 hb) (strLt_tri e2 e1)
theorem kept_nodup (l : List Term) : ((keptT (mergeT l)).map (·.path)).Nodup := by
  unfold keptT
  rw [List.map_map]
  have e : ((mergeT l).filter fun e => !always e.2).map ((fun t : Term => t.path) ∘ fun e => e.2) = ((mergeT l).filter fun e => !always e.2).map (·.1) :=
    List.map_congr_left fun e he => mergeT_own l e (List.mem_filter.1 he).1
  rw [e]
  exact (mergeT_keys l).sublist (List.filter_sublist.map _)
def rootT (q : Requirement) : Term := ⟨q.path, true, complement q.set_⟩
def ofT (l : List Term) : List Term := (canonT l).1
def rootI (q : Requirement) : List Term := ofT [rootT q]
def requiresI (path : ByteArray) (place : Int) (q : Requirement) : List Term := ofT [⟨path, false, [⟨place, place + 1⟩]⟩, rootT q]
def noneI (path : ByteArray) (av : List Span) : List Term := ofT [⟨path, false, complement av⟩]
end Go.Mp
namespace Go.Mp
abbrev TPair := {p : Term × Term // TOK p.1 ∧ TOK p.2}
theorem mergeT1_new {m : TMap} {t : Term} (h : (getM m t.path).isSome = false) : mergeT1 m t = putM t.path (both t t) m := by
  unfold mergeT1
  cases e : getM m t.path with
  | none => rfl
  | some u => rw [e] at h; cases h
theorem mergeT1_old {m : TMap} {t : Term} (h : (getM m t.path).isSome = true) : mergeT1 m t = putM t.path (both ((getM m t.path).getD zTerm) t) m := by
  unfold mergeT1
  cases e : getM m t.path with
  | none => rw [e] at h; cases h
  | some u => rfl
theorem keptT_yes {d : TMap} {e : ByteArray × Term} (h : always e.2 = false) : keptT (d ++ [e]) = keptT d ++ [e.2] := by
  simp [keptT, List.filter_append, h]
theorem keptT_no {d : TMap} {e : ByteArray × Term} (h : always e.2 = true) : keptT (d ++ [e]) = keptT d := by
  simp [keptT, List.filter_append, h]
theorem keptT_perm {a b : TMap} (h : a.Perm b) : (keptT a).Perm (keptT b) := (h.filter _).map _
theorem keptT_len (m : TMap) : (keptT m).length ≤ m.length := by
  have := List.length_filter_le (fun e : ByteArray × Term => !always e.2) m
  simpa [keptT] using this
theorem perm_move {α : Type} {d l r M : List α} {e : α} (h : (d ++ l).Perm M) (k : l.Perm (e :: r)) : ((d ++ [e]) ++ r).Perm M := by
  rw [List.append_assoc]
  exact (k.append_left d).symm.trans h
end Go.Mp
namespace Go.Proofs
open Go.Shelf
def Tryz.lays125_ren : Go.Shelf.Ren := ⟨fun | 125 => 105 | 128 => 152 | 129 => 153 | n => n, fun | 46 => 165 | 3 => 3 | 51 => 210 | 53 => 212 | 4 => 4 | 5 => 5 | 9 => 9 | n => n, fun | n => n⟩
theorem Tryz.lays125 : Go.Proofs.Lays.n125 Tryz.prog Tryz.lays125_ren := {
  mixed := by kernel_rfl
  f125 := Tryz.func105.trans (congrArg some (by kernel_rfl))
  f128 := Tryz.func152.trans (congrArg some (by kernel_rfl))
  f129 := Tryz.func153.trans (congrArg some (by kernel_rfl))
  t3 := Tryz.underlying3
  a3 := Tryz.isAgg3
  z3 := Tryz.sizeOf3
  v3 := Tryz.zeroValue3
  t4 := Tryz.underlying4
  a4 := Tryz.isAgg4
  z4 := Tryz.sizeOf4
  v4 := Tryz.zeroValue4
  t5 := Tryz.underlying5
  a5 := Tryz.isAgg5
  z5 := Tryz.sizeOf5
  v5 := Tryz.zeroValue5
  t9 := Tryz.underlying9
  a9 := Tryz.isAgg9
  z9 := Tryz.sizeOf9
  v9 := Tryz.zeroValue9
  t46 := Tryz.underlying165
  a46 := Tryz.isAgg165
  z46 := Tryz.sizeOf165
  v46 := Tryz.zeroValue165
  t51 := Tryz.underlying210
  a51 := Tryz.isAgg210
  z51 := Tryz.sizeOf210
  v51 := Tryz.zeroValue210
  t53 := Tryz.underlying212
  a53 := Tryz.isAgg212
  z53 := Tryz.sizeOf212
  v53 := Tryz.zeroValue212 }
theorem Tryz.bits_Len (x : Int) (w : World) (h0 : 0 ≤ x) (h1 : x ≤ 18446744073709551615) :
    Calls Tryz.prog 105 #[.int .u64 x] w fun e w' => e = .returned (.int .i64 (Lib.bitLen x.toNat)) ∧ w' = w := Any.bits_Len Tryz.lays125 x w h0 h1
def Tryz.lays213_ren : Go.Shelf.Ren := ⟨fun | 213 => 106 | 265 => 154 | n => n, fun | 9 => 9 | 3 => 3 | n => n, fun | n => n⟩
def Tryz.lays106_ren : Go.Shelf.Ren := ⟨fun | 106 => 63 | 213 => 106 | 265 => 154 | n => n, fun | 9 => 9 | 3 => 3 | n => n, fun | n => n⟩
theorem Tryz.lays106 : Go.Proofs.Lays.n106 Tryz.prog Tryz.lays106_ren := {
  mixed := by kernel_rfl
  f106 := Tryz.func63.trans (congrArg some (by kernel_rfl))
  f213 := Tryz.func106.trans (congrArg some (by kernel_rfl))
  f265 := Tryz.func154.trans (congrArg some (by kernel_rfl))
  t3 := Tryz.underlying3
  a3 := Tryz.isAgg3
  z3 := Tryz.sizeOf3
  v3 := Tryz.zeroValue3
  t9 := Tryz.underlying9
  a9 := Tryz.isAgg9
  z9 := Tryz.sizeOf9
  v9 := Tryz.zeroValue9 }
open Go.RowKit in
theorem Tryz.strings_Compare (a b : ByteArray) (w : World) :
    Calls Tryz.prog 63 #[.string a, .string b] w fun e w' => e = .returned (.int .i64 (Lib.compareBytes a.data.toList b.data.toList)) ∧ w' = w := Any.strings_Compare Tryz.lays106 a b w
def Tryz.lays103_ren : Go.Shelf.Ren := ⟨fun | 103 => 242 | 210 => 260 | 206 => 272 | n => n, fun | 9 => 9 | 4 => 4 | 24 => 134 | 3 => 3 | n => n, fun | n => n⟩
theorem Tryz.lays103 : Go.Proofs.Lays.n103 Tryz.prog Tryz.lays103_ren := {
  mixed := by kernel_rfl
  f103 := Tryz.func242.trans (congrArg some (by kernel_rfl))
  f206 := Tryz.func272.trans (congrArg some (by kernel_rfl))
  f210 := Tryz.func260.trans (congrArg some (by kernel_rfl))
  t3 := Tryz.underlying3
  a3 := Tryz.isAgg3
  z3 := Tryz.sizeOf3
  v3 := Tryz.zeroValue3
  t4 := Tryz.underlying4
  a4 := Tryz.isAgg4
  z4 := Tryz.sizeOf4
  v4 := Tryz.zeroValue4
  t9 := Tryz.underlying9
  a9 := Tryz.isAgg9
  z9 := Tryz.sizeOf9
  v9 := Tryz.zeroValue9
  t24 := Tryz.underlying134
  a24 := Tryz.isAgg134
  z24 := Tryz.sizeOf134
  v24 := Tryz.zeroValue134 }
open Go.RowKit in
theorem Tryz.strings_CutPrefix (s p : ByteArray) (w : World) :
    Calls Tryz.prog 242 #[.string s, .string p] w fun e w' => e = .returned (.tuple #[.string ⟨(Lib.trimPrefix s.data.toList p.data.toList).toArray⟩, .bool (Lib.hasPrefix s.data.toList p.data.toList)]) ∧ w' = w := Any.strings_CutPrefix Tryz.lays103 s p w
def Tryz.lays219_ren : Go.Shelf.Ren := ⟨fun | 219 => 271 | 217 => 275 | 225 => 276 | 224 => 277 | 267 => 278 | 266 => 280 | 314 => 281 | n => n, fun | 9 => 9 | 3 => 3 | 4 => 4 | 5 => 5 | 46 => 165 | 146 => 263 | 51 => 210 | n => n, fun | 1 => 0 | n => n⟩
def Tryz.lays144_ren : Go.Shelf.Ren := ⟨fun | 144 => 262 | 143 => 259 | 219 => 271 | 217 => 275 | 225 => 276 | 224 => 277 | 267 => 278 | 266 => 280 | 314 => 281 | n => n, fun | 9 => 9 | 4 => 4 | 3 => 3 | 5 => 5 | 46 => 165 | 146 => 263 | 51 => 210 | n => n, fun | 1 => 0 | n => n⟩
theorem Tryz.lays144 : Go.Proofs.Lays.n144 Tryz.prog Tryz.lays144_ren := {
  mixed := by kernel_rfl
  f143 := Tryz.func259.trans (congrArg some (by kernel_rfl))
  f144 := Tryz.func262.trans (congrArg some (by kernel_rfl))
  f217 := Tryz.func275.trans (congrArg some (by kernel_rfl))
  f219 := Tryz.func271.trans (congrArg some (by kernel_rfl))
  f224 := Tryz.func277.trans (congrArg some (by kernel_rfl))
  f225 := Tryz.func276.trans (congrArg some (by kernel_rfl))
  f266 := Tryz.func280.trans (congrArg some (by kernel_rfl))
  f267 := Tryz.func278.trans (congrArg some (by kernel_rfl))
  f314 := Tryz.func281.trans (congrArg some (by kernel_rfl))
  t3 := Tryz.underlying3
  a3 := Tryz.isAgg3
  z3 := Tryz.sizeOf3
  v3 := Tryz.zeroValue3
  t4 := Tryz.underlying4
  a4 := Tryz.isAgg4
  z4 := Tryz.sizeOf4
  v4 := Tryz.zeroValue4
  t5 := Tryz.underlying5
  a5 := Tryz.isAgg5
  z5 := Tryz.sizeOf5
  v5 := Tryz.zeroValue5
  t9 := Tryz.underlying9
  a9 := Tryz.isAgg9
  z9 := Tryz.sizeOf9
  v9 := Tryz.zeroValue9
  t46 := Tryz.underlying165
  a46 := Tryz.isAgg165
  z46 := Tryz.sizeOf165
  v46 := Tryz.zeroValue165
  t51 := Tryz.underlying210
  a51 := Tryz.isAgg210
  z51 := Tryz.sizeOf210
  v51 := Tryz.zeroValue210
  t146 := Tryz.underlying263
  a146 := Tryz.isAgg263
  z146 := Tryz.sizeOf263
  v146 := Tryz.zeroValue263
  g1 := by kernel_rfl }
open Go.RowKit Go.Lib in
theorem Tryz.strings_Contains (s sub : ByteArray) (m : Int) (w : World) (hs : s.size < 4294967281) (hm : w.cell? ⟨0, 0, none⟩ = some (.int .i64 m)) :
    Calls Tryz.prog 262 #[.string s, .string sub] w fun e w' => e = .returned (.bool (Lib.contains s.data.toList sub.data.toList)) ∧ w' = w := Any.strings_Contains Tryz.lays144 s sub m w hs hm
def Tryz.lays189_ren : Go.Shelf.Ren := ⟨fun | 189 => 179 | 125 => 105 | 257 => 202 | 128 => 152 | 129 => 153 | 294 => 229 | 295 => 230 | 296 => 231 | 297 => 232 | 298 => 233 | 299 => 234 | 216 => 235 | 300 => 236 | 301 => 237 | 328 => 253 | 329 => 182 | 330 => 183 | 331 => 254 | 332 => 255 | 215 => 221 | 343 => 267 | n => n, fun | 28 => 154 | 3 => 3 | 46 => 165 | 0 => 0 | 51 => 210 | 53 => 212 | 4 => 4 | 183 => 203 | 182 => 202 | 131 => 207 | 5 => 5 | 9 => 9 | 218 => 225 | 222 => 229 | 228 => 241 | 229 => 242 | n => n, fun | n => n⟩
theorem Tryz.lays189 : Go.Proofs.Lays.n189 Tryz.prog Tryz.lays189_ren := {
  mixed := by kernel_rfl
  f125 := Tryz.func105.trans (congrArg some (by kernel_rfl))
  f128 := Tryz.func152.trans (congrArg some (by kernel_rfl))
  f129 := Tryz.func153.trans (congrArg some (by kernel_rfl))
  f189 := Tryz.func179.trans (congrArg some (by kernel_rfl))
  f215 := Tryz.func221.trans (congrArg some (by kernel_rfl))
  f216 := Tryz.func235.trans (congrArg some (by kernel_rfl))
  f257 := Tryz.func202.trans (congrArg some (by kernel_rfl))
  f294 := Tryz.func229.trans (congrArg some (by kernel_rfl))
  f295 := Tryz.func230.trans (congrArg some (by kernel_rfl))
  f296 := Tryz.func231.trans (congrArg some (by kernel_rfl))
  f297 := Tryz.func232.trans (congrArg some (by kernel_rfl))
  f298 := Tryz.func233.trans (congrArg some (by kernel_rfl))
  f299 := Tryz.func234.trans (congrArg some (by kernel_rfl))
  f300 := Tryz.func236.trans (congrArg some (by kernel_rfl))
  f301 := Tryz.func237.trans (congrArg some (by kernel_rfl))
  f328 := Tryz.func253.trans (congrArg some (by kernel_rfl))
  f329 := Tryz.func182.trans (congrArg some (by kernel_rfl))
  f330 := Tryz.func183.trans (congrArg some (by kernel_rfl))
  f331 := Tryz.func254.trans (congrArg some (by kernel_rfl))
  f332 := Tryz.func255.trans (congrArg some (by kernel_rfl))
  f343 := Tryz.func267.trans (congrArg some (by kernel_rfl))
  t0 := Tryz.underlying0
  a0 := Tryz.isAgg0
  z0 := Tryz.sizeOf0
  v0 := Tryz.zeroValue0
  t3 := Tryz.underlying3
  a3 := Tryz.isAgg3
  z3 := Tryz.sizeOf3
  v3 := Tryz.zeroValue3
  t4 := Tryz.underlying4
  a4 := Tryz.isAgg4
  z4 := Tryz.sizeOf4
  v4 := Tryz.zeroValue4
  t5 := Tryz.underlying5
  a5 := Tryz.isAgg5
  z5 := Tryz.sizeOf5
  v5 := Tryz.zeroValue5
  t9 := Tryz.underlying9
  a9 := Tryz.isAgg9
  z9 := Tryz.sizeOf9
  v9 := Tryz.zeroValue9
  t28 := Tryz.underlying154
  a28 := Tryz.isAgg154
  z28 := Tryz.sizeOf154
  v28 := Tryz.zeroValue154
  t46 := Tryz.underlying165
  a46 := Tryz.isAgg165
  z46 := Tryz.sizeOf165
  v46 := Tryz.zeroValue165
  t51 := Tryz.underlying210
  a51 := Tryz.isAgg210
  z51 := Tryz.sizeOf210
  v51 := Tryz.zeroValue210
  t53 := Tryz.underlying212
  a53 := Tryz.isAgg212
  z53 := Tryz.sizeOf212
  v53 := Tryz.zeroValue212
  t131 := Tryz.underlying207
  a131 := Tryz.isAgg207
  z131 := Tryz.sizeOf207
  v131 := Tryz.zeroValue207
  t182 := Tryz.underlying202
  a182 := Tryz.isAgg202
  z182 := Tryz.sizeOf202
  v182 := Tryz.zeroValue202
  t183 := Tryz.underlying203
  a183 := Tryz.isAgg203
  z183 := Tryz.sizeOf203
  v183 := Tryz.zeroValue203
  t218 := Tryz.underlying225
  a218 := Tryz.isAgg225
  z218 := Tryz.sizeOf225
  v218 := Tryz.zeroValue225
  t222 := Tryz.underlying229
  a222 := Tryz.isAgg229
  z222 := Tryz.sizeOf229
  v222 := Tryz.zeroValue229
  t228 := Tryz.underlying241
  a228 := Tryz.isAgg241
  z228 := Tryz.sizeOf241
  v228 := Tryz.zeroValue241
  t229 := Tryz.underlying242
  a229 := Tryz.isAgg242
  z229 := Tryz.sizeOf242
  v229 := Tryz.zeroValue242 }
open Go.Sort Go.RowKit in
theorem Tryz.slices_Sort_int (blk off cap : Nat) (zs : List Int) (w : World) (hH : Holds (Value.int .i64) w blk off zs.toArray) (hblk : blk < w.heap.size) (hsz : zs.length < 4611686018427387904) :
    Calls Tryz.prog 179 #[.slice (some ⟨blk, off, none⟩) zs.length cap] w fun e w' =>
      e = .returned (.tuple #[]) ∧ ∃ n os, w' = grow (putRow (Value.int .i64) (Sort.ahead w n) blk off (zs.mergeSort fun x y => decide (x ≤ y)).toArray) os := Any.slices_Sort_int Tryz.lays189 blk off cap zs w hH hblk hsz
def Tryz.lays148_ren : Go.Shelf.Ren := ⟨fun | 148 => 188 | 222 => 219 | 223 => 220 | 269 => 245 | n => n, fun | 9 => 9 | 3 => 3 | 4 => 4 | 5 => 5 | 146 => 263 | 51 => 210 | 46 => 165 | n => n, fun | n => n⟩
theorem Tryz.lays148 : Go.Proofs.Lays.n148 Tryz.prog Tryz.lays148_ren := {
  mixed := by kernel_rfl
  f148 := Tryz.func188.trans (congrArg some (by kernel_rfl))
  f222 := Tryz.func219.trans (congrArg some (by kernel_rfl))
  f223 := Tryz.func220.trans (congrArg some (by kernel_rfl))
  f269 := Tryz.func245.trans (congrArg some (by kernel_rfl))
  t3 := Tryz.underlying3
  a3 := Tryz.isAgg3
  z3 := Tryz.sizeOf3
  v3 := Tryz.zeroValue3
  t4 := Tryz.underlying4
  a4 := Tryz.isAgg4
  z4 := Tryz.sizeOf4
  v4 := Tryz.zeroValue4
  t5 := Tryz.underlying5
  a5 := Tryz.isAgg5
  z5 := Tryz.sizeOf5
  v5 := Tryz.zeroValue5
  t9 := Tryz.underlying9
  a9 := Tryz.isAgg9
  z9 := Tryz.sizeOf9
  v9 := Tryz.zeroValue9
  t46 := Tryz.underlying165
  a46 := Tryz.isAgg165
  z46 := Tryz.sizeOf165
  v46 := Tryz.zeroValue165
  t51 := Tryz.underlying210
  a51 := Tryz.isAgg210
  z51 := Tryz.sizeOf210
  v51 := Tryz.zeroValue210
  t146 := Tryz.underlying263
  a146 := Tryz.isAgg263
  z146 := Tryz.sizeOf263
  v146 := Tryz.zeroValue263 }
open Go.RowKit Go.Lib in
theorem Tryz.strings_LastIndex_one (s sub : ByteArray) (h1 : sub.size = 1) (hs : s.size < 4611686018427387904) (w : World) :
    Calls Tryz.prog 188 #[.string s, .string sub] w fun e w' => e = .returned (.int .i64 (Lib.lastIndexByte s ((sub[0]'(by omega)).toNat : Int))) ∧ w' = w := Any.strings_LastIndex_one Tryz.lays148 s sub h1 hs w
def Tryz.lays221_ren : Go.Shelf.Ren := ⟨fun | 221 => 241 | 268 => 257 | 138 => 258 | 143 => 259 | 195 => 268 | 197 => 269 | 218 => 270 | 219 => 271 | 260 => 274 | 217 => 275 | 225 => 276 | 224 => 277 | 267 => 278 | 266 => 280 | 314 => 281 | n => n, fun | 9 => 9 | 3 => 3 | 31 => 42 | 4 => 4 | 0 => 0 | 105 => 275 | 21 => 21 | 5 => 5 | 46 => 165 | 119 => 278 | 139 => 281 | 138 => 280 | 146 => 263 | 51 => 210 | n => n, fun | 1 => 0 | 3 => 1 | 4 => 2 | n => n⟩
def Tryz.lays146_ren : Go.Shelf.Ren := ⟨fun | 146 => 212 | 221 => 241 | 268 => 257 | 138 => 258 | 143 => 259 | 195 => 268 | 197 => 269 | 218 => 270 | 219 => 271 | 260 => 274 | 217 => 275 | 225 => 276 | 224 => 277 | 267 => 278 | 266 => 280 | 314 => 281 | n => n, fun | 9 => 9 | 31 => 42 | 3 => 3 | 4 => 4 | 0 => 0 | 105 => 275 | 21 => 21 | 5 => 5 | 46 => 165 | 119 => 278 | 139 => 281 | 138 => 280 | 146 => 263 | 51 => 210 | n => n, fun | 1 => 0 | 3 => 1 | 4 => 2 | n => n⟩
theorem Tryz.lays146 : Go.Proofs.Lays.n146 Tryz.prog Tryz.lays146_ren := {
  mixed := by kernel_rfl
  f138 := Tryz.func258.trans (congrArg some (by kernel_rfl))
  f143 := Tryz.func259.trans (congrArg some (by kernel_rfl))
  f146 := Tryz.func212.trans (congrArg some (by kernel_rfl))
  f195 := Tryz.func268.trans (congrArg some (by kernel_rfl))
  f197 := Tryz.func269.trans (congrArg some (by kernel_rfl))
  f217 := Tryz.func275.trans (congrArg some (by kernel_rfl))
  f218 := Tryz.func270.trans (congrArg some (by kernel_rfl))
  f219 := Tryz.func271.trans (congrArg some (by kernel_rfl))
  f221 := Tryz.func241.trans (congrArg some (by kernel_rfl))
  f224 := Tryz.func277.trans (congrArg some (by kernel_rfl))
  f225 := Tryz.func276.trans (congrArg some (by kernel_rfl))
  f260 := Tryz.func274.trans (congrArg some (by kernel_rfl))
  f266 := Tryz.func280.trans (congrArg some (by kernel_rfl))
  f267 := Tryz.func278.trans (congrArg some (by kernel_rfl))
  f268 := Tryz.func257.trans (congrArg some (by kernel_rfl))
  f314 := Tryz.func281.trans (congrArg some (by kernel_rfl))
  t0 := Tryz.underlying0
  a0 := Tryz.isAgg0
  z0 := Tryz.sizeOf0
  v0 := Tryz.zeroValue0
  t3 := Tryz.underlying3
  a3 := Tryz.isAgg3
  z3 := Tryz.sizeOf3
  v3 := Tryz.zeroValue3
  t4 := Tryz.underlying4
  a4 := Tryz.isAgg4
  z4 := Tryz.sizeOf4
  v4 := Tryz.zeroValue4
  t5 := Tryz.underlying5
  a5 := Tryz.isAgg5
  z5 := Tryz.sizeOf5
  v5 := Tryz.zeroValue5
  t9 := Tryz.underlying9
  a9 := Tryz.isAgg9
  z9 := Tryz.sizeOf9
  v9 := Tryz.zeroValue9
  t21 := Tryz.underlying21
  a21 := Tryz.isAgg21
  z21 := Tryz.sizeOf21
  v21 := Tryz.zeroValue21
  t31 := Tryz.underlying42
  a31 := Tryz.isAgg42
  z31 := Tryz.sizeOf42
  v31 := Tryz.zeroValue42
  t46 := Tryz.underlying165
  a46 := Tryz.isAgg165
  z46 := Tryz.sizeOf165
  v46 := Tryz.zeroValue165
  t51 := Tryz.underlying210
  a51 := Tryz.isAgg210
  z51 := Tryz.sizeOf210
  v51 := Tryz.zeroValue210
  t105 := Tryz.underlying275
  a105 := Tryz.isAgg275
  z105 := Tryz.sizeOf275
  v105 := Tryz.zeroValue275
  t119 := Tryz.underlying278
  a119 := Tryz.isAgg278
  z119 := Tryz.sizeOf278
  t138 := Tryz.underlying280
  a138 := Tryz.isAgg280
  z138 := Tryz.sizeOf280
  v138 := Tryz.zeroValue280
  t139 := Tryz.underlying281
  a139 := Tryz.isAgg281
  z139 := Tryz.sizeOf281
  v139 := Tryz.zeroValue281
  t146 := Tryz.underlying263
  a146 := Tryz.isAgg263
  z146 := Tryz.sizeOf263
  v146 := Tryz.zeroValue263
  g1 := by kernel_rfl
  g3 := by kernel_rfl
  g4 := by kernel_rfl }
open Go.RowKit Go.Lib in
theorem Tryz.strings_Split (s sep : ByteArray) (m : Int) (w : World) (hs : s.size < 4294967281) (hm : w.cell? ⟨0, 0, none⟩ = some (.int .i64 m)) (h1 : 1 ≤ sep.size) :
    Calls Tryz.prog 212 #[.string s, .string sep] w fun e w' =>
      e = .returned (.slice (some ⟨w.heap.size, 0, none⟩) (Lib.countB s sep + 1) (Lib.countB s sep + 1)) ∧ w' = w.alloc (.cells ((Lib.splitB sep 0 (Lib.countB s sep) s).map Value.string).toArray 9) := Any.strings_Split Tryz.lays146 (by kernel_rfl) s sep m w hs hm h1
open Go.RowKit Go.Sort in
theorem Tryz.slices_Sort_int_none (p : Option Addr) (cap : Nat) (w : World) :
    Calls Tryz.prog 179 #[.slice p 0 cap] w fun e w' => e = .returned (.tuple #[]) ∧ w' = w := Any.slices_Sort_int_none Tryz.lays189 p cap w
end Go.Proofs
namespace Go.Mp
open Go Go.Proofs
theorem pCells_map {α : Type} {f : α → Value} {g : α → Pred} {S : Store} (h1 : ∀ x, (f x).oneCell' = true) (h2 : ∀ x, (g x).holds (f x) S) (xs : List α) : pCells (xs.map f).toArray 0 (xs.map g) S := fun j p hp => by
  rw [List.getElem?_map] at hp
  obtain ⟨x, hx, rfl⟩ := Option.map_eq_some_iff.1 hp
  exact ⟨f x, by simp [hx], h1 x, h2 x⟩
theorem s_Contains (s t : ByteArray) (hs : s.size < 4294967281) : Fn Tryz.prog 262 [pS s, pS t] (pB (Lib.contains s.data.toList t.data.toList)) :=
  Fn.ofStill fun vs S W m hm hS hv => by
    match vs, hv with
    | [v, u], hv =>
      obtain ⟨h1, h2, _⟩ := hv
      have h1 : v = .string s := h1
      have h2 : u = .string t := h2
      subst h1 h2
      exact ⟨_, rfl, Tryz.strings_Contains s t m W hs hm⟩
theorem s_CutPrefix (s t : ByteArray) : Fn Tryz.prog 242 [pS s, pS t] (pTup [pS ⟨(Lib.trimPrefix s.data.toList t.data.toList).toArray⟩, pB (Lib.hasPrefix s.data.toList t.data.toList)]) :=
  Fn.ofStill fun vs S W m hm hS hv => by
    match vs, hv with
    | [v, u], hv =>
      obtain ⟨h1, h2, _⟩ := hv
      have h1 : v = .string s := h1
      have h2 : u = .string t := h2
      subst h1 h2
      refine ⟨_, ?_, Tryz.strings_CutPrefix s t W⟩
      refine ⟨_, rfl, rfl, fun j p hp => ?_⟩
      match j, hp with
      | 0, hp => simp at hp; subst hp; exact ⟨_, rfl, rfl⟩
      | 1, hp => simp at hp; subst hp; exact ⟨_, rfl, rfl⟩
      | j + 2, hp => simp at hp
theorem flat_strs (l : List ByteArray) : flat l = l.map pS := by
  induction l with
  | nil => rfl
  | cons a l ih => show Enc.cells a ++ flat l = _; rw [ih]; rfl
theorem s_Split (s t : ByteArray) (hs : s.size < 4294967281) (h1 : 1 ≤ t.size) : Fn Tryz.prog 212 [pS s, pS t] (pSl (Lib.splitB t 0 (Lib.countB s t) s)) :=
  Fn.ofBelow fun vs S W m hm hS hv => by
    match vs, hv with
    | [v, u], hv =>
      obtain ⟨g1, g2, _⟩ := hv
      have g1 : v = .string s := g1
      have g2 : u = .string t := g2
      subst g1 g2
      refine (Tryz.strings_Split s t m W hs hm h1).mono ?_
      rintro e W' ⟨rfl, rfl⟩
      have hl : (Lib.splitB t 0 (Lib.countB s t) s).length = Lib.countB s t + 1 := Lib.splitB_all t h1 0 _ s rfl
      have hc := Lib.countB_le t h1 s.size s (Nat.le_refl _)
      refine ⟨_, rfl, rfl, rfl, rfl, ?_, fun b hb => ?_, fun S' hle hnew => ?_⟩
      · show _ ≤ (W.heap.push _).size
        simp
      · show (W.heap.push _)[b]? = _
        rw [Array.getElem?_push_lt hb]; simp [hb]
      · refine ⟨_, _, by rw [hl], by rw [hl]; exact Nat.le_refl _, by omega, .inr ⟨_, _, _, _, _, rfl, hnew _ _ (Nat.le_refl _) (heap_push_new _), ?_⟩⟩
        rw [flat_strs]
        exact pCells_map (fun _ => rfl) (fun _ => rfl) _
theorem s_Slash (s : ByteArray) (hs : s.size < 4611686018427387904) : Fn Tryz.prog 188 [pS s, pS ⟨#[47]⟩] (pI (slash s)) :=
  Fn.ofStill fun vs S W m hm hS hv => by
    match vs, hv with
    | [v, u], hv =>
      obtain ⟨h1, h2, _⟩ := hv
      have h1 : v = .string s := h1
      have h2 : u = .string ⟨#[47]⟩ := h2
      subst h1 h2
      exact ⟨_, rfl, Tryz.strings_LastIndex_one s ⟨#[47]⟩ rfl hs W⟩
theorem s_CutV (s : ByteArray) : Fn Tryz.prog 242 [pS s, pS ⟨#[118]⟩] (pTup [pS (cutV s), pB (hasV s)]) := s_CutPrefix s ⟨#[118]⟩
theorem s_Parts (s : ByteArray) (hs : s.size < 4294967281) : Fn Tryz.prog 212 [pS s, pS ⟨#[47]⟩] (pSl (partsOf s)) := s_Split s ⟨#[47]⟩ hs (by decide)
end Go.Mp
set_option maxRecDepth 100000
set_option maxHeartbeats 4000000
set_option linter.unusedVariables false
set_option linter.unusedSimpArgs false
namespace Go.Mp
open Go Go.Proofs
theorem s_small (c : Int) : Fn Tryz.prog 217 [pK .u8 c] (pB (isSmall c)) := by
  refine Spec.mk Tryz.func217 rfl rfl fun B => ?_
  refine TrC.seq ?_
  refine TrC.region rfl ?_
  refine L rfl rfl (PStep.assign rfl Lk.c) ?_
  refine TrL.nil ?_
  refine TrE.seq ?_
  refine TrC.seq ?_
  refine TrC.region rfl ?_
  refine L rfl rfl (PStep.move rfl (Lk.t rfl)) ?_
  refine L rfl rfl (PStep.geq rfl (Lk.t rfl) Lk.c) ?_
  refine L rfl rfl (PStep.move rfl (Lk.t rfl)) ?_
  refine LW rfl (WStep.guard rfl rfl rfl rfl (fun hg => PStep.move rfl (Lk.t rfl))) ?_
  refine LW rfl (WStep.guard rfl rfl rfl rfl (fun hg => PStep.leq rfl (Lk.g rfl hg) Lk.c)) ?_
  refine L rfl rfl (PStep.pickAnd rfl (Lk.t rfl) (fun hq => Lk.g rfl hq)) ?_
  refine L rfl rfl (PStep.assign rfl (Lk.t rfl)) ?_
  refine TrL.nil ?_
  refine TrE.seq ?_
  refine TrC.ret (?_)
  refine TrE.retOK (RetOK.eq (?_ : _ = _) (RetOK.tmp rfl (Lk.t rfl) (List.nil_sublist _)))
  rfl
theorem s_capital (c : Int) : Fn Tryz.prog 261 [pK .u8 c] (pB (isCapital c)) := by
  refine Spec.mk Tryz.func261 rfl rfl fun B => ?_
  refine TrC.seq ?_
  refine TrC.region rfl ?_
  refine L rfl rfl (PStep.assign rfl Lk.c) ?_
  refine TrL.nil ?_
  refine TrE.seq ?_
  refine TrC.seq ?_
  refine TrC.region rfl ?_
  refine L rfl rfl (PStep.move rfl (Lk.t rfl)) ?_
  refine L rfl rfl (PStep.geq rfl (Lk.t rfl) Lk.c) ?_
  refine L rfl rfl (PStep.move rfl (Lk.t rfl)) ?_
  refine LW rfl (WStep.guard rfl rfl rfl rfl (fun hg => PStep.move rfl (Lk.t rfl))) ?_
  refine LW rfl (WStep.guard rfl rfl rfl rfl (fun hg => PStep.leq rfl (Lk.g rfl hg) Lk.c)) ?_
  refine L rfl rfl (PStep.pickAnd rfl (Lk.t rfl) (fun hq => Lk.g rfl hq)) ?_
  refine L rfl rfl (PStep.assign rfl (Lk.t rfl)) ?_
  refine TrL.nil ?_
  refine TrE.seq ?_
  refine TrC.ret (?_)
  refine TrE.retOK (RetOK.eq (?_ : _ = _) (RetOK.tmp rfl (Lk.t rfl) (List.nil_sublist _)))
  rfl
theorem s_digit (c : Int) : Fn Tryz.prog 218 [pK .u8 c] (pB (isDigit c)) := by
  refine Spec.mk Tryz.func218 rfl rfl fun B => ?_
  refine TrC.seq ?_
  refine TrC.region rfl ?_
  refine L rfl rfl (PStep.assign rfl Lk.c) ?_
  refine TrL.nil ?_
  refine TrE.seq ?_
  refine TrC.seq ?_
  refine TrC.region rfl ?_
  refine L rfl rfl (PStep.move rfl (Lk.t rfl)) ?_
  refine L rfl rfl (PStep.geq rfl (Lk.t rfl) Lk.c) ?_
  refine L rfl rfl (PStep.move rfl (Lk.t rfl)) ?_
  refine LW rfl (WStep.guard rfl rfl rfl rfl (fun hg => PStep.move rfl (Lk.t rfl))) ?_
  refine LW rfl (WStep.guard rfl rfl rfl rfl (fun hg => PStep.leq rfl (Lk.g rfl hg) Lk.c)) ?_
  refine L rfl rfl (PStep.pickAnd rfl (Lk.t rfl) (fun hq => Lk.g rfl hq)) ?_
  refine L rfl rfl (PStep.assign rfl (Lk.t rfl)) ?_
  refine TrL.nil ?_
  refine TrE.seq ?_
  refine TrC.ret (?_)
  refine TrE.retOK (RetOK.eq (?_ : _ = _) (RetOK.tmp rfl (Lk.t rfl) (List.nil_sublist _)))
  rfl
theorem s_word (c : Int) : Fn Tryz.prog 243 [pK .u8 c] (pB (isWord c)) := by
  refine Spec.mk Tryz.func243 rfl rfl fun B => ?_
  refine TrC.seq ?_
  refine TrC.region rfl ?_
  refine L rfl rfl (PStep.assign rfl Lk.c) ?_
  refine TrL.nil ?_
  refine TrE.seq ?_
  refine TrC.seq ?_
  refine TrC.region rfl ?_
  refine L rfl rfl (PStep.move rfl (Lk.t rfl)) ?_
  refine L rfl rfl (PStep.call (s_small _) Tryz.call217 rfl (LkAll.cons (Lk.t rfl) LkAll.nil)) ?_
  refine L rfl rfl (PStep.move rfl (Lk.t rfl)) ?_
  refine LW rfl (WStep.guard rfl rfl rfl rfl (fun hg => PStep.move rfl (Lk.t rfl))) ?_
  refine LW rfl (WStep.guard rfl rfl rfl rfl (fun hg => PStep.call (s_capital _) Tryz.call261 rfl (LkAll.cons (Lk.g rfl hg) LkAll.nil))) ?_
  refine L rfl rfl (PStep.pickOr rfl (Lk.t rfl) (fun hq => Lk.g rfl hq)) ?_
  refine L rfl rfl (PStep.move rfl (Lk.t rfl)) ?_
  refine LW rfl (WStep.guard rfl rfl rfl rfl (fun hg => PStep.move rfl (Lk.t rfl))) ?_
  refine LW rfl (WStep.guard rfl rfl rfl rfl (fun hg => PStep.call (s_digit _) Tryz.call218 rfl (LkAll.cons (Lk.g rfl hg) LkAll.nil))) ?_
  refine L rfl rfl (PStep.pickOr rfl (Lk.t rfl) (fun hq => Lk.g rfl hq)) ?_
  refine L rfl rfl (PStep.move rfl (Lk.t rfl)) ?_
  refine LW rfl (WStep.guard rfl rfl rfl rfl (fun hg => PStep.move rfl (Lk.t rfl))) ?_
  refine LW rfl (WStep.guard rfl rfl rfl rfl (fun hg => PStep.eql rfl (Lk.g rfl hg) Lk.c)) ?_
  refine L rfl rfl (PStep.pickOr rfl (Lk.t rfl) (fun hq => Lk.g rfl hq)) ?_
  refine L rfl rfl (PStep.assign rfl (Lk.t rfl)) ?_
  refine TrL.nil ?_
  refine TrE.seq ?_
  refine TrC.ret (?_)
  refine TrE.retOK (RetOK.eq (?_ : _ = _) (RetOK.tmp rfl (Lk.t rfl) (List.nil_sublist _)))
  rfl
theorem s_Major1 (c : Int) : Fn Tryz.prog 216 [pK .u8 c] (pB (smallDigit c)) := by
  refine Spec.mk Tryz.func216 rfl rfl fun B => ?_
  refine TrC.seq ?_
  refine TrC.region rfl ?_
  refine L rfl rfl (PStep.assign rfl Lk.c) ?_
  refine TrL.nil ?_
  refine TrE.seq ?_
  refine TrC.seq ?_
  refine TrC.region rfl ?_
  refine L rfl rfl (PStep.move rfl (Lk.t rfl)) ?_
  refine L rfl rfl (PStep.call (s_small _) Tryz.call217 rfl (LkAll.cons (Lk.t rfl) LkAll.nil)) ?_
  refine L rfl rfl (PStep.move rfl (Lk.t rfl)) ?_
  refine LW rfl (WStep.guard rfl rfl rfl rfl (fun hg => PStep.move rfl (Lk.t rfl))) ?_
  refine LW rfl (WStep.guard rfl rfl rfl rfl (fun hg => PStep.call (s_digit _) Tryz.call218 rfl (LkAll.cons (Lk.g rfl hg) LkAll.nil))) ?_
  refine L rfl rfl (PStep.pickOr rfl (Lk.t rfl) (fun hq => Lk.g rfl hq)) ?_
  refine L rfl rfl (PStep.assign rfl (Lk.t rfl)) ?_
  refine TrL.nil ?_
  refine TrE.seq ?_
  refine TrC.ret (?_)
  refine TrE.retOK (RetOK.eq (?_ : _ = _) (RetOK.tmp rfl (Lk.t rfl) (List.nil_sublist _)))
  rfl
theorem s_all (s : ByteArray) (f : Int → Bool) (hs : s.size ≤ 9223372036854775807) : Fn Tryz.prog 215 [pS s, pFun Tryz.prog (fun c : Int => [pK .u8 c]) (fun c => pB (f c))] (pB (allB s f)) := by
  refine Spec.mk Tryz.func215 rfl rfl fun B => ?_
  refine TrC.seq ?_
  refine TrC.region rfl ?_
  refine L rfl rfl (PStep.assign rfl Lk.c) ?_
  refine TrL.nil ?_
  refine TrE.seq ?_
  refine TrC.seq ?_
  refine TrC.seq ?_
  refine TrC.region rfl ?_
  refine L rfl rfl (PStep.move rfl (Lk.t rfl)) ?_
  refine L rfl rfl (PStep.slen Tryz.runUnderlying9 rfl (Lk.t rfl)) ?_
  refine L rfl rfl (PStep.move rfl Lk.c) ?_
  refine TrL.nil ?_
  refine TrE.seq ?_
  refine TrC.block ?_
  refine TrC.loopM (X := Nat) (fun i => i ≤ s.size ∧ ((bytesOf s).drop i).all f = allB s f) (fun i => [(8, pI i)]) [(0, _), (1, _), (4, _), (7, _)] (fun i A => A) (fun i => s.size - i) (0) (⟨by omega, rfl⟩) (EnvSub.cons rfl (EnvSub.cons rfl (EnvSub.cons rfl (EnvSub.cons rfl (EnvSub.cons rfl EnvSub.nil))))) rfl ?_
  rintro i ⟨hi, hI⟩
  refine TrC.seq ?_
  refine TrC.region rfl ?_
  refine L rfl rfl (PStep.lss rfl (Lk.t rfl) (Lk.t rfl)) ?_
  refine TrL.nil ?_
  refine TrE.seq ?_
  refine TrC.seq ?_
  refine TrC.condD (Lk.t rfl) (fun hc1 => ?_) (fun hc1 => ?_)
  · refine TrC.skip ?_
    refine TrE.seq ?_
    refine TrC.seq ?_
    refine TrC.block ?_
    refine TrC.seq ?_
    refine TrC.region rfl ?_
    refine L rfl rfl (PStep.move rfl (Lk.t rfl)) ?_
    refine L rfl rfl (PStep.assign rfl (Lk.t rfl)) ?_
    refine TrL.nil ?_
    refine TrE.seq ?_
    refine TrC.seq ?_
    refine TrC.region rfl ?_
    refine L rfl rfl (PStep.move rfl (Lk.t rfl)) ?_
    refine L rfl rfl (PStep.move rfl (Lk.t rfl)) ?_
    refine L rfl rfl (PStep.move rfl (Lk.t rfl)) ?_
    refine L rfl rfl (PStep.sindex Tryz.runUnderlying9 rfl (Lk.t rfl) (Lk.t rfl) (by omega)) ?_
    refine L rfl rfl (PStep.callV _ rfl (Lk.t rfl) (LkAll.cons (Lk.t rfl) LkAll.nil)) ?_
    refine L rfl rfl (PStep.not rfl (Lk.t rfl)) ?_
    refine TrL.nil ?_
    refine TrE.seq ?_
    refine TrC.condB (Lk.t rfl) (fun hc2 => ?_) (fun hc2 => ?_)
    · have hs2 := hc2
      try simp only [decide_eq_true_eq, decide_eq_false_iff_not, Bool.and_eq_true, Bool.or_eq_true, Bool.not_eq_true', Bool.not_eq_false', Bool.and_eq_false_iff, Bool.or_eq_false_iff] at hs2
      refine TrC.seq ?_
      refine TrC.region rfl ?_
      refine L rfl rfl (PStep.assign rfl Lk.c) ?_
      refine TrL.nil ?_
      refine TrE.seq ?_
      refine TrC.ret (TrE.blockR <| TrE.thenR <| TrE.thenR <| TrE.blockR <| TrE.thenR <| ?_)
      refine TrE.retOK (RetOK.eq (?_ : _ = _) (RetOK.tmp rfl (Lk.t rfl) (List.nil_sublist _)))
      exact congrArg pB (all_hit (by rw [bytes_len]; exact hc1) (by rw [bytes_ix _ _ hc1]; simpa using hc2) hI).symm
    · have hs2 := hc2
      try simp only [decide_eq_true_eq, decide_eq_false_iff_not, Bool.and_eq_true, Bool.or_eq_true, Bool.not_eq_true', Bool.not_eq_false', Bool.and_eq_false_iff, Bool.or_eq_false_iff] at hs2
      refine TrC.skip ?_
      refine TrE.blockN ?_
      refine TrE.seq ?_
      refine TrC.region rfl ?_
      refine L rfl rfl (PStep.add64 rfl (Lk.t rfl) Lk.c (by omega)) ?_
      refine L rfl rfl (PStep.move rfl (Lk.t rfl)) ?_
      refine TrL.nil ?_
      refine TrE.again (i + 1) (⟨by omega, all_step (by rw [bytes_len]; exact hc1) (by rw [bytes_ix _ _ hc1]; simpa using hc2) hI⟩) (by first | omega | (simp only []; omega)) (EnvSub.cons rfl (EnvSub.cons rfl (EnvSub.cons rfl (EnvSub.cons rfl (EnvSub.cons rfl EnvSub.nil))))) rfl
  · refine TrC.exit (TrE.thenX <| TrE.thenX <| TrE.blockHit <| ?_)
    refine TrE.seq ?_
    refine TrC.seq ?_
    refine TrC.region rfl ?_
    refine L rfl rfl (PStep.assign rfl Lk.c) ?_
    refine TrL.nil ?_
    refine TrE.seq ?_
    refine TrC.ret (?_)
    refine TrE.retOK (RetOK.eq (?_ : _ = _) (RetOK.tmp rfl (Lk.t rfl) (List.nil_sublist _)))
    exact congrArg pB (all_end (by rw [bytes_len]; exact hc1) hI).symm
theorem s_lexVersion (s : ByteArray) : Fn Tryz.prog 213 [pS s] (pTup [pI (lexVersion s).1, pB (lexVersion s).2]) := by
  refine Spec.mk Tryz.func213 rfl rfl fun B => ?_
  refine TrC.seq ?_
  refine TrC.region rfl ?_
  refine L rfl rfl (PStep.assign rfl Lk.c) ?_
  refine L rfl rfl (PStep.assign rfl Lk.c) ?_
  refine TrL.nil ?_
  refine TrE.seq ?_
  refine TrC.seq ?_
  refine TrC.region rfl ?_
  refine L rfl rfl (PStep.move rfl (Lk.t rfl)) ?_
  refine L rfl rfl (PStep.call (s_CutV s) Tryz.call242 rfl (LkAll.cons (Lk.t rfl) (LkAll.cons Lk.c LkAll.nil))) ?_
  refine L rfl rfl (PStep.move rfl (Lk.t rfl)) ?_
  refine L rfl rfl (PStep.extract rfl (Lk.t rfl) rfl) ?_
  refine L rfl rfl (PStep.extract rfl (Lk.t rfl) rfl) ?_
  refine L rfl rfl (PStep.assign rfl (Lk.t rfl)) ?_
  refine L rfl rfl (PStep.assign rfl (Lk.t rfl)) ?_
  refine TrL.nil ?_
  refine TrE.seq ?_
  refine TrC.seq ?_
  refine TrC.seq ?_
  refine TrC.region rfl ?_
  refine L rfl rfl (PStep.move rfl (Lk.t rfl)) ?_
  refine L rfl rfl (PStep.not rfl (Lk.t rfl)) ?_
  refine L rfl rfl (PStep.move rfl (Lk.t rfl)) ?_
  refine LW rfl (WStep.guard rfl rfl rfl rfl (fun hg => PStep.move rfl (Lk.t rfl))) ?_
  refine LW rfl (WStep.guard rfl rfl rfl rfl (fun hg => PStep.seql rfl (Lk.g rfl hg) Lk.c)) ?_
  refine L rfl rfl (PStep.pickOr rfl (Lk.t rfl) (fun hq => Lk.g rfl hq)) ?_
  refine L rfl rfl (PStep.move rfl (Lk.t rfl)) ?_
  refine LW rfl (WStep.guard rfl rfl rfl rfl (fun hg => PStep.move rfl (Lk.t rfl))) ?_
  refine LW rfl (WStep.guard rfl rfl rfl rfl (fun hg => PStep.slen Tryz.runUnderlying9 rfl (Lk.g rfl hg))) ?_
  refine LW rfl (WStep.guard rfl rfl rfl rfl (fun hg => PStep.gtr rfl (Lk.g rfl hg) Lk.c)) ?_
  refine L rfl rfl (PStep.pickOr rfl (Lk.t rfl) (fun hq => Lk.g rfl hq)) ?_
  refine L rfl rfl (PStep.move rfl (Lk.t rfl)) ?_
  refine LW rfl (WStep.guard rfl rfl rfl rfl (fun hg => PStep.move rfl (Lk.t rfl))) ?_
  refine LW rfl (WStep.guard rfl rfl rfl rfl (fun hg => PStep.slen Tryz.runUnderlying9 rfl (Lk.g rfl hg))) ?_
  refine LW rfl (WStep.guard rfl rfl rfl rfl (fun hg => PStep.gtr rfl (Lk.g rfl hg) Lk.c)) ?_
  refine LW rfl (WStep.guard rfl rfl rfl rfl (fun hg => PStep.move rfl (Lk.g rfl hg))) ?_
  refine LW rfl (WStep.guard2 rfl rfl rfl rfl (fun hg => PStep.move rfl (Lk.t rfl))) ?_
  refine LW rfl (WStep.guard2 rfl rfl rfl rfl (fun hg => PStep.sindex Tryz.runUnderlying9 rfl (Lk.g rfl hg) Lk.c (by have hg_ := hg; (try simp only [decide_eq_true_eq, decide_eq_false_iff_not, Bool.and_eq_true, Bool.or_eq_true, Bool.not_eq_true', Bool.not_eq_false', Bool.and_eq_false_iff, Bool.or_eq_false_iff] at hg_); omega))) ?_
  refine LW rfl (WStep.guard2 rfl rfl rfl rfl (fun hg => PStep.eql rfl (Lk.g rfl hg) Lk.c)) ?_
  refine LW rfl (WStep.guard rfl rfl rfl rfl (fun hg => PStep.pickAnd rfl (Lk.g rfl hg) (fun hq => Lk.g rfl ⟨hg, hq⟩))) ?_
  refine L rfl rfl (PStep.pickOr rfl (Lk.t rfl) (fun hq => Lk.g rfl hq)) ?_
  refine L rfl rfl (PStep.move rfl (Lk.t rfl)) ?_
  refine LW rfl (WStep.guard rfl rfl rfl rfl (fun hg => PStep.move rfl (Lk.t rfl))) ?_
  refine LW rfl (WStep.guard rfl rfl rfl rfl (fun hg => PStep.call (s_all _ _ (by have hg_ := hg; (try simp only [decide_eq_true_eq, decide_eq_false_iff_not, Bool.and_eq_true, Bool.or_eq_true, Bool.not_eq_true', Bool.not_eq_false', Bool.and_eq_false_iff, Bool.or_eq_false_iff] at hg_); omega)) Tryz.call215 rfl (LkAll.cons (Lk.g rfl hg) (LkAll.cons (Lk.fn (fun x => s_digit x) Tryz.call218) LkAll.nil)))) ?_
  refine LW rfl (WStep.guard rfl rfl rfl rfl (fun hg => PStep.not rfl (Lk.g rfl hg))) ?_
  refine L rfl rfl (PStep.pickOr rfl (Lk.t rfl) (fun hq => Lk.g rfl hq)) ?_
  refine TrL.nil ?_
  refine TrE.seq ?_
  refine TrC.condB (Lk.t rfl) (fun hc1 => ?_) (fun hc1 => ?_)
  · have hs1 := hc1
    try simp only [decide_eq_true_eq, decide_eq_false_iff_not, Bool.and_eq_true, Bool.or_eq_true, Bool.not_eq_true', Bool.not_eq_false', Bool.and_eq_false_iff, Bool.or_eq_false_iff] at hs1
    refine TrC.seq ?_
    refine TrC.region rfl ?_
    refine L rfl rfl (PStep.assign rfl Lk.c) ?_
    refine L rfl rfl (PStep.assign rfl Lk.c) ?_
    refine TrL.nil ?_
    refine TrE.seq ?_
    refine TrC.ret (TrE.thenR <| ?_)
    refine TrE.retOK (RetOK.eq (?_ : _ = _) (RetOK.tmp2 rfl (Lk.t rfl) (Lk.t rfl) (List.nil_sublist _)))
    rw [show lexVersion s = (0, false) from if_pos hc1]
    all_goals rfl
  · have hs1 := hc1
    try simp only [decide_eq_true_eq, decide_eq_false_iff_not, Bool.and_eq_true, Bool.or_eq_true, Bool.not_eq_true', Bool.not_eq_false', Bool.and_eq_false_iff, Bool.or_eq_false_iff] at hs1
    refine TrC.skip ?_
    refine TrE.seq ?_
    refine TrC.seq ?_
    refine TrC.region rfl ?_
    refine L rfl rfl (PStep.assign rfl Lk.c) ?_
    refine TrL.nil ?_
    refine TrE.seq ?_
    refine TrC.seq ?_
    refine TrC.seq ?_
    refine TrC.region rfl ?_
    refine L rfl rfl (PStep.move rfl (Lk.t rfl)) ?_
    refine L rfl rfl (PStep.slen Tryz.runUnderlying9 rfl (Lk.t rfl)) ?_
    refine L rfl rfl (PStep.move rfl Lk.c) ?_
    refine TrL.nil ?_
    refine TrE.seq ?_
    refine TrC.block ?_
    have hz : (cutV s).size ≤ 3 := by simp only [Bool.or_eq_false_iff, decide_eq_false_iff_not] at hc1; omega
    refine TrC.loopM (X := Nat × Int) (fun ⟨i, n⟩ => i ≤ (cutV s).size ∧ ((bytesOf (cutV s)).drop i).foldl digitStep n = digitsB (cutV s)) (fun ⟨i, n⟩ => [(40, pI i), (5, pI n)]) [(0, _), (2, _), (3, _), (39, _)] (fun ⟨i, n⟩ A => A) (fun ⟨i, n⟩ => (cutV s).size - i) ((0, 0)) (⟨by omega, rfl⟩) (EnvSub.cons rfl (EnvSub.cons rfl (EnvSub.cons rfl (EnvSub.cons rfl (EnvSub.cons rfl (EnvSub.cons rfl EnvSub.nil)))))) rfl ?_
    rintro ⟨i, n⟩ ⟨hi, hI⟩
    refine TrC.seq ?_
    refine TrC.region rfl ?_
    refine L rfl rfl (PStep.lss rfl (Lk.t rfl) (Lk.t rfl)) ?_
    refine TrL.nil ?_
    refine TrE.seq ?_
    refine TrC.seq ?_
    refine TrC.condD (Lk.t rfl) (fun hc2 => ?_) (fun hc2 => ?_)
    · refine TrC.skip ?_
      refine TrE.seq ?_
      refine TrC.seq ?_
      refine TrC.block ?_
      refine TrC.seq ?_
      refine TrC.region rfl ?_
      refine L rfl rfl (PStep.move rfl (Lk.t rfl)) ?_
      refine L rfl rfl (PStep.assign rfl (Lk.t rfl)) ?_
      refine TrL.nil ?_
      refine TrE.seq ?_
      refine TrC.region rfl ?_
      refine L rfl rfl (PStep.move rfl (Lk.t rfl)) ?_
      refine L rfl rfl (PStep.mul rfl Lk.c (Lk.t rfl) rfl) ?_
      refine L rfl rfl (PStep.move rfl (Lk.t rfl)) ?_
      refine L rfl rfl (PStep.move rfl (Lk.t rfl)) ?_
      refine L rfl rfl (PStep.sindex Tryz.runUnderlying9 rfl (Lk.t rfl) (Lk.t rfl) (by omega)) ?_
      refine L rfl rfl (PStep.sub rfl (Lk.t rfl) Lk.c rfl) ?_
      refine L rfl rfl (PStep.conv Tryz.runUnderlying5 Tryz.runUnderlying3 rfl rfl (Lk.t rfl) rfl) ?_
      refine L rfl rfl (PStep.add rfl (Lk.t rfl) (Lk.t rfl) rfl) ?_
      refine L rfl rfl (PStep.assign rfl (Lk.t rfl)) ?_
      refine TrL.nil ?_
      refine TrE.blockN ?_
      refine TrE.seq ?_
      refine TrC.region rfl ?_
      refine L rfl rfl (PStep.add64 rfl (Lk.t rfl) Lk.c (by omega)) ?_
      refine L rfl rfl (PStep.move rfl (Lk.t rfl)) ?_
      refine TrL.nil ?_
      refine TrE.again ((i + 1, _)) (⟨by omega, by have := fold_step (by rw [bytes_len]; exact hc2) hI; rw [bytes_ix _ _ hc2] at this; exact this⟩) (by first | omega | (simp only []; omega)) (EnvSub.cons rfl (EnvSub.cons rfl (EnvSub.cons rfl (EnvSub.cons rfl (EnvSub.cons rfl (EnvSub.cons rfl EnvSub.nil)))))) rfl
    · refine TrC.exit (TrE.thenX <| TrE.thenX <| TrE.blockHit <| ?_)
      refine TrE.seq ?_
      refine TrC.seq ?_
      refine TrC.region rfl ?_
      refine L rfl rfl (PStep.move rfl (Lk.t rfl)) ?_
      refine L rfl rfl (PStep.assign rfl (Lk.t rfl)) ?_
      refine L rfl rfl (PStep.assign rfl Lk.c) ?_
      refine TrL.nil ?_
      refine TrE.seq ?_
      refine TrC.ret (?_)
      refine TrE.retOK (RetOK.eq (?_ : _ = _) (RetOK.tmp2 rfl (Lk.t rfl) (Lk.t rfl) (List.nil_sublist _)))
      rw [show lexVersion s = (digitsB (cutV s), true) from if_neg (ne_true_of_eq_false hc1), ← fold_end (by rw [bytes_len]; exact hc2) hI]
      all_goals rfl
theorem s_keyword (s : ByteArray) (hs : s.size ≤ 100) : Fn Tryz.prog 244 [pS s] (pB (lexKeyword s)) := by
  refine Spec.mk Tryz.func244 rfl rfl fun B => ?_
  refine TrC.seq ?_
  refine TrC.region rfl ?_
  refine L rfl rfl (PStep.assign rfl Lk.c) ?_
  refine TrL.nil ?_
  refine TrE.seq ?_
  refine TrC.seq ?_
  refine TrC.region rfl ?_
  refine L rfl rfl (PStep.move rfl (Lk.t rfl)) ?_
  refine L rfl rfl (PStep.scat rfl Lk.c (Lk.t rfl) (by simp only [show (⟨#[32]⟩ : ByteArray).size = 1 from rfl]; omega)) ?_
  refine L rfl rfl (PStep.scat rfl (Lk.t rfl) Lk.c (by simp only [ByteArray.size_append, show (⟨#[32]⟩ : ByteArray).size = 1 from rfl]; omega)) ?_
  refine L rfl rfl (PStep.call (s_Contains _ _ (by decide)) Tryz.call262 rfl (LkAll.cons Lk.c (LkAll.cons (Lk.t rfl) LkAll.nil))) ?_
  refine L rfl rfl (PStep.assign rfl (Lk.t rfl)) ?_
  refine TrL.nil ?_
  refine TrE.seq ?_
  refine TrC.ret (?_)
  refine TrE.retOK (RetOK.eq (?_ : _ = _) (RetOK.tmp rfl (Lk.t rfl) (List.nil_sublist _)))
  rfl
end Go.Mp
