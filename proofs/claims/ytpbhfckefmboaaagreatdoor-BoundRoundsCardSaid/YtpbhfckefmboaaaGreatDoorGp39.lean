/- Regions whose order is open: the whole. -/
import Derived.Test.YtpbhfckefmboaaaGreatDoorGp38
set_option linter.unusedVariables false
set_option linter.unusedSimpArgs false
set_option linter.unusedSectionVars false
namespace Go.AE
open Go.RowKit
variable {E : Env} {P : Program} {w0 : World}
theorem wanted_at {σ : Sg} {t : T Value} {a : Act} {ops : Array Oper} {o : Oper} (h : ∀ d ∈ looks ops o, VR σ (tv t d) (a.tmps.getD d undef)) {b : Bool} (hw : wanted ops o t = some b) : Region.wanted o (yielded ops a.tmps) = b := by
  unfold wanted at hw
  unfold Region.wanted
  split at hw
  · rename_i hg
    rw [hg]; cases hw; rfl
  · rename_i j want hg
    rw [hg]
    split at hw
    · rename_i p hp
      have hp' : ops[j]? = some p := by simpa using hp
      split at hw
      · rename_i d hd
        have hv := h d (by simp [looks, hg, hp, hd])
        have hy : yielded ops a.tmps j = match a.tmps[d]? with | some (.bool b) => some b | _ => none := by
          simp [yielded, hp', hd]
          rfl
        simp only [tv] at hv
        split at hw
        · rename_i b' ht
          cases hw
          rw [ht] at hv
          have hb := hv.simple_inv rfl
          have : a.tmps[d]? = some (.bool b') := by
            rcases Nat.lt_or_ge d a.tmps.size with h1 | h1
            · simp [h1] at hb
              rw [Array.getElem?_eq_getElem h1, hb]
            · simp [Nat.not_lt.2 h1, undef] at hb
          simp only [hy, this]
          cases b' <;> cases want <;> rfl
        · rename_i vs ht
          cases hw
          rw [ht] at hv
          obtain ⟨vs', hb, _⟩ := hv.tuple_inv
          have : (match a.tmps[d]? with | some (.bool b) => some b | _ => none) = (none : Option Bool) := by
            rcases Nat.lt_or_ge d a.tmps.size with h1 | h1
            · simp [h1] at hb
              rw [Array.getElem?_eq_getElem h1, hb]
            · rw [Array.getElem?_eq_none h1]
          simp only [hy, this]
          rfl
        · cases hw
      · cases hw
    · cases hw
section
variable {call : CallF} {ops : Array Oper} {B : List Nat} {n N N0 : Nat} {M0 : Mem} {t0 : T Value} {S : Nat → DS} {c : Nat → Cl} {σ0 : Sg} {m0 : Mem} {wst : World} {ds : List Deferred}
theorem read_at (X : Ctx E call ops B n N N0 M0 t0 S c) {D : Nat → Bool} (hD : Down ops D) {i : Nat} {o : Oper} (r : Ready ops B D i o) {v : Value} (hc : c i = .read v) (hcb : checkBack E M0 o (S i).t v (B.getD i 0) (S i).effs = true) :
    evOp E (evalT (S i).t) o (chainOf c M0 D n) = [.val v] := by
  have hi : i < n := by rw [← X.stt.len]; exact getElem?_lt r.op
  have rc := recs X.run i (by rw [X.stt.len]; omega)
  obtain ⟨h1, h2⟩ := checkBack_spec rc.sorted hcb
  have hno : ∀ y ∈ (S i).effs, D y.1 = false → (B.getD i 0).testBit y.1 = false := fun y _ hd => by
    cases hb : (B.getD i 0).testBit y.1 with
    | false => rfl
    | true => rw [r.before _ hb] at hd; cases hd
  apply readsAs_spec
  rcases chain_cases (c := c) (M0 := M0) (D := D) n with ⟨g1, g2⟩ | ⟨e, v', m', g1, g2, g3, g4, g5⟩
  · rw [g2]
    refine h2 (fun y hy => hno y hy ?_)
    obtain ⟨k1, v1, k2⟩ := (rc.effs y.1 y.2).1 hy
    cases hd : D y.1 with
    | false => rfl
    | true => have := g1 y.1 (by omega) hd; rw [k2] at this; cases this
  · rw [g5]
    rcases Nat.lt_or_ge e i with h3 | h3
    · refine h1 (e, m') ((rc.effs e m').2 ⟨h3, v', g3⟩) (fun y hy hlt => hno y hy ?_)
      obtain ⟨k1, v1, k2⟩ := (rc.effs y.1 y.2).1 hy
      cases hd : D y.1 with
      | false => rfl
      | true => have := g4 y.1 (by omega) hlt hd; rw [k2] at this; cases this
    · have hne : i ≠ e := fun h => by subst h; rw [hc] at g3; cases g3
      obtain ⟨oe, hoe⟩ := X.lt g1
      have hcl := X.run.cls e oe hoe
      rw [g3] at hcl
      have rce := recs X.run e (by rw [X.stt.len]; omega)
      have hmem : (i, o, (S i).t, v) ∈ (S e).reads := (rce.reads i o _ v).2 ⟨by omega, r.op, hc, rfl⟩
      rcases (effOK_spec (effOK_of hcl)).2.2 _ hmem with h5 | h5
      · have := X.stt.closed hD e i g2 h5
        rw [r.out] at this; cases this
      · exact h5
/-- the plain chain's memory is part of what is there -/
theorem chain_sub (X : Ctx E call ops B n N N0 M0 t0 S c) {D : Nat → Bool} (hD : Down ops D) : ∀ id q, (chainOf c M0 D n).t.get id = some q → q.live = true → (PM c B n N0 M0 D n).get id = some q := by
  intro id q hq hl
  rw [PM_miss n]
  · exact hq
  · rintro j hj rfl ⟨_, _, g3⟩
    rcases X.chainFresh hD hj with h4 | h4
    · exact g3 h4
    · rw [notLive_spec h4 q hq] at hl; cases hl
theorem cls_skip {S : DS} {o : Oper} {b : Nat} (h : clsD E call ops n N0 M0 S o b = some .skip) : wanted ops o S.t = some false := by
  unfold clsD at h
  split at h
  · cases h
  · rename_i hw; exact hw
  · split at h
    · split at h <;> cases h
    · split at h
      · split at h <;> cases h
      · split at h <;> cases h
      · split at h
        · split at h <;> cases h
        · cases h
      · cases h
theorem cls_pure {S : DS} {o : Oper} {b : Nat} {v : Value} (h : clsD E call ops n N0 M0 S o b = some (.pure v)) : wanted ops o S.t = some true ∧ memFree o.op = true ∧ evOp E (evalT S.t) o M0 = [.val v] := by
  unfold clsD at h
  split at h
  · cases h
  · cases h
  · rename_i hw
    split at h
    · rename_i hf
      split at h
      · rename_i he; cases h; exact ⟨hw, hf, he⟩
      · cases h
      · cases h
    · split at h
      · split at h <;> cases h
      · split at h <;> cases h
      · split at h
        · split at h <;> cases h
        · cases h
      · cases h
theorem cls_read {S : DS} {o : Oper} {b : Nat} {v : Value} (h : clsD E call ops n N0 M0 S o b = some (.read v)) : wanted ops o S.t = some true ∧ checkBack E M0 o S.t v b S.effs = true := by
  unfold clsD at h
  split at h
  · cases h
  · cases h
  · rename_i hw
    split at h
    · split at h <;> cases h
    · split at h
      · split at h
        · rename_i hcb; cases h; exact ⟨hw, hcb⟩
        · cases h
      · split at h <;> cases h
      · split at h
        · split at h <;> cases h
        · cases h
      · cases h
theorem cls_eff {S : DS} {o : Oper} {b : Nat} {v : Value} {m : Mem} (h : clsD E call ops n N0 M0 S o b = some (.eff v m)) : wanted ops o S.t = some true ∧ (evOp E (evalT S.t) o ⟨S.chain.n, addAllocs N0 b S.allocs S.chain.t⟩ = [.eff v m] ∨
    ∃ f args, evOp E (evalT S.t) o ⟨S.chain.n, addAllocs N0 b S.allocs S.chain.t⟩ = [.enter f args] ∧ call f args ⟨S.chain.n, addAllocs N0 b S.allocs S.chain.t⟩ = [(v, m)]) := by
  unfold clsD at h
  split at h
  · cases h
  · cases h
  · rename_i hw
    split at h
    · split at h <;> cases h
    · split at h
      · split at h <;> cases h
      · rename_i he
        split at h
        · cases h; exact ⟨hw, .inl he⟩
        · cases h
      · rename_i f args he
        split at h
        · rename_i hcall
          split at h
          · cases h; exact ⟨hw, .inr ⟨f, args, he, hcall⟩⟩
          · cases h
        · cases h
      · cases h
theorem step_draw (hE : EOK E P) (hcall : CallOK E P w0 call) (X : Ctx E call ops B n N N0 M0 t0 S c) {D : Nat → Bool} (hD : Down ops D) {i : Nat} {o : Oper} (r : Ready ops B D i o) {σ : Sg} {a : Act} {w : World} (I : Inv E w0 ops B n N N0 M0 t0 c σ0 m0 wst ds D σ a w)
    (hm0 : m0.n = N0) {rr : Option Nat} {fl : Nat} {Q : Exit → Act → World → Prop} {K : Act → World → Prop} (hK : ∀ σ' a' w', Inv E w0 ops B n N N0 M0 t0 c σ0 m0 wst ds (addD D i) σ' a' w' → K a' w') : wpOpIn (WF rr) fl P ops Q i K a w := by
  have hcl := X.run.cls i o r.op
  have hl : ∀ d ∈ looks ops o, VR σ (tv (S i).t d) (a.tmps.getD d undef) := fun d hd => by
    rw [← W_looks X.stt hD r X.run hd]; exact I.tr d
  have hρ : ∀ x ∈ o.op.operands, VR σ (evalT (S i).t x) (a.eval x) := by
    intro x hx
    cases x with
    | tmp d => exact hl d (by simp only [looks, List.mem_append]; exact .inl (List.mem_filterMap.2 ⟨.tmp d, Array.mem_toList_iff.2 hx, rfl⟩))
    | const v => exact cst_sound σ v
    | global g => exact .any _
    | func f => exact .func rfl (fun i hi => by simp at hi) rfl (fun i hi => by simp at hi)
  have ho : ops[i]? = some o := by simpa using r.op
  unfold wpOpIn
  simp only [ho]
  have goVal : ∀ {m : Mem} {v : Value}, MR E w0 σ m w → evOp E (evalT (S i).t) o m = [.val v] → wanted ops o (S i).t = some true → (c i).val N0 i = v → (c i).isEff = false → (c i).isAlloc = false →
      (if Region.wanted o (yielded ops a.tmps) = true then o.wpIn (WF rr) fl P a w K Q else (∀ f, o.about P w a.eval = some f → (WF rr).fn f) ∧ K (a.put o.dst undef) w) := by
    intro m v hm he hw hv h1 h2
    rw [if_pos (wanted_at hl hw)]
    obtain ⟨out, hmem, hout⟩ := evOp_at (P := P) hE hm o hρ (by rw [he]; simp)
    rw [he, List.mem_singleton] at hmem
    subst hmem
    refine oper_wp hcall (not_defer (by rw [he]; simp)) hm hout ?_ (fun _ _ h => by cases h) (fun _ _ h => by cases h) (fun _ _ h => by cases h)
    rintro u hu v' g3
    cases hu
    exact hK σ _ w (I.same X hD r h1 h2 (by rw [hv]; exact g3))
  cases hc : c i with
  | skip =>
    rw [hc] at hcl
    have hw := cls_skip hcl
    rw [if_neg (by rw [wanted_at hl hw]; decide)]
    exact ⟨fun _ _ => trivial, hK σ _ w (I.same X hD r (by rw [hc]; rfl) (by rw [hc]; rfl) (by rw [hc]; exact VR.undef σ))⟩
  | pure v =>
    rw [hc] at hcl
    obtain ⟨hw, hf, he⟩ := cls_pure hcl
    exact goVal I.mem ((evOp_memFree o _ M0 hf).trans he) hw (by rw [hc]; rfl) (by rw [hc]; rfl) (by rw [hc]; rfl)
  | read v =>
    rw [hc] at hcl
    obtain ⟨hw, hcb⟩ := cls_read hcl
    exact goVal (m := chainOf c M0 D n) (I.mem.sub rfl (chain_sub X hD)) (read_at X hD r hc hcb) hw (by rw [hc]; rfl) (by rw [hc]; rfl) (by rw [hc]; rfl)
  | alloc ob mk =>
    rw [hc] at hcl
    obtain ⟨hw, hf, he⟩ := cls_alloc hcl
    rw [if_pos (wanted_at hl hw)]
    have he' := (evOp_memFree (E := E) (ρ := evalT (S i).t) o ⟨(chainOf c M0 D n).n, PM c B n N0 M0 D n⟩ M0 hf).trans he
    obtain ⟨out, hmem, hout⟩ := evOp_at (P := P) hE I.mem o hρ (by rw [he']; simp)
    rw [he', List.mem_singleton] at hmem
    subst hmem
    refine oper_wp hcall (not_defer (by rw [he']; simp)) I.mem hout (fun _ h => by cases h) ?_ (fun _ _ h => by cases h) (fun _ _ h => by cases h)
    rintro ob' mk' hu v' obj x g2 g3 g4 g5
    cases hu
    obtain ⟨σ', I'⟩ := I.alloc X hD r hm0 hc g2 g4 g5
    exact hK σ' _ _ I'
  | eff v m' =>
    rw [hc] at hcl
    obtain ⟨hw, he⟩ := cls_eff hcl
    rw [if_pos (wanted_at hl hw)]
    obtain ⟨hm, hgo⟩ := I.eff X hD r hm0 hc
    rcases he with he | ⟨f, args, he, hca⟩
    · obtain ⟨out, hmem, hout⟩ := evOp_at (P := P) hE hm o hρ (by rw [he]; simp)
      rw [he, List.mem_singleton] at hmem
      subst hmem
      refine oper_wp hcall (not_defer (by rw [he]; simp)) hm hout (fun _ h => by cases h) (fun _ _ h => by cases h) ?_ (fun _ _ h => by cases h)
      rintro u m2 hu v' w' σ' g3 g4 g5
      cases hu
      exact hK σ' _ w' (hgo g5 g4 g3)
    · obtain ⟨out, hmem, hout⟩ := evOp_at (P := P) hE hm o hρ (by rw [he]; simp)
      rw [he, List.mem_singleton] at hmem
      subst hmem
      refine oper_wp hcall (not_defer (by rw [he]; simp)) hm hout (fun _ h => by cases h) (fun _ _ h => by cases h) (fun _ _ h => by cases h) ?_
      rintro f' args' hu
      cases hu
      refine ⟨by rw [hca]; simp, ?_⟩
      intro q hq v' w' σ' hF hV hM
      rw [hca, List.mem_singleton] at hq
      subst hq
      exact hK σ' _ w' (hgo hF hM hV)
def cntF : List Bool → Nat
  | [] => 0
  | true :: l => cntF l
  | false :: l => cntF l + 1
theorem cntF_set : ∀ {l : List Bool} {i : Nat}, l[i]? = some false → cntF (l.set i true) + 1 = cntF l := by
  intro l
  induction l with
  | nil => intro i h; simp at h
  | cons b l ih =>
    intro i h
    cases i with
    | zero => cases h; rfl
    | succ i =>
      have := ih (i := i) (by simpa using h)
      cases b
      · simp only [List.set_cons_succ, cntF]; omega
      · simp only [List.set_cons_succ, cntF]; exact this
theorem cntF_le : ∀ (l : List Bool), cntF l ≤ l.length := by
  intro l
  induction l with
  | nil => exact Nat.le_refl _
  | cons b l ih => cases b <;> simp only [cntF, List.length_cons] <;> omega
/-- every order -/
theorem any_draw (hE : EOK E P) (hcall : CallOK E P w0 call) (X : Ctx E call ops B n N N0 M0 t0 S c) (hB : B = masks ops.toList []) (hm0 : m0.n = N0) {rr : Option Nat} {fl : Nat} {Q : Exit → Act → World → Prop}
    (hQ : ∀ σ' a' w', Inv E w0 ops B n N N0 M0 t0 c σ0 m0 wst ds (fun i => decide (i < n)) σ' a' w' → Q .normal a' w') : ∀ (fuel : Nat) (listed : Array Bool) (σ : Sg) (a : Act) (w : World), listed.size = ops.size → cntF listed.toList ≤ fuel →
    Down ops (fun i => listed.getD i false) → Inv E w0 ops B n N N0 M0 t0 c σ0 m0 wst ds (fun i => listed.getD i false) σ a w → wpAnyIn (WF rr) fl P .any ops Q fuel listed a w := by
  have hsz : ops.size = n := by rw [← X.stt.len]; simp
  -- where nothing is ready everything is listed
  have done : ∀ (listed : Array Bool) (σ : Sg) (a : Act) (w : World), listed.size = ops.size → Down ops (fun i => listed.getD i false) → Inv E w0 ops B n N N0 M0 t0 c σ0 m0 wst ds (fun i => listed.getD i false) σ a w → Region.ready .any ops listed = [] → Q .normal a w := by
    intro listed σ a w hls hD I hr
    have hall : ∀ i, i < n → listed.getD i false = true := by
      intro i
      induction i using Nat.strongRecOn with
      | _ i ih =>
        intro hi
        cases hl : listed.getD i false with
        | true => rfl
        | false =>
          exfalso
          obtain ⟨o, ho⟩ := X.lt hi
          have hmem : i ∈ Region.ready .any ops listed := by
            rw [mem_ready]
            have ho' : ops[i]? = some o := by simpa using ho
            refine ⟨?_, o, ho', ?_⟩
            · have : i < listed.size := by omega
              simp [this] at hl ⊢
              exact hl
            · intro e he hb
              have := X.stt.back i o ho e (Array.mem_toList_iff.2 he) hb
              exact ih e.on this (by omega)
          rw [hr] at hmem; cases hmem
    have hfun : (fun i => listed.getD i false) = (fun i => decide (i < n)) := by
      funext i
      by_cases h : i < n
      · rw [hall i h]; simp [h]
      · have : ¬ i < listed.size := by omega
        simp [this, h]
    rw [hfun] at I
    exact hQ σ a w I
  intro fuel
  induction fuel with
  | zero =>
    intro listed σ a w hls hf hD I
    have hnone : Region.ready .any ops listed = [] := by
      cases hr : Region.ready .any ops listed with
      | nil => rfl
      | cons i l =>
        exfalso
        have hmem : i ∈ Region.ready .any ops listed := by rw [hr]; simp
        rw [mem_ready] at hmem
        obtain ⟨h1, o, h2, _⟩ := hmem
        have h3 : i < ops.size := (Array.getElem?_eq_some_iff.1 h2).1
        have h4 : i < listed.size := by omega
        have h5 : listed.toList[i]? = some false := by
          simp [h4] at h1
          simp [h4, h1]
        have := cntF_set h5
        omega
    exact ⟨hnone, done listed σ a w hls hD I hnone⟩
  | succ fuel ih =>
    intro listed σ a w hls hf hD I
    refine ⟨done listed σ a w hls hD I, fun i hi => ?_⟩
    rw [mem_ready] at hi
    obtain ⟨h1, o, h2, h3⟩ := hi
    have hi : i < ops.size := (Array.getElem?_eq_some_iff.1 h2).1
    have h4 : i < listed.size := by omega
    have h5 : listed.toList[i]? = some false := by
      simp [h4] at h1
      simp [h4, h1]
    have hout : listed.getD i false = false := by
      simp [h4] at h1
      simp [h4, h1]
    have hop : ops.toList[i]? = some o := by simpa using h2
    have r : Ready ops B (fun i => listed.getD i false) i o := by
      refine ⟨hop, hout, fun j hj => ?_⟩
      rw [hB] at hj
      have h6 := (masks_spec ops.toList []).2 i o hop
      simp only [List.length_nil, Nat.zero_add] at h6
      rw [List.getD_eq_getElem?_getD, h6, Option.getD_some] at hj
      rcases orEdges_spec hj with h7 | ⟨e, he, hb, h7⟩
      · simp at h7
      · have hon := h3 e (Array.mem_toList_iff.1 he) hb
        rcases h7 with rfl | h7
        · exact hon
        · have hlt := X.stt.back i o hop e he hb
          have h8 : ((masks ops.toList []).take i).getD e.on 0 = (masks ops.toList []).getD e.on 0 := by
            rw [List.getD_eq_getElem?_getD, List.getD_eq_getElem?_getD, List.getElem?_take, if_pos hlt]
          rw [h8] at h7
          exact masks_closed hD e.on j hon h7
    have hfun : (fun j => (listed.setIfInBounds i true).getD j false) = addD (fun j => listed.getD j false) i := by
      funext j
      by_cases e : i = j
      · subst e
        have : addD (fun j => listed.getD j false) i i = true := addD_iff.2 (.inr rfl)
        rw [this]
        simp [h4]
      · rw [addD_ne e, getD_set_ne false e]
    refine step_draw hE hcall X hD r I hm0 (fun σ' a' w' I' => ?_)
    refine ih (listed.setIfInBounds i true) σ' a' w' (by simpa using hls) ?_ ?_ ?_
    · rw [Array.toList_setIfInBounds]
      have := cntF_set h5
      omega
    · rw [hfun]
      intro k p hk hkd e he hb
      rcases addD_iff.1 hkd with h6 | rfl
      · exact addD_iff.2 (.inl (hD k p hk h6 e he hb))
      · rw [hop] at hk; cases hk
        exact addD_iff.2 (.inl (h3 e (Array.mem_toList_iff.1 he) hb))
    · rw [hfun]; exact I'
end
theorem addAll_inv {N0 : Nat} {id : Nat} {o : AObj} {t : T AObj} : ∀ {l : List (Nat × AObj)}, (addAll N0 l t).get id = some o → (∃ j, (j, o) ∈ l ∧ id = N0 + j) ∨ t.get id = some o := by
  intro l
  induction l with
  | nil => intro h; exact .inr h
  | cons x l ih =>
    intro h
    obtain ⟨j, ob⟩ := x
    simp only [addAll] at h
    by_cases e : N0 + j = id
    · subst e
      rw [T.get_set_same] at h; cases h
      exact .inl ⟨j, by simp, rfl⟩
    · rw [T.get_set_ne _ _ e] at h
      rcases ih h with ⟨k, h1, h2⟩ | h1
      · exact .inl ⟨k, by simp [h1], h2⟩
      · exact .inr h1
/-- A REGION WHOSE ORDER IS OPEN -/
theorem evDraw_wp (hE : EOK E P) (hP : P.follows .mixedOrders = true) {call : CallF} (hcall : CallOK E P w0 call) {rr : Option Nat} {fl : Nat} {N id : Nat} {ops : Array Oper} {Q : Exit → Act → World → Prop} {t : T Value} {m : Mem} {σ : Sg} {a : Act} {w : World}
    (hne : evDraw E call N ops t m ≠ []) (hT : TR σ N t a) (hM : MR E w0 σ m w)
    (hQ : ∀ r ∈ evDraw E call N ops t m, ∀ σ' a' w', FG σ m w σ' r.2 w' → TR σ' N r.1 a' → MR E w0 σ' r.2 w' → a'.defers = a.defers → Q .normal a' w') : (Code.region id ops true).wpIn (WF rr) fl P Q a w := by
  refine wpIn_region_any hP ?_
  unfold evDraw at hne hQ
  split at hne
  · rename_i hed htm
    simp only [hed, htm] at hQ
    split at hne
    · rename_i Sf hrun
      rw [hrun] at hQ
      simp only at hQ
      obtain ⟨S, c, hS0, hSf, hS⟩ := runD_ok _ _ _ _ hrun
      have hstat : Stat ops (masks ops.toList []) ops.toList.length := by
        refine ⟨rfl, fun i o ho e he hb => ?_, fun {D} hD => masks_closed hD, fun k i o p hk hi hp hc => ?_⟩
        · have := edgesOK_spec hed i o ho e he hb; omega
        · have := tmpsOK_spec htm k o hk i p (by omega) hp hc
          simpa using this
      have X : Ctx E call ops (masks ops.toList []) ops.toList.length N m.n ⟨m.n + ops.toList.length, m.t⟩ t S c := by
        refine ⟨⟨hS0, fun k o ho => ?_, fun k o ho => ?_⟩, hstat, rfl, fun j hj => ?_⟩
        · have := (hS k o ho).1; simpa using this
        · have := (hS k o ho).2; simpa using this
        · cases hg : m.t.get (m.n + j) with
          | none => simp [notLive, hg]
          | some o =>
            cases hl : o.live with
            | false => cases o <;> first | (cases hl; done) | simp [notLive, hg]
            | true =>
              obtain ⟨x, _, hx, _⟩ := hM.obj _ _ hg hl
              rw [hM.fresh (m.n + j) (by omega)] at hx; cases hx
      have hch0 : ∀ k, chainOf c ⟨m.n + ops.toList.length, m.t⟩ (fun _ => false) k = ⟨m.n + ops.toList.length, m.t⟩ := by
        intro k
        induction k with
        | zero => rfl
        | succ k ih => simp only [chainOf]; exact ih
      have hPM0 : ∀ k, PM c (masks ops.toList []) ops.toList.length m.n ⟨m.n + ops.toList.length, m.t⟩ (fun _ => false) k = m.t := by
        intro k
        induction k with
        | zero => simp only [PM]; rw [hch0]
        | succ k ih =>
          simp only [PM]
          split
          · rw [if_neg (by simp)]; exact ih
          · exact ih
      have hW0 : ∀ k τ, W c ops N m.n t (fun _ => false) k τ = tv t τ := by
        intro k τ
        induction k with
        | zero => rfl
        | succ k ih => simp only [W]; rw [if_neg (by simp)]; exact ih
      have hM1 : MR E w0 σ ⟨m.n + ops.toList.length, m.t⟩ w.drew := ⟨hM.below.drew, hM.obj, hM.inj, fun i hi => hM.fresh i (by have : m.n + ops.toList.length ≤ i := hi; omega)⟩
      have I0 : Inv E w0 ops (masks ops.toList []) ops.toList.length N m.n ⟨m.n + ops.toList.length, m.t⟩ t c σ m w a.defers (fun i => (Array.replicate ops.size false).getD i false) σ a w.drew := by
        have hf : (fun i => (Array.replicate ops.size false).getD i false) = (fun _ => false) := by
          funext i
          by_cases h : i < ops.size
          · simp [h]
          · simp [h]
        rw [hf]
        refine ⟨hT.size, fun τ => by rw [hW0]; exact hT.val τ, by rw [hch0, hPM0]; exact hM1, by rw [hch0]; exact Nat.le_refl _, fun i hi _ => hM.fresh _ (by omega), ?_, rfl⟩
        rw [hch0, hPM0]
        exact ⟨Ext.refl σ, Nat.le_refl _, fun _ _ _ => rfl, fun b hb => .inl hb, by show m.n ≤ m.n + ops.toList.length; omega, fun _ _ => rfl⟩
      refine any_draw hE hcall X rfl rfl (fun σ' a' w' I => ?_) ops.size _ σ a w.drew (by simp) (by
        have := cntF_le (Array.replicate ops.size false).toList
        simpa using this) (fun i o ho hd => by
        by_cases h : i < ops.size
        · simp [h] at hd
        · simp [h] at hd) I0
      -- all is done: what the reckoning says
      have rc := recs X.run ops.toList.length (Nat.le_refl _)
      subst hSf
      have hD1 : Down ops (fun i => decide (i < ops.toList.length)) := fun i o ho _ e he hb => by
        have := hstat.back i o ho e he hb
        have := getElem?_lt ho
        simp only [decide_eq_true_eq]; omega
      have hchN : chainOf c ⟨m.n + ops.toList.length, m.t⟩ (fun i => decide (i < ops.toList.length)) ops.toList.length = (S ops.toList.length).chain := by
        rw [rc.chain]
        exact chain_same _ (fun e he _ => by simp only [decide_eq_true he])
      have hsub : ∀ i q, (addAll m.n (S ops.toList.length).allocs (S ops.toList.length).chain.t).get i = some q → q.live = true → (PM c (masks ops.toList []) ops.toList.length m.n ⟨m.n + ops.toList.length, m.t⟩ (fun i => decide (i < ops.toList.length)) ops.toList.length).get i = some q := by
        intro i q hq hl
        rcases addAll_inv hq with ⟨j, h1, rfl⟩ | h1
        · obtain ⟨h2, ⟨mk, h3⟩, h4⟩ := (rc.allocs j q).1 h1
          refine PM_hit h3 (decide_eq_true h2) (fun h => ?_) _ h2
          obtain ⟨e, g1, _, g2, g3⟩ := h
          have hje := X.back g3
          have hne : j ≠ e := fun e2 => by subst e2; rw [h3] at g2; cases g2
          rw [h4 e g1 (by omega) g2] at g3; cases g3
        · exact chain_sub X hD1 i q (by rw [hchN]; exact h1) hl
      have hmem := I.mem
      have hfg := I.fg
      rw [hchN] at hmem hfg
      have hmem2 : MR E w0 σ' ⟨(S ops.toList.length).chain.n, addAll m.n (S ops.toList.length).allocs (S ops.toList.length).chain.t⟩ w' := hmem.sub rfl hsub
      refine hQ _ (List.mem_singleton.2 rfl) σ' a' w' ⟨hfg.ext, hfg.size, hfg.frame, fun b hb => hfg.grow b (hb.sub hsub), hfg.n, hfg.old⟩ ⟨I.size, fun τ => ?_⟩ hmem2 I.defers
      have h1 := I.tr τ
      have h2 : W c ops N m.n t (fun i => decide (i < ops.toList.length)) ops.toList.length τ = tv (S ops.toList.length).t τ := by
        rw [W_all X.run _ (Nat.le_refl _)]
        exact W_same _ (fun i hi _ => by simp only [decide_eq_true hi])
      rw [h2] at h1
      exact h1
    · exact absurd rfl hne
  · exact absurd rfl hne
end Go.AE
