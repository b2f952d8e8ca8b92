/- Regions whose order is open: the kinds of operations; every order. -/
import Derived.Test.YtkbbpjknakajeaaAEDrawD
namespace Go.AE
open Go.RowKit
variable {E : Env} {P : Program} {w0 : World}
section
variable {call : CallF} {ops : Array Oper} {B : List Nat} {n N N0 : Nat} {M0 : Mem} {t0 : T Value} {S : Nat → DS} {c : Nat → Cl} {σ0 : Sg} {m0 : Mem} {wst : World} {ds : List Deferred}
theorem valO_new {v : Option Value} {ob : AObj} {mk : Mk} (h : valO v = [.new ob mk]) : False := by cases v <;> cases h
theorem new_live {ρ : Operand → Value} {o : Oper} {m : Mem} {ob : AObj} {mk : Mk} (hf : memFree o.op = true) (h : evOp E ρ o m = [.new ob mk]) : ob.live = true := by
  unfold evOp at h
  cases hop : o.op <;> rw [hop] at h hf <;> first
    | (cases hf; done)
    | (exact (valO_new h).elim)
    | skip
  all_goals simp only at h
  case move => cases h
  case assign => cases h
  case pick => split at h <;> cases h
  case alloc => split at h <;> cases h; rfl
  case box => split at h <;> cases h; rfl
  case buildSlice t len parts =>
    cases hb : buildSliceA E t len (parts.toList.map fun p => (p.1, ρ p.2)) with
    | none => rw [hb] at h; cases h
    | some out =>
      rw [hb] at h
      simp only [ofO, List.cons.injEq, and_true] at h
      subst h
      unfold buildSliceA at hb
      split at hb
      · split at hb
        · split at hb
          · cases hb; rfl
          · cases hb
        · cases hb
      · cases hb
  case nilCheck =>
    split at h
    · cases h
    · cases h
    · split at h
      · split at h <;> cases h
      · cases h
    · cases h
    · cases h
    · cases h
  case unOp =>
    split at h <;> first | (cases h; done) | exact (valO_new h).elim
  case makeInterface =>
    split at h
    · split at h <;> cases h
    · cases h
  case makeFunc => cases h
  case makeMap t r => cases r <;> cases h; rfl
  case makeSlice t l c =>
    cases hb : makeSliceA E t (ρ l) (ρ c) with
    | none => rw [hb] at h; cases h
    | some out =>
      rw [hb] at h
      simp only [ofO, List.cons.injEq, and_true] at h
      subst h
      unfold makeSliceA at hb
      split at hb
      · split at hb
        · cases hb; rfl
        · cases hb
      · cases hb
  case extract =>
    split at h
    · split at h <;> cases h
    · cases h
  case call c =>
    simp only [memFree] at hf
    unfold callA at h
    split at hf
    · rename_i hc
      rw [hc] at h
      simp only at h
      split at h <;> first | (cases h; done) | exact (valO_new h).elim
    · rename_i hc
      rw [hc] at h
      simp only at h
      split at h <;> first | (cases h; done) | exact (valO_new h).elim
    · cases hf
theorem cls_alloc {S : DS} {o : Oper} {b : Nat} {ob : AObj} {mk : Mk} (h : clsD E call ops n N0 M0 S o b = some (.alloc ob mk)) : wanted ops o S.t = some true ∧ memFree o.op = true ∧ evOp E (evalT S.t) o M0 = [.new ob mk] := by
  unfold clsD at h
  split at h
  · cases h
  · cases h
  · rename_i hw
    split at h
    · rename_i hf
      split at h
      · cases h
      · rename_i he; cases h; exact ⟨hw, hf, he⟩
      · cases h
    · split at h
      · split at h <;> cases h
      · split at h <;> cases h
      · split at h
        · split at h <;> cases h
        · cases h
      · cases h
theorem alloc_live {S : DS} {o : Oper} {b : Nat} {ob : AObj} {mk : Mk} (h : clsD E call ops n N0 M0 S o b = some (.alloc ob mk)) : ob.live = true := new_live (cls_alloc h).2.1 (cls_alloc h).2.2
/-- something new -/
theorem Inv.alloc (X : Ctx E call ops B n N N0 M0 t0 S c) {D : Nat → Bool} (hD : Down ops D) {i : Nat} {o : Oper} (r : Ready ops B D i o) {σ : Sg} {a : Act} {w : World} (I : Inv E w0 ops B n N N0 M0 t0 c σ0 m0 wst ds D σ a w)
    (hm0 : m0.n = N0) {ob : AObj} {mk : Mk} (hc : c i = .alloc ob mk) {v' : Value} {obj : Obj} {x : Inf} (hx : x.b = w.heap.size) (hor : OR E σ x ob obj) (hmk : ∀ (σ' : Sg) id, σ' id = some x → VR σ' (mk.val id) v') :
    ∃ σ', Inv E w0 ops B n N N0 M0 t0 c σ0 m0 wst ds (addD D i) σ' (a.put o.dst v') (w.alloc obj) := by
  have hi : i < n := by rw [← X.stt.len]; exact getElem?_lt r.op
  have hce : (c i).isEff = false := by rw [hc]; rfl
  have hid : σ (N0 + i) = none := I.fresh i hi (fun h => by rw [r.out] at h; cases h.1)
  have hnum := I.num
  obtain ⟨hm, _⟩ := I.mem.new (id := N0 + i) hid (n' := (chainOf c M0 D n).n) (Nat.le_refl _) (by omega) hx hor
  have hext : Ext σ (fun j => if j = N0 + i then some x else σ j) := fun j y hy => by
    have : j ≠ N0 + i := fun e => by rw [e, hid] at hy; cases hy
    simp [this, hy]
  have e1 := chain_add (M0 := M0) (D := D) hce n
  have hMgi : ¬ Mg c B n (addD D i) i := fun h => by
    obtain ⟨e, h1, h2, h3, h4⟩ := (Mg_add hce).1 h
    have := X.stt.closed hD e i h2 h4
    rw [r.out] at this; cases this
  have hsub : ∀ id q, (PM c B n N0 M0 (addD D i) n).get id = some q → q.live = true → ((PM c B n N0 M0 D n).set (N0 + i) ob).get id = some q := by
    intro id q hq _
    rcases PM_inv n hq with ⟨j, mk', h1, rfl, h3, h4, h5⟩ | ⟨h1, h2⟩
    · by_cases e : i = j
      · subst e; rw [hc] at h3; cases h3; rw [T.get_set_same]
      · rw [T.get_set_ne _ _ (by omega)]
        rw [addD_ne e] at h4
        exact PM_hit h3 h4 (fun h => h5 ((Mg_add hce).2 h)) n h1
    · have hne : N0 + i ≠ id := fun e => h2 i hi e.symm ⟨by rw [hc]; rfl, addD_iff.2 (.inr rfl), hMgi⟩
      rw [T.get_set_ne _ _ hne, PM_miss n (fun j hj he hh => h2 j hj he ⟨hh.1, addD_iff.2 (.inl hh.2.1), fun h => hh.2.2 ((Mg_add hce).1 h)⟩), ← e1]
      exact h1
  refine ⟨fun j => if j = N0 + i then some x else σ j, ?_⟩
  have hmem : MR E w0 (fun j => if j = N0 + i then some x else σ j) ⟨(chainOf c M0 (addD D i) n).n, PM c B n N0 M0 (addD D i) n⟩ (w.alloc obj) := hm.sub (by rw [e1]) hsub
  refine ⟨by rw [put_size]; exact I.size, fun τ => ?_, hmem, by rw [e1]; exact I.num, fun j hj h => ?_, ?_, by rw [put_defers]; exact I.defers⟩
  · rw [W_add X.stt hD r]
    refine put_vals (f := fun τ => W c ops N N0 t0 D n τ) I.size (fun τ => (I.tr τ).mono hext) (v := (c i).val N0 i) ?_ o.dst τ
    rw [hc]
    exact hmk _ _ (if_pos rfl)
  · have hji : j ≠ i := fun e => h ⟨by rw [e]; exact addD_iff.2 (.inr rfl), by rw [e, hc]; rfl⟩
    have : N0 + j ≠ N0 + i := by omega
    simp only [this, if_false]
    exact I.fresh j hj (fun h2 => h ⟨addD_iff.2 (.inl h2.1), h2.2⟩)
  · refine ⟨I.fg.ext.trans hext, Nat.le_trans I.fg.size (by simp), fun b hb hl => ?_, fun b hb => ?_, by rw [e1]; exact I.fg.n, fun j hj => ?_⟩
    · rw [Below.heap_alloc w obj b (Nat.lt_of_lt_of_le hb I.fg.size)]; exact I.fg.frame b hb hl
    · obtain ⟨id, q, y, h1, h2, h3, h4⟩ := hb
      have h5 := hsub id q h1 h2
      by_cases e : N0 + i = id
      · subst e
        simp only [if_true, Option.some.injEq] at h3
        subst h3
        exact .inr (by have := I.fg.size; omega)
      · rw [T.get_set_ne _ _ e] at h5
        have e' : id ≠ N0 + i := fun h => e h.symm
        simp only [e', if_false] at h3
        exact I.fg.grow b ⟨id, q, y, h5, h2, h3, h4⟩
    · have : j ≠ N0 + i := by omega
      simp only [this, if_false]
      exact I.fg.old j hj
/-- an effect -/
theorem Inv.eff (X : Ctx E call ops B n N N0 M0 t0 S c) {D : Nat → Bool} (hD : Down ops D) {i : Nat} {o : Oper} (r : Ready ops B D i o) {σ : Sg} {a : Act} {w : World} (I : Inv E w0 ops B n N N0 M0 t0 c σ0 m0 wst ds D σ a w)
    (hm0 : m0.n = N0) {v : Value} {m' : Mem} (hc : c i = .eff v m') :
    MR E w0 σ ⟨(S i).chain.n, addAllocs N0 (B.getD i 0) (S i).allocs (S i).chain.t⟩ w ∧ ∀ {σ' : Sg} {v' : Value} {w' : World}, FG σ ⟨(S i).chain.n, addAllocs N0 (B.getD i 0) (S i).allocs (S i).chain.t⟩ w σ' m' w' → MR E w0 σ' m' w' → VR σ' v v' →
      Inv E w0 ops B n N N0 M0 t0 c σ0 m0 wst ds (addD D i) σ' (a.put o.dst v') w' := by
  have hi : i < n := by rw [← X.stt.len]; exact getElem?_lt r.op
  have hce : (c i).isEff = true := by rw [hc]; rfl
  have hcl := X.run.cls i o r.op
  rw [hc] at hcl
  obtain ⟨hbits, hfr, _⟩ := effOK_spec (effOK_of hcl)
  have rc := recs X.run i (by rw [X.stt.len]; omega)
  -- which effects are in D
  have hin : ∀ e, e < n → (c e).isEff = true → (D e = true ↔ e < i) := by
    intro e he hef
    constructor
    · intro hd
      rcases Nat.lt_or_ge e i with h1 | h1
      · exact h1
      · by_cases h2 : e = i
        · subst h2; rw [r.out] at hd; cases hd
        · have := X.stt.closed hD e i hd (X.effs he (by omega) hce hef)
          rw [r.out] at this; cases this
    · intro h1
      exact r.before e (X.effs hi h1 hef hce)
  have hch : chainOf c M0 D n = (S i).chain := by
    rw [rc.chain, chain_cut (i := i) n (by omega) (fun e he hen hef => by
      cases hd : D e with
      | false => rfl
      | true => have := (hin e hen hef).1 hd; omega)]
    exact chain_same i (fun e he hef => (hin e (by omega) hef).2 he)
  have hMg : ∀ j, Mg c B n D j ↔ ∃ e, e < i ∧ (c e).isEff = true ∧ (B.getD e 0).testBit j = true := by
    intro j
    constructor
    · rintro ⟨e, h1, h2, h3, h4⟩; exact ⟨e, (hin e h1 h3).1 h2, h3, h4⟩
    · rintro ⟨e, h1, h2, h3⟩; exact ⟨e, by omega, (hin e (by omega) h2).2 h1, h2, h3⟩
  have hMg' : ∀ j, Mg c B n (addD D i) j ↔ Mg c B n D j ∨ (B.getD i 0).testBit j = true := by
    intro j
    constructor
    · rintro ⟨e, h1, h2, h3, h4⟩
      rcases addD_iff.1 h2 with h5 | rfl
      · exact .inl ⟨e, h1, h5, h3, h4⟩
      · exact .inr h4
    · rintro (⟨e, h1, h2, h3⟩ | h)
      · exact ⟨e, h1, addD_iff.2 (.inl h2), h3⟩
      · exact ⟨i, hi, addD_iff.2 (.inr rfl), hce, h⟩
  -- what the effect is met with is part of what is there
  have hsub : ∀ id q, (addAllocs N0 (B.getD i 0) (S i).allocs (S i).chain.t).get id = some q → q.live = true → (PM c B n N0 M0 D n).get id = some q := by
    intro id q hq hl
    rcases addAllocs_inv hq with ⟨j, h1, rfl, h3⟩ | h1
    · obtain ⟨h4, ⟨mk, h5⟩, h6⟩ := (rc.allocs j q).1 h1
      refine PM_hit h5 (r.before j h3) (fun h => ?_) n (by omega)
      obtain ⟨e, g1, g2, g3⟩ := (hMg j).1 h
      have hje := X.back g3
      have hne : j ≠ e := fun e2 => by subst e2; rw [h5] at g2; cases g2
      rw [h6 e g1 (by omega) g2] at g3; cases g3
    · rw [PM_miss n, hch]
      · exact h1
      · rintro j hj rfl ⟨g1, g2, g3⟩
        rcases X.chainFresh hD hj with h4 | h4
        · exact g3 h4
        · rw [hch] at h4
          rw [notLive_spec h4 q h1] at hl; cases hl
  have hme : MR E w0 σ ⟨(S i).chain.n, addAllocs N0 (B.getD i 0) (S i).allocs (S i).chain.t⟩ w := I.mem.sub (by rw [hch]) hsub
  refine ⟨hme, fun {σ' v' w'} hF hM hV => ?_⟩
  have hch' : chainOf c M0 (addD D i) n = m' := by
    rw [chain_cut (i := i + 1) n (by omega) (fun e he hen hef => by
      rw [addD_ne (by omega)]
      cases hd : D e with
      | false => rfl
      | true => have := (hin e hen hef).1 hd; omega)]
    simp only [chainOf, addD_iff.2 (.inr rfl), hc]
  have hmn : (S i).chain.n ≤ m'.n := hF.n
  have hnum := I.num
  rw [hch] at hnum
  -- what is pending, in the old world
  have pend : ∀ k ob mk, k < n → c k = .alloc ob mk → addD D i k = true → ¬ Mg c B n (addD D i) k → ∃ x ob', σ (N0 + k) = some x ∧ w0.heap.size ≤ x.b ∧ w.heap[x.b]? = some ob' ∧ OR E σ x ob ob' ∧ (PM c B n N0 M0 D n).get (N0 + k) = some ob ∧ ob.live = true ∧ ¬ LiveB σ ⟨(S i).chain.n, addAllocs N0 (B.getD i 0) (S i).allocs (S i).chain.t⟩ x.b := by
    intro k ob mk hk hck hdk hmk
    have hki : i ≠ k := fun e => by subst e; rw [hck] at hc; cases hc
    rw [addD_ne hki] at hdk
    have hmk1 : ¬ Mg c B n D k := fun h => hmk ((hMg' k).2 (.inl h))
    have hmk2 : (B.getD i 0).testBit k = false := by
      cases hb : (B.getD i 0).testBit k with
      | false => rfl
      | true => exact absurd ((hMg' k).2 (.inr hb)) hmk
    have hget : (PM c B n N0 M0 D n).get (N0 + k) = some ob := PM_hit hck hdk hmk1 n hk
    have hlive : ob.live = true := by
      cases hl : ob with
      | dead =>
        exfalso
        -- no operation lays a dead thing
        have hcl2 := X.lt hk
        obtain ⟨o2, ho2⟩ := hcl2
        have h2 := X.run.cls k o2 ho2
        rw [hck, hl] at h2
        have := alloc_live h2
        cases this
      | _ => rfl
    obtain ⟨x, ob', h1, h2, h3, h4⟩ := I.mem.obj _ _ hget hlive
    refine ⟨x, ob', h1, h2, h3, h4, hget, hlive, ?_⟩
    rintro ⟨id, q, y, g1, g2, g3, g4⟩
    have g5 := hsub id q g1 g2
    have g6 : id = N0 + k := I.mem.inj id (N0 + k) q ob y x g5 g2 hget hlive g3 h1 g4
    subst g6
    rcases addAllocs_inv g1 with ⟨j, f1, f2, f3⟩ | f1
    · have : j = k := by omega
      subst this
      rw [hmk2] at f3; cases f3
    · rcases X.chainFresh hD hk with h5 | h5
      · exact hmk1 h5
      · rw [hch] at h5
        rw [notLive_spec h5 q f1] at g2; cases g2
  have hmem : ∀ k, k ≤ n → MR E w0 σ' ⟨m'.n, PM c B n N0 M0 (addD D i) k⟩ w' := by
    intro k
    induction k with
    | zero =>
      intro _
      simp only [PM, hch']
      exact hM
    | succ k ih =>
      intro hk
      have ih' := ih (by omega)
      simp only [PM]
      split
      · rename_i ob mk hck
        split
        · rename_i hd
          obtain ⟨x, ob', h1, h2, h3, h4, h5, h6, h7⟩ := pend k ob mk (by omega) hck hd.1 hd.2
          have hlt : x.b < w.heap.size := (Array.getElem?_eq_some_iff.1 h3).1
          refine ih'.putBack (x := x) (hF.ext _ _ h1) h2 ?_ (by rw [hF.frame x.b hlt h7]; exact h3) (h4.mono hF.ext)
          rintro ⟨id, q, y, g1, g2, g3, g4⟩
          rcases PM_inv k g1 with ⟨j, mk', f1, rfl, f3, f4, f5⟩ | ⟨f1, _⟩
          · obtain ⟨y0, _, e1, _, _, _, e5, e6, _⟩ := pend j q mk' (by omega) f3 f4 f5
            have : y0 = y := by have := hF.ext _ _ e1; rw [g3] at this; exact (Option.some.inj this).symm
            subst this
            have := I.mem.inj _ _ _ _ _ _ e5 e6 h5 h6 e1 h1 g4
            omega
          · rw [hch'] at f1
            rcases hF.grow x.b ⟨id, q, y, f1, g2, g3, g4⟩ with f2 | f2
            · exact h7 f2
            · omega
        · exact ih'
      · exact ih'
  refine ⟨by rw [put_size]; exact I.size, fun τ => ?_, by rw [hch']; exact hmem n (Nat.le_refl _), by rw [hch']; omega, fun j hj h => ?_, ?_, by rw [put_defers]; exact I.defers⟩
  · rw [W_add X.stt hD r]
    refine put_vals (f := fun τ => W c ops N N0 t0 D n τ) I.size (fun τ => (I.tr τ).mono hF.ext) (v := (c i).val N0 i) ?_ o.dst τ
    rw [hc]; exact hV
  · rw [hF.old (N0 + j) (by show N0 + j < (S i).chain.n; omega)]
    exact I.fresh j hj (fun h2 => h ⟨addD_iff.2 (.inl h2.1), h2.2⟩)
  · rw [hch']
    refine ⟨I.fg.ext.trans hF.ext, Nat.le_trans I.fg.size hF.size, fun b hb hl => ?_, fun b hb => ?_, ?_, fun j hj => ?_⟩
    · rw [hF.frame b (Nat.lt_of_lt_of_le hb I.fg.size) (fun hl2 => by
        rcases I.fg.grow b (hl2.sub hsub) with h1 | h1
        · exact hl h1
        · omega)]
      exact I.fg.frame b hb hl
    · obtain ⟨id, q, y, h1, h2, h3, h4⟩ := hb
      rcases PM_inv n h1 with ⟨j, mk', f1, rfl, f3, f4, f5⟩ | ⟨f1, _⟩
      · obtain ⟨y0, _, e1, _, _, _, e5, e6, _⟩ := pend j q mk' f1 f3 f4 f5
        have : y0 = y := by have := hF.ext _ _ e1; rw [h3] at this; exact (Option.some.inj this).symm
        subst this
        exact I.fg.grow b ⟨_, q, y0, e5, e6, e1, h4⟩
      · rw [hch'] at f1
        rcases hF.grow b ⟨id, q, y, f1, h2, h3, h4⟩ with f2 | f2
        · exact I.fg.grow b (f2.sub hsub)
        · exact .inr (Nat.le_trans I.fg.size f2)
    · have := I.fg.n
      simp only at this
      rw [hch] at this
      show m0.n ≤ m'.n
      omega
    · rw [hF.old j (by show j < (S i).chain.n; omega)]
      exact I.fg.old j hj
end
end Go.AE
