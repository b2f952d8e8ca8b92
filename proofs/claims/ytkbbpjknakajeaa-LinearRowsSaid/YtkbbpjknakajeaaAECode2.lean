/- Code, loops and calls. -/
import Derived.Test.YtkbbpjknakajeaaAEDrawF
namespace Go.AE
open Go.RowKit
variable {E : Env} {P : Program} {w0 : World}
def Ex.out : Ex → Exit
  | .normal => .normal
  | .exit i => .exit i
  | .ret => .ret
/-- what a piece of code must answer to -/
def Meets (E : Env) (w0 : World) (N : Nat) (l : List (Ex × T Value × Mem)) (m : Mem) (σ : Sg) (a : Act) (w : World) (Q : Exit → Act → World → Prop) : Prop :=
  ∀ r ∈ l, ∀ σ' a' w', FG σ m w σ' r.2.2 w' → TR σ' N r.2.1 a' → MR E w0 σ' r.2.2 w' → a'.defers = a.defers → Q r.1.out a' w'
theorem bindL_nil {α β : Type} (f : α → List β) : bindL [] f = [] := by simp [bindL]
theorem bindL_src {α β : Type} {f : α → List β} {l : List α} (h : bindL l f ≠ []) : l ≠ [] := fun e => by rw [e, bindL_nil] at h; exact h rfl
def CodeOK (E : Env) (P : Program) (w0 : World) (N : Nat) (ev : T Value → Mem → List (Ex × T Value × Mem)) (c : Code) : Prop :=
  ∀ t m σ a w Q, ev t m ≠ [] → TR σ N t a → MR E w0 σ m w → Meets E w0 N (ev t m) m σ a w Q → c.wp P Q a w
def LoopFrom (P : Program) (c : Code) (Q : Exit → Act → World → Prop) (a : Act) (w : World) : Prop :=
  ∀ (b : Frame) (k : List Item) (cs : List Frame), ∃ e a' w', Q e a' w' ∧ Arrives P (lone (b.at a (.code c :: .inLoop c :: k)) cs w) b k cs e a' w'
theorem LoopFrom.wp {c : Code} {Q : Exit → Act → World → Prop} {a : Act} {w : World} (h : LoopFrom P c Q a w) : (Code.loop c).wp P Q a w := fun b k cs => by
  obtain ⟨e, a', w', hq, harr⟩ := h b k cs
  exact ⟨e, a', w', hq, .of_steps (.one step_loop) harr⟩
theorem LoopFrom.round {c : Code} {Q : Exit → Act → World → Prop} {a : Act} {w : World} (h : c.wp P (Exit.then (LoopFrom P c Q) Q) a w) : LoopFrom P c Q a w := fun b k cs => by
  obtain ⟨e, a₁, w₁, hq, harr⟩ := h b (.inLoop c :: k) cs
  cases e with
  | normal =>
    obtain ⟨e₂, a₂, w₂, hq₂, harr₂⟩ := hq b k cs
    exact ⟨e₂, a₂, w₂, hq₂, .of_steps (Steps.trans harr (.one step_inLoop)) harr₂⟩
  | exit id => exact ⟨_, a₁, w₁, hq, .pass (x := .inLoop c) rfl (fun _ _ => .inl (by simp)) harr⟩
  | goto l => exact ⟨_, a₁, w₁, hq, .pass (x := .inLoop c) rfl (fun _ _ => .inl (by simp)) harr⟩
  | ret => exact ⟨_, a₁, w₁, hq, .pass (x := .inLoop c) rfl (fun _ _ => .inl (by simp)) harr⟩
  | panic ch => exact ⟨_, a₁, w₁, hq, .pass (x := .inLoop c) rfl (fun _ _ => .inl (by simp)) harr⟩
  | outgrown => exact ⟨_, a₁, w₁, hq, .pass (x := .inLoop c) rfl (fun _ _ => .inl (by simp)) harr⟩
theorem evLoop_from {N : Nat} {ev : T Value → Mem → List (Ex × T Value × Mem)} {c : Code} (hc : CodeOK E P w0 N ev c) : ∀ n t m σ a w Q, evLoop ev n t m ≠ [] → TR σ N t a → MR E w0 σ m w → Meets E w0 N (evLoop ev n t m) m σ a w Q → LoopFrom P c Q a w := by
  intro n
  induction n with
  | zero => intro t m σ a w Q hne; exact absurd rfl hne
  | succ n ih =>
    intro t m σ a w Q hne hT hM hQ
    refine LoopFrom.round ?_
    simp only [evLoop] at hne hQ
    have h0 := bindL_ne hne
    refine hc t m σ a w _ (bindL_src hne) hT hM ?_
    rintro ⟨e, t1, m1⟩ hr σ' a' w' hf hT' hM' hd
    obtain ⟨h1, h2⟩ := h0 _ hr
    cases e with
    | normal =>
      exact ih t1 m1 σ' a' w' Q h1 hT' hM' (fun r hr' σ2 a2 w2 g1 g2 g3 g4 => hQ r (h2 r hr') σ2 a2 w2 (hf.trans g1) g2 g3 (g4.trans hd))
    | exit i => exact hQ (.exit i, t1, m1) (h2 _ (List.mem_singleton.2 rfl)) σ' a' w' hf hT' hM' hd
    | ret => exact hQ (.ret, t1, m1) (h2 _ (List.mem_singleton.2 rfl)) σ' a' w' hf hT' hM' hd
theorem both_ne {α : Type} {l r : List α} (h : both l r ≠ []) : l ≠ [] ∧ r ≠ [] ∧ (∀ x ∈ l, x ∈ both l r) ∧ ∀ x ∈ r, x ∈ both l r := by
  unfold both at h ⊢
  split at h
  · exact ⟨by simp, by simp, fun x hx => List.mem_append_left _ hx, fun x hx => List.mem_append_right _ hx⟩
  · exact absurd rfl h
theorem topB_inv {σ : Sg} {v : Value} (h : VR σ (.complex .f32 1 0) v) : ∃ b, v = .bool b := by
  cases h with
  | topB b => exact ⟨b, rfl⟩
  | refl h => cases h
theorem evCode_wp (hE : EOK E P) (hP : P.follows .mixedOrders = true) {call : CallF} (hcall : CallOK E P w0 call) (N fuel : Nat) : ∀ c, CodeOK E P w0 N (evCode E call N fuel c) c := by
  intro c
  induction c with
  | skip => intro t m σ a w Q _ hT hM hQ; exact wp_skip (hQ (.normal, t, m) (List.mem_singleton.2 rfl) σ a w (FG.refl σ m w) hT hM rfl)
  | region id ops d =>
    intro t m σ a w Q hne hT hM hQ
    simp only [evCode] at hne hQ
    have h0 := bindL_ne hne
    have h1 := bindL_src hne
    cases d with
    | true => exact evDraw_wp hE hP hcall h1 hT hM (fun r hr σ' a' w' g1 g2 g3 g4 => hQ (.normal, r.1, r.2) ((h0 r hr).2 _ (List.mem_singleton.2 rfl)) σ' a' w' g1 g2 g3 g4)
    | false =>
      refine wp_region ?_
      rw [List.range_eq_range', ← Array.length_toList]
      exact evOps_wp hE hcall ops.toList 0 rfl t m σ a w h1 hT hM (fun r hr σ' a' w' g1 g2 g3 g4 => hQ (.normal, r.1, r.2) ((h0 r hr).2 _ (List.mem_singleton.2 rfl)) σ' a' w' g1 g2 g3 g4)
  | seq x y ihx ihy =>
    intro t m σ a w Q hne hT hM hQ
    simp only [evCode] at hne hQ
    have h0 := bindL_ne hne
    refine wp_seq (ihx t m σ a w _ (bindL_src hne) hT hM ?_)
    rintro ⟨e, t1, m1⟩ hr σ' a' w' hf hT' hM' hd
    obtain ⟨h1, h2⟩ := h0 _ hr
    cases e with
    | normal => exact ihy t1 m1 σ' a' w' Q h1 hT' hM' (fun r hr' σ2 a2 w2 g1 g2 g3 g4 => hQ r (h2 r hr') σ2 a2 w2 (hf.trans g1) g2 g3 (g4.trans hd))
    | exit i => exact hQ (.exit i, t1, m1) (h2 _ (List.mem_singleton.2 rfl)) σ' a' w' hf hT' hM' hd
    | ret => exact hQ (.ret, t1, m1) (h2 _ (List.mem_singleton.2 rfl)) σ' a' w' hf hT' hM' hd
  | cond x y z ihy ihz =>
    intro t m σ a w Q hne hT hM hQ
    have hv := evalT_sound hT x
    simp only [evCode] at hne hQ
    split at hne
    · rename_i hx; rw [hx] at hv hQ
      exact wp_cond_true (hv.simple_inv rfl) (ihy t m σ a w Q hne hT hM hQ)
    · rename_i hx; rw [hx] at hv hQ
      exact wp_cond_false (hv.simple_inv rfl) (ihz t m σ a w Q hne hT hM hQ)
    · rename_i hx; rw [hx] at hv hQ
      obtain ⟨b, hb⟩ := topB_inv hv
      obtain ⟨h1, h2, h3, h4⟩ := both_ne hne
      cases b with
      | true => exact wp_cond_true hb (ihy t m σ a w Q h1 hT hM (fun r hr => hQ r (h3 r hr)))
      | false => exact wp_cond_false hb (ihz t m σ a w Q h2 hT hM (fun r hr => hQ r (h4 r hr)))
    · exact absurd rfl hne
  | block id y ih =>
    intro t m σ a w Q hne hT hM hQ
    simp only [evCode] at hne hQ
    have h0 := bindL_ne hne
    refine wp_block (ih t m σ a w _ (bindL_src hne) hT hM ?_)
    rintro ⟨e, t1, m1⟩ hr σ' a' w' hf hT' hM' hd
    obtain ⟨h1, h2⟩ := h0 _ hr
    cases e with
    | normal => exact hQ (.normal, t1, m1) (h2 _ (List.mem_singleton.2 rfl)) σ' a' w' hf hT' hM' hd
    | exit i =>
      have := hQ _ (h2 _ (List.mem_singleton.2 rfl)) σ' a' w' hf hT' hM' hd
      simp only [Ex.out, Exit.inBlock]
      by_cases e : i = id
      · rw [if_pos e]
        have hb : Nat.beq id i = true := by subst e; exact Nat.beq_refl _
        simp only [hb, cond] at this
        exact this
      · rw [if_neg e]
        have hb : Nat.beq id i = false := by
          cases h : Nat.beq id i with
          | false => rfl
          | true => exact absurd (Nat.eq_of_beq_eq_true h).symm e
        simp only [hb, cond] at this
        exact this
    | ret => exact hQ (.ret, t1, m1) (h2 _ (List.mem_singleton.2 rfl)) σ' a' w' hf hT' hM' hd
  | loop y ih =>
    intro t m σ a w Q hne hT hM hQ
    simp only [evCode] at hne hQ
    exact (evLoop_from ih fuel t m σ a w Q hne hT hM hQ).wp
  | exit id => intro t m σ a w Q _ hT hM hQ; exact wp_exit (hQ (.exit id, t, m) (List.mem_singleton.2 rfl) σ a w (FG.refl σ m w) hT hM rfl)
  | ret => intro t m σ a w Q _ hT hM hQ; exact wp_ret (hQ (.ret, t, m) (List.mem_singleton.2 rfl) σ a w (FG.refl σ m w) hT hM rfl)
  | _ => intro t m σ a w Q hne; exact absurd rfl hne
/-! ### results -/
theorem resultsA_sound (hE : EOK E P) {N : Nat} {t : T Value} {m : Mem} {σ : Sg} {a : Act} {w : World} (hT : TR σ N t a) (hM : MR E w0 σ m w) : ∀ l vs, resultsA E t m l = some vs →
    ∃ vs', (l.mapM (fun | .tmp t => pure (a.tmps.getD t undef) | .cell x t => do loadVar t (← asAddr (a.tmps.getD x undef)) : ResultVar → Sem Value)).run P w = .ok vs' w ∧ VRL σ vs vs' := by
  intro l
  induction l with
  | nil => intro vs h; simp only [resultsA] at h; cases h; exact ⟨[], rfl, VRL.nil σ⟩
  | cons r l ih =>
    intro vs h
    cases r with
    | tmp i =>
      simp only [resultsA] at h
      split at h
      · rename_i v rs hv hrs
        cases h
        obtain ⟨vs', h1, h2⟩ := ih _ hrs
        have := hT.val i
        simp only [tv, hv] at this
        refine ⟨a.tmps.getD i undef :: vs', ?_, VRL.cons this h2⟩
        simp only [List.mapM_cons, Sem.run_bind, Sem.run_pure, Result.andThen_ok, h1]
      · cases h
    | cell x ty =>
      simp only [resultsA] at h
      split at h
      · rename_i p hp
        split at h
        · rename_i v rs hv hrs
          cases h
          obtain ⟨vs', h1, h2⟩ := ih _ hrs
          have hx := hT.val x
          simp only [tv, hp] at hx
          obtain ⟨v', g1, g2⟩ := loadAt_sound hE hM hv hx
          refine ⟨v' :: vs', ?_, VRL.cons g2 h2⟩
          simp only [List.mapM_cons]
          generalize a.tmps.getD x undef = p' at hx g1 ⊢
          cases hx with
          | ptr hσ =>
            simp only [Instr.loadAt, Instr.sureAddr, Sem.run_bind, Sem.run_pure, Result.andThen_ok] at g1
            have hA : ∀ q, asAddr (.pointer (some q)) = pure q := fun _ => rfl
            simp only [hA, Sem.run_bind, Sem.run_pure, Result.andThen_ok, g1, h1]
          | refl h => simp [simple] at h
        · cases h
      · cases h
theorem tupled_sound {σ : Sg} {l l' : List Value} (h : VRL σ l l') : VR σ (tupled l) (tupled l') := by
  have key : ∀ {l l' : List Value}, VRL σ l l' → VR σ (.tuple l.toArray) (.tuple l'.toArray) := fun h => .tuple_of (by simpa using h)
  match l, l', h with
  | [], [], h => exact key h
  | [x], [y], h => exact h.head
  | x :: x2 :: l, y :: y2 :: l', h => exact key h
  | [], _ :: _, h => exact absurd h.1 (by simp)
  | _ :: _, [], h => exact absurd h.1 (by simp)
  | [_], _ :: _ :: _, h => exact absurd h.1 (by simp)
  | _ :: _ :: _, [_], h => exact absurd h.1 (by simp)
theorem results_sound (hE : EOK E P) {N : Nat} {t : T Value} {m : Mem} {σ : Sg} {a : Act} {w : World} (hT : TR σ N t a) (hM : MR E w0 σ m w) {fn : Func} {vs : List Value} (h : resultsA E t m fn.results.toList = some vs) :
    ∃ v', (results fn a.tmps).run P w = .ok v' w ∧ VR σ (tupled vs) v' := by
  obtain ⟨vs', h1, h2⟩ := resultsA_sound hE hT hM _ _ h
  refine ⟨tupled vs', ?_, tupled_sound h2⟩
  unfold results
  rw [Array.mapM_eq_mapM_toList]
  simp only [Sem.run_bind, Sem.run_map]
  erw [h1]
  simp only [Result.andThen_ok, Sem.run_pure]
  match vs' with
  | [] => rfl
  | [_] => rfl
  | _ :: _ :: _ => rfl
/-- what is asked of what is known of functions -/
def SOK (E : Env) (P : Program) (w0 : World) (S : Sums) : Prop :=
  ∀ f args m l, S f args m = some l → l ≠ [] → ∀ (σ : Sg) (w : World) (args' : Array Value), VRL σ args args'.toList → MR E w0 σ m w →
    Calls P f args' w fun e w' => ∃ r ∈ l, ∃ σ' v', e = .returned v' ∧ FG σ m w σ' r.2 w' ∧ VR σ' r.1 v' ∧ MR E w0 σ' r.2 w'
theorem evCall_ok (hE : EOK E P) (hP : P.follows .mixedOrders = true) {S : Sums} (hS : SOK E P w0 S) (fuel : Nat) : ∀ d, CallOK E P w0 (evCall E S fuel d) := by
  intro d
  induction d with
  | zero => intro f args m hne; exact absurd rfl hne
  | succ d ih =>
    intro f args m hne σ w args' hargs hM
    cases hs : S f args m with
    | some l =>
      have he : evCall E S fuel (d + 1) f args m = l := by simp only [evCall, hs]
      rw [he] at hne ⊢
      exact hS f args m l hs hne σ w args' hargs hM
    | none =>
    generalize hL : evCall E S fuel (d + 1) f args m = L at hne ⊢
    simp only [evCall, hs] at hL
    split at hL
    · exact absurd hL.symm hne
    · rename_i fn hfn
      obtain ⟨hf, _, _⟩ := hE.funcs f fn hfn
      split at hL
      · exact absurd hL.symm hne
      · rename_i c hb
        split at hL
        · exact absurd hL.symm hne
        · rename_i hle
          have hle' : args.length ≤ fn.ntmps := Nat.le_of_ble_eq_true hle
          subst hL
          have h0 := bindL_ne hne
          refine calls_of_wp hf hb (evCode_wp hE hP ih fn.ntmps fuel c _ m σ _ w _ (bindL_src hne) ⟨?_, ?_⟩ hM ?_)
          · have := hargs.1
            simp at this ⊢
            omega
          · intro i
            simp only [tv, T.get_ofList]
            have hl := hargs.1
            have hl' : args.length = args'.size := by simpa using hl
            rcases Nat.lt_or_ge i args.length with h | h
            · have hv := hargs.2 i h
              simp only [List.getElem?_eq_getElem h]
              have e1 : args.getD i und = args[i] := by simp [List.getD, List.getElem?_eq_getElem h]
              have h' : i < args'.size := by omega
              have e2 : (args' ++ Array.replicate (fn.ntmps - args'.size) undef).getD i undef = args'.toList.getD i und := by
                have h3 : (args' ++ Array.replicate (fn.ntmps - args'.size) undef)[i]? = args'[i]? := Array.getElem?_append_left h'
                simp only [Array.getD_eq_getD_getElem?, h3]
                simp [h']
              rw [e2, ← e1]; exact hv
            · rw [List.getElem?_eq_none h]
              have e2 : (args' ++ Array.replicate (fn.ntmps - args'.size) undef).getD i undef = undef := by
                simp only [Array.getD_eq_getD_getElem?]
                rw [Array.getElem?_append_right (by omega), Array.getElem?_replicate]
                split <;> rfl
              rw [e2]; exact VR.undef σ
          · rintro ⟨e, t1, m1⟩ hr σ' a' w' hf' hT' hM' hd
            obtain ⟨h1, h2⟩ := h0 _ hr
            cases e with
            | exit i => exact absurd rfl h1
            | normal =>
              simp only at h1 h2
              split at h1
              · rename_i vs hvs
                simp only [hvs] at h2
                obtain ⟨v', g1, g2⟩ := results_sound hE hT' hM' hvs
                exact ⟨hd, v', g1, (tupled vs, m1), h2 _ (List.mem_singleton.2 rfl), σ', v', rfl, hf', g2, hM'⟩
              · exact absurd rfl h1
            | ret =>
              simp only at h1 h2
              split at h1
              · rename_i vs hvs
                simp only [hvs] at h2
                obtain ⟨v', g1, g2⟩ := results_sound hE hT' hM' hvs
                exact ⟨hd, v', g1, (tupled vs, m1), h2 _ (List.mem_singleton.2 rfl), σ', v', rfl, hf', g2, hM'⟩
              · exact absurd rfl h1
end Go.AE
