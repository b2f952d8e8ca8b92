/- A loop that is evaluated piece by piece, each piece from a memory that is laid out. -/
import Derived.Test.YtlcecnhdehdneaaGreatAEFast3
namespace Go.AE
open Go.RowKit
noncomputable section
/-! ### so many rounds -/
def rn0 (t : T Value) (m : Mem) : Option (T Value × Mem) := some (t, m)
def oneNormal (l : RX) (f : T Value → Mem → Option (T Value × Mem)) : Option (T Value × Mem) :=
  match l with
  | [(.normal, t, m)] => f t m
  | _ => none
def rounds (round : KX) (n : Nat) (t : T Value) (m : Mem) : Option (T Value × Mem) :=
  @Nat.rec (fun _ => T Value → Mem → Option (T Value × Mem)) rn0 (fun _ ih t m => oneNormal (round t m) ih) n t m
theorem oneNormal_inv {l : RX} {f : T Value → Mem → Option (T Value × Mem)} {r : T Value × Mem} (h : oneNormal l f = some r) : ∃ t m, l = [(.normal, t, m)] ∧ f t m = some r := by
  unfold oneNormal at h
  split at h
  · exact ⟨_, _, rfl, h⟩
  · cases h
/-- temporaries within temporaries: what is not said may be anything -/
def tmpsIn (a b : T Value) : Bool := cellsIn a b
/-- the temporaries that are said are as they stand; the others are undefined or nowhere looked at -/
def badT (N : Nat) (t : T Value) : Nat → Bool
  | 0 => true
  | n + 1 => cond (match t.get n with | some _ => true | none => false) (badT N t n) false
/-- each temporary of the second is as the first says, or the first says that it may be anything -/
def tmpIn (a b : T Value) (i : Nat) : Bool :=
  match tv a i with
  | .chan (some 0) => true
  | v => veq 30 v (tv b i)
def allTmps (a b : T Value) (n : Nat) : Bool := @Nat.rec (fun _ => Bool) true (fun i r => cond (tmpIn a b i) r false) n
theorem allTmps_spec {a b : T Value} : ∀ {n : Nat}, allTmps a b n = true → ∀ i, i < n → tmpIn a b i = true := by
  intro n
  induction n with
  | zero => intro _ i hi; omega
  | succ n ih =>
    intro h i hi
    have h : cond (tmpIn a b n) (allTmps a b n) false = true := h
    cases hp : tmpIn a b n with
    | false => rw [hp] at h; cases h
    | true =>
      rw [hp] at h
      rcases Nat.lt_or_ge i n with h1 | h1
      · exact ih h i h1
      · obtain rfl : i = n := by omega
        exact hp
variable {E : Env} {P : Program} {w0 : World}
/-- beyond the temporaries nothing is said -/
def noneFrom (a : T Value) (N : Nat) : Prop := ∀ i, N ≤ i → tv a i = und
theorem TR.weaker {σ : Sg} {N : Nat} {t t2 : T Value} {a : Act} (h : TR σ N t a) (ht : allTmps t2 t N = true) (hn : noneFrom t2 N) : TR σ N t2 a := by
  refine ⟨h.size, fun i => ?_⟩
  rcases Nat.lt_or_ge i N with hi | hi
  · have h1 := allTmps_spec ht i hi
    unfold tmpIn at h1
    split at h1
    · rename_i hb
      rw [hb]; exact .any _
    · have := (veq_sound 30).1 _ _ h1
      rw [this]; exact h.val i
  · rw [hn i hi]
    have : a.tmps.getD i undef = undef := by simp [Array.getD_eq_getD_getElem?, Array.getElem?_eq_none (show a.tmps.size ≤ i by rw [h.size]; exact hi)]
    rw [this]
    exact VR.undef σ
/-- from here the loop ends so -/
def LG (E : Env) (P : Program) (w0 : World) (N fl : Nat) (c : Code) (l : RX) (t : T Value) (m : Mem) : Prop :=
  ∀ (σ : Sg) (a : Act) (w : World) (B : Nat) (Q : Exit → Act → World → Prop), TR σ N t a → MR E w0 σ m w → Marks B σ m w a.defers → Meets E w0 N B l m σ w Q → LoopFrom none fl P c Q a w
theorem FG.within {σ σ' : Sg} {m m2 m' : Mem} {w w' : World} (h : MIn m2 m) (hf : FG σ m2 w σ' m' w') : FG σ m w σ' m' w' :=
  { ext := hf.ext, size := hf.size, frame := fun b hb hl => hf.frame b hb fun hl' => hl (hl'.within h), grow := fun b hb => (hf.grow b hb).imp (fun h1 => h1.within h) id, n := h.1 ▸ hf.n, old := fun i hi => hf.old i (h.1 ▸ hi) }
theorem LG.weaker {N fl : Nat} {c : Code} {l : RX} {t t2 : T Value} {m m2 : Mem} (h : LG E P w0 N fl c l t2 m2) (ht : allTmps t2 t N = true) (hn : noneFrom t2 N) (hm : MIn m2 m) : LG E P w0 N fl c l t m := by
  intro σ a w B Q hT hM hK hQ
  refine h σ a w B Q (hT.weaker ht hn) (hM.within hm) ⟨hK.1, hK.2.1, fun d hd => ?_⟩ (fun r hr σ' a' w' g1 g2 g3 g4 => hQ r hr σ' a' w' (g1.within hm) g2 g3 g4)
  obtain ⟨r, h1, h2, h3, h4⟩ := hK.2.2 d hd
  exact ⟨r, h1, h2, h3, fun hl => h4 (hl.within hm)⟩
theorem LG.rounds (hE : EOK E P) (hP : P.follows .mixedOrders = true) {call : CallF} (hcall : CallOK E P w0 call) {N fuel fl : Nat} {c : Code} {l : RX} : ∀ (n : Nat) (t : T Value) (m : Mem) (t' : T Value) (m' : Mem),
    rounds (evCodeF E call false N fuel (compC E N c)) n t m = some (t', m') → LG E P w0 N fl c l t' m' → LG E P w0 N fl c l t m := by
  intro n
  induction n with
  | zero => intro t m t' m' h hl; cases h; exact hl
  | succ n ih =>
    intro t m t' m' h hl σ a w B Q hT hM hK hQ
    obtain ⟨t1, m1, h1, h2⟩ := oneNormal_inv h
    have hl1 := ih t1 m1 t' m' h2 hl
    rw [evCodeF_eq] at h1
    refine LoopFrom.round (evCode_wp hE hP hcall false (rr := none) (fun _ => rfl) N B fuel c fl t m σ a w _ (by rw [h1]; simp) hT hM hK ?_)
    intro r hr σ' a' w' g1 g2 g3 g4
    rw [h1] at hr
    obtain rfl := List.mem_singleton.1 hr
    exact hl1 σ' a' w' B Q g2 g3 g4 (fun r2 hr2 σ2 a2 w2 k1 k2 k3 k4 => hQ r2 hr2 σ2 a2 w2 (g1.trans k1) k2 k3 k4)
/-- the last round -/
theorem LG.last (hE : EOK E P) (hP : P.follows .mixedOrders = true) {call : CallF} (hcall : CallOK E P w0 call) {N fuel fl : Nat} {c : Code} {t tE : T Value} {m mE : Mem} {e : Ex} (he : e ≠ .normal)
    (h : evCodeF E call false N fuel (compC E N c) t m = [(e, tE, mE)]) : LG E P w0 N fl c [(e, tE, mE)] t m := by
  intro σ a w B Q hT hM hK hQ
  rw [evCodeF_eq] at h
  refine LoopFrom.round (evCode_wp hE hP hcall false (rr := none) (fun _ => rfl) N B fuel c fl t m σ a w _ (by rw [h]; simp) hT hM hK ?_)
  intro r hr σ' a' w' g1 g2 g3 g4
  rw [h] at hr
  have hQ' := hQ r hr σ' a' w' g1 g2 g3 g4
  obtain rfl := List.mem_singleton.1 hr
  cases e with
  | normal => exact absurd rfl he
  | exit i => exact hQ'
  | ret => exact hQ'
/-! ### code whose loops are answered beforehand -/
abbrev Hook := T Value → Mem → Option RX
def loopsOf : Code → List Code
  | .seq a b => loopsOf a ++ loopsOf b
  | .cond _ a b => loopsOf a ++ loopsOf b
  | .block _ b => loopsOf b
  | .loop b => [b]
  | _ => []
def evCodeH (E : Env) (call : CallF) (hook : Hook) (N fuel : Nat) : Code → T Value → Mem → RX
  | .seq a b, t, m => bindL (evCodeH E call hook N fuel a t m) fun
    | (.normal, t, m) => evCodeH E call hook N fuel b t m
    | r => [r]
  | .cond c a b, t, m => match evalT t c with
    | .bool true => evCodeH E call hook N fuel a t m
    | .bool false => evCodeH E call hook N fuel b t m
    | _ => []
  | .block id b, t, m => bindL (evCodeH E call hook N fuel b t m) fun
    | (.exit id', t, m) => [(cond (Nat.beq id id') .normal (.exit id'), t, m)]
    | r => [r]
  | .loop _, t, m => match hook t m with
    | some l => l
    | none => []
  | .skip, t, m => [(.normal, t, m)]
  | .region id ops d, t, m => evCode E call false N fuel (.region id ops d) t m
  | .exit id, t, m => [(.exit id, t, m)]
  | .ret, t, m => [(.ret, t, m)]
  | _, _, _ => []
theorem evCodeH_wp (hE : EOK E P) (hP : P.follows .mixedOrders = true) {call : CallF} (hcall : CallOK E P w0 call) {hook : Hook} (N B fuel : Nat) : ∀ c : Code, (∀ b ∈ loopsOf c, ∀ n t m l, hook t m = some l → LG E P w0 N n b l t m) → CodeOK E P w0 N B none (evCodeH E call hook N fuel c) c := by
  intro c
  induction c with
  | skip => intro _ n t m σ a w Q _ hT hM hK hQ; exact wpIn_skip (hQ (.normal, t, m) (List.mem_singleton.2 rfl) σ a w (FG.refl σ m w) hT hM hK)
  | region id ops d => intro _; exact evCode_wp hE hP hcall false (fun _ => rfl) N B fuel (.region id ops d)
  | seq x y ihx ihy =>
    intro hl n t m σ a w Q hne hT hM hK hQ
    simp only [evCodeH] at hne hQ
    have h0 := bindL_ne hne
    refine wpIn_seq (ihx (fun b hb => hl b (List.mem_append.2 (.inl hb))) n t m σ a w _ (bindL_src hne) hT hM hK ?_)
    rintro ⟨e, t1, m1⟩ hr σ' a' w' hf hT' hM' hd
    obtain ⟨h1, h2⟩ := h0 _ hr
    cases e with
    | normal => exact ihy (fun b hb => hl b (List.mem_append.2 (.inr hb))) n t1 m1 σ' a' w' Q h1 hT' hM' hd (fun r hr' σ2 a2 w2 g1 g2 g3 g4 => hQ r (h2 r hr') σ2 a2 w2 (hf.trans g1) g2 g3 g4)
    | exit i => exact hQ (.exit i, t1, m1) (h2 _ (List.mem_singleton.2 rfl)) σ' a' w' hf hT' hM' hd
    | ret => exact hQ (.ret, t1, m1) (h2 _ (List.mem_singleton.2 rfl)) σ' a' w' hf hT' hM' hd
  | cond x y z ihy ihz =>
    intro hl n t m σ a w Q hne hT hM hK hQ
    have hv := evalT_sound hT x
    simp only [evCodeH] at hne hQ
    split at hne
    · rename_i hx; rw [hx] at hv hQ
      exact wpIn_cond_true (hv.simple_inv rfl) (ihy (fun b hb => hl b (List.mem_append.2 (.inl hb))) n t m σ a w Q hne hT hM hK hQ)
    · rename_i hx; rw [hx] at hv hQ
      exact wpIn_cond_false (hv.simple_inv rfl) (ihz (fun b hb => hl b (List.mem_append.2 (.inr hb))) n t m σ a w Q hne hT hM hK hQ)
    · exact absurd rfl hne
  | block id y ih =>
    intro hl n t m σ a w Q hne hT hM hK hQ
    simp only [evCodeH] at hne hQ
    have h0 := bindL_ne hne
    refine wpIn_block (ih hl n t m σ a w _ (bindL_src hne) hT hM hK ?_)
    rintro ⟨e, t1, m1⟩ hr σ' a' w' hf hT' hM' hd
    obtain ⟨h1, h2⟩ := h0 _ hr
    cases e with
    | normal => exact hQ (.normal, t1, m1) (h2 _ (List.mem_singleton.2 rfl)) σ' a' w' hf hT' hM' hd
    | exit i =>
      have := hQ _ (h2 _ (List.mem_singleton.2 rfl)) σ' a' w' hf hT' hM' hd
      simp only [Ex.out, Exit.inBlock]
      by_cases e : i = id
      · rw [if_pos e]
        have hb : Nat.beq id i = true := by subst e; exact Nat.beq_refl _
        simp only [hb, cond] at this
        exact this
      · rw [if_neg e]
        have hb : Nat.beq id i = false := by
          cases h : Nat.beq id i with
          | false => rfl
          | true => exact absurd (Nat.eq_of_beq_eq_true h).symm e
        simp only [hb, cond] at this
        exact this
    | ret => exact hQ (.ret, t1, m1) (h2 _ (List.mem_singleton.2 rfl)) σ' a' w' hf hT' hM' hd
  | loop y _ =>
    intro hl n t m σ a w Q hne hT hM hK hQ
    simp only [evCodeH] at hne hQ
    cases hh : hook t m with
    | none => rw [hh] at hne; exact absurd rfl hne
    | some l =>
      rw [hh] at hQ
      exact (hl y (List.mem_singleton.2 rfl) n t m l hh σ a w B Q hT hM hK hQ).wp
  | exit id => intro _ n t m σ a w Q _ hT hM hK hQ; exact wpIn_exit (hQ (.exit id, t, m) (List.mem_singleton.2 rfl) σ a w (FG.refl σ m w) hT hM hK)
  | ret => intro _ n t m σ a w Q _ hT hM hK hQ; exact wpIn_ret (hQ (.ret, t, m) (List.mem_singleton.2 rfl) σ a w (FG.refl σ m w) hT hM hK)
  | _ => intro _ n t m σ a w Q hne; exact absurd rfl hne
def endH (E : Env) (fn : Func) (r : Ex × T Value × Mem) : List (Value × Mem) :=
  match r with
  | (.exit _, _, _) => []
  | (_, t, m) => match resultsA E t m fn.results.toList with
    | some l => [(tupled l, m)]
    | none => []
/-- a function one of whose loops is answered beforehand -/
def evFnH (E : Env) (call : CallF) (hook : Hook) (fuel : Nat) (f : FuncId) (args : List Value) (m : Mem) : List (Value × Mem) :=
  match E.funcs.get f with
  | none => []
  | some fn => match fn.body with
    | none => []
    | some c => match Nat.ble args.length fn.ntmps with
      | false => []
      | true => bindL (evCodeH E call hook fn.ntmps fuel c (T.ofList args) m) (endH E fn)
theorem evFnH_ok (hE : EOK E P) (hP : P.follows .mixedOrders = true) {call : CallF} (hcall : CallOK E P w0 call) {hook : Hook} {fuel : Nat} {f : FuncId} {args : List Value} {m : Mem} (hne : evFnH E call hook fuel f args m ≠ [])
    (hook_ok : ∀ fn c, P.funcs[f]? = some fn → fn.body = some c → ∀ b ∈ loopsOf c, ∀ n t m l, hook t m = some l → LG E P w0 fn.ntmps n b l t m) {σ : Sg} {w : World} {args' : Array Value} (hargs : VRL σ args args'.toList) (hM : MR E w0 σ m w) :
    Calls P f args' w (After E w0 σ m w (evFnH E call hook fuel f args m)) := by
  generalize hL : evFnH E call hook fuel f args m = L at hne ⊢
  unfold evFnH at hL
  split at hL
  · exact absurd hL.symm hne
  · rename_i fn hfn
    obtain ⟨hf, _, _⟩ := hE.funcs f fn hfn
    split at hL
    · exact absurd hL.symm hne
    · rename_i c hb
      split at hL
      · exact absurd hL.symm hne
      · rename_i hle
        have hle' : args.length ≤ fn.ntmps := Nat.le_of_ble_eq_true hle
        subst hL
        have h0 := bindL_ne hne
        refine calls_of_W (r := none) (n := 0) (callsIn_of_wp_marks hf hb trivial (evCodeH_wp hE hP hcall fn.ntmps w.heap.size fuel c (hook_ok fn c hf hb) 0 _ m σ _ w _ (bindL_src hne) (TR.enter hargs hle') hM (Marks.nil (Nat.le_refl _)) ?_))
        rintro ⟨e, t1, m1⟩ hr σ' a' w' hf' hT' hM' hd
        obtain ⟨h1, h2⟩ := h0 _ hr
        have out : ∀ vs, resultsA E t1 m1 fn.results.toList = some vs → (tupled vs, m1) ∈ bindL (evCodeH E call hook fn.ntmps fuel c (T.ofList args) m) (endH E fn) →
            LeavesInM (WF none) 0 P fn a'.tmps (After E w0 σ m w (bindL (evCodeH E call hook fn.ntmps fuel c (T.ofList args) m) (endH E fn))) a'.defers .returning w' := by
          intro vs hvs hmem
          refine leaves_marks a'.defers w' hM' hd hM.below.size (fun w'' g1 g2 g3 => ?_)
          obtain ⟨v', k1, k2⟩ := results_sound hE hT' g1 hvs
          refine ⟨v', k1, (tupled vs, m1), hmem, σ', v', rfl, ⟨hf'.ext, by have := hf'.size; omega, fun b hb hl => ?_, hf'.grow, hf'.n, hf'.old⟩, k2, g1⟩
          rw [g3 b (by have := hf'.size; omega) (fun hB => by omega)]
          exact hf'.frame b hb hl
        cases e with
        | exit i => exact absurd rfl h1
        | normal =>
          simp only [endH] at h1 h2
          split at h1
          · rename_i vs hvs
            simp only [hvs] at h2
            exact out vs hvs (h2 _ (List.mem_singleton.2 rfl))
          · exact absurd rfl h1
        | ret =>
          simp only [endH] at h1 h2
          split at h1
          · rename_i vs hvs
            simp only [hvs] at h2
            exact out vs hvs (h2 _ (List.mem_singleton.2 rfl))
          · exact absurd rfl h1
/-! ### pieces, as the kernel reckons them -/
def chunkOK (E : Env) (call : CallF) (N fuel : Nat) (c : Code) (n : Nat) (t : T Value) (m : Mem) (t2 : T Value) (m2 : Mem) : Bool :=
  match rounds (evCodeF E call false N fuel (compC E N c)) n t m with
  | some (t', m') => cond (allTmps t2 t' N) (memIn m2 m') false
  | none => false
def exEq (a b : Ex) : Bool :=
  match a, b with
  | .exit i, .exit j => Nat.beq i j
  | .ret, .ret => true
  | _, _ => false
def lastIs (N : Nat) (X : Ex) (tE : T Value) (mE : Mem) (l : RX) : Bool :=
  match l with
  | [(e, t2, m2)] => cond (exEq e X) (cond (allTmps tE t2 N) (memIn mE m2) false) false
  | _ => false
def lastOK (E : Env) (call : CallF) (N fuel : Nat) (c : Code) (n : Nat) (t : T Value) (m : Mem) (X : Ex) (tE : T Value) (mE : Mem) : Bool :=
  match rounds (evCodeF E call false N fuel (compC E N c)) n t m with
  | some (t', m') => lastIs N X tE mE (evCodeF E call false N fuel (compC E N c) t' m')
  | none => false
theorem noneFrom_ofList {l : List Value} {N : Nat} (h : Nat.ble l.length N = true) : noneFrom (T.ofList l) N := by
  intro i hi
  have := Nat.le_of_ble_eq_true h
  simp only [tv, T.get_ofList, List.getElem?_eq_none (show l.length ≤ i by omega)]
theorem LG.chunk (hE : EOK E P) (hP : P.follows .mixedOrders = true) {call : CallF} (hcall : CallOK E P w0 call) {N fuel fl n : Nat} {c : Code} {l : RX} {t t2 : T Value} {m m2 : Mem}
    (h : chunkOK E call N fuel c n t m t2 m2 = true) (hn : noneFrom t2 N) (hl : LG E P w0 N fl c l t2 m2) : LG E P w0 N fl c l t m := by
  unfold chunkOK at h
  split at h
  · rename_i t' m' hr
    cases h1 : allTmps t2 t' N with
    | false => rw [h1] at h; cases h
    | true =>
      rw [h1] at h
      exact LG.rounds hE hP hcall n t m t' m' hr (hl.weaker h1 hn (memIn_spec h))
  · cases h
theorem exEq_spec {a b : Ex} (h : exEq a b = true) : a = b ∧ a ≠ .normal := by
  unfold exEq at h
  split at h
  · rw [Nat.eq_of_beq_eq_true h]; exact ⟨rfl, by simp⟩
  · exact ⟨rfl, by simp⟩
  · cases h
theorem LG.lastly (hE : EOK E P) (hP : P.follows .mixedOrders = true) {call : CallF} (hcall : CallOK E P w0 call) {N fuel fl n : Nat} {c : Code} {X : Ex} {t tE : T Value} {m mE : Mem}
    (h : lastOK E call N fuel c n t m X tE mE = true) (hn : noneFrom tE N) : LG E P w0 N fl c [(X, tE, mE)] t m := by
  unfold lastOK at h
  split at h
  · rename_i t' m' hr
    refine LG.rounds hE hP hcall n t m t' m' hr ?_
    unfold lastIs at h
    split at h
    · rename_i e t2 m2 hl
      cases h1 : exEq e X with
      | false => rw [h1] at h; cases h
      | true =>
        cases h2 : allTmps tE t2 N with
        | false => rw [h1, h2] at h; cases h
        | true =>
          rw [h1, h2] at h
          have hm : MIn mE m2 := memIn_spec h
          obtain ⟨rfl, hne⟩ := exEq_spec h1
          intro σ a w B Q hT hM hK hQ
          refine LG.last hE hP hcall hne hl σ a w B Q hT hM hK (fun r hr σ' a' w' g1 g2 g3 g4 => ?_)
          obtain rfl := List.mem_singleton.1 hr
          refine hQ _ (List.mem_singleton.2 rfl) σ' a' w' ?_ (g2.weaker h2 hn) (g3.within hm) ⟨g4.1, g4.2.1, fun d hd => ?_⟩
          · exact { ext := g1.ext, size := g1.size, frame := g1.frame, grow := fun b hb => g1.grow b (hb.within hm), n := Nat.le_trans g1.n (Nat.le_of_eq hm.1.symm), old := g1.old }
          · obtain ⟨q, k1, k2, k3, k4⟩ := g4.2.2 d hd
            exact ⟨q, k1, k2, k3, fun hl => k4 (hl.within hm)⟩
    · cases h
  · cases h
def hookOf (N : Nat) (t0 : T Value) (m0 : Mem) (l : RX) : Hook := fun t m => cond (allTmps t0 t N) (cond (memIn m0 m) (some l) none) none
/-- a function one of whose loops is known -/
def loopS (E : Env) (call : CallF) (hook : Hook) (fuel : Nat) (rob : FuncId) : Sums := fun f args m =>
  match Nat.beq f rob with
  | true => some (evFnH E call hook fuel f args m)
  | false => none
theorem loopS_ok (hE : EOK E P) (hP : P.follows .mixedOrders = true) {call : CallF} (hcall : CallOK E P w0 call) {rob : FuncId} {fn : Func} {body c : Code} (hfn : P.funcs[rob]? = some fn) (hb : fn.body = some body) (hlo : loopsOf body = [c]) {fuel : Nat} {t0 : T Value} {m0 : Mem} {l : RX}
    (hn0 : noneFrom t0 fn.ntmps) (hl : ∀ n, LG E P w0 fn.ntmps n c l t0 m0) : SOK E P w0 (loopS E call (hookOf fn.ntmps t0 m0 l) fuel rob) := by
  intro f args m r hr hne σ w args' hargs hM
  unfold loopS at hr
  split at hr
  · rename_i hf
    obtain rfl := Nat.eq_of_beq_eq_true hf
    cases hr
    refine evFnH_ok hE hP hcall hne (fun fn' c' hfn' hc' b hb' n t m l' hh => ?_) hargs hM
    rw [hfn] at hfn'
    cases hfn'
    rw [hb] at hc'
    cases hc'
    rw [hlo] at hb'
    obtain rfl := List.mem_singleton.1 hb'
    unfold hookOf at hh
    cases h1 : allTmps t0 t fn.ntmps with
    | false => rw [h1] at hh; cases hh
    | true =>
      cases h2 : memIn m0 m with
      | false => rw [h1, h2] at hh; cases hh
      | true =>
        rw [h1, h2] at hh
        cases hh
        exact (hl n).weaker h1 hn0 (memIn_spec h2)
  · cases hr
end
end Go.AE
