/- YtppdhckcempmnaaGreatDoorAEDrawA; YtppdhckcempmnaaGreatDoorAEDrawB; YtppdhckcempmnaaGreatDoorAEDrawC; YtppdhckcempmnaaGreatDoorAEDrawD; YtppdhckcempmnaaGreatDoorAEDrawE; YtppdhckcempmnaaGreatDoorAEDrawF: in one text. -/
import Derived.Test.YtppdhckcempmnaaGreatDoorAECode
import Derived.Orders
/- Regions whose order is open: facts on the operations and on the order that the edges ask. -/
namespace Go.AE
open Go.RowKit
variable {E : Env} {P : Program} {w0 : World}
/-! ### equal values -/
theorem veq_sound : ∀ n, (∀ a b, veq n a b = true → a = b) ∧ (∀ l r, veqL n l r = true → l = r) := by
  intro n
  induction n with
  | zero => exact ⟨fun a b h => by simp [veq] at h, fun l r h => by simp [veqL] at h⟩
  | succ n ih =>
    obtain ⟨ih1, ih2⟩ := ih
    have arr : ∀ {x y : Array Value}, veqL n x.toList y.toList = true → x = y := fun h => Array.ext' (ih2 _ _ h)
    constructor
    · intro a b h
      unfold veq at h
      split at h <;> first
        | (simp only [Bool.and_eq_true] at h
           simp_all [Nat.beq_eq]
           done)
        | (cases h; done)
        | skip
      · rename_i p q; have : p = q := by simpa using h
        rw [this]
      · simp only [Bool.and_eq_true, beq_iff_eq] at h
        rw [kcode_inj h.1, h.2]
      · rename_i p q
        have h1 : p.data.toList = q.data.toList := by simpa using h
        have : p = q := ByteArray.ext (Array.ext' h1)
        rw [this]
      · rw [Nat.eq_of_beq_eq_true h]
      · simp only [Bool.and_eq_true] at h
        rw [Nat.eq_of_beq_eq_true h.1.1, arr h.1.2, arr h.2]
      · simp only [Bool.and_eq_true] at h
        rw [Nat.eq_of_beq_eq_true h.1, ih1 _ _ h.2]
      · rw [arr h]
      · rw [arr h]
    · intro l r h
      unfold veqL at h
      split at h
      · rfl
      · simp only [Bool.and_eq_true] at h
        rw [ih1 _ _ h.1, ih2 _ _ h.2]
      · cases h
/-! ### what an operation looks at -/
theorem callA_congr {ρ ρ2 : Operand → Value} (c : Call) (m : Mem) (h : ∀ x ∈ c.operands, ρ x = ρ2 x) : callA E ρ c m = callA E ρ2 c m := by
  have ha : ∀ x ∈ c.args, ρ x = ρ2 x := fun x hx => h x (by simp [Call.operands, hx])
  have h1 : ∀ {x : Operand}, c.args.toList = [x] → ρ x = ρ2 x := fun hx => ha _ (by rw [← Array.mem_toList_iff, hx]; simp)
  have h2 : ∀ {x y : Operand}, c.args.toList = [x, y] → ρ x = ρ2 x ∧ ρ y = ρ2 y := fun hx => ⟨ha _ (by rw [← Array.mem_toList_iff, hx]; simp), ha _ (by rw [← Array.mem_toList_iff, hx]; simp)⟩
  have h3 : c.args.toList.map ρ = c.args.toList.map ρ2 := List.map_congr_left fun x hx => ha x (Array.mem_toList_iff.1 hx)
  unfold callA
  split
  · split
    · rename_i hx; rw [h1 hx]
    · rfl
  · split
    · rename_i hx; rw [(h2 hx).1, (h2 hx).2]
    · rfl
  · split
    · rename_i hx; rw [(h2 hx).1, (h2 hx).2]
    · rfl
  · split
    · rename_i hx; rw [(h2 hx).1, (h2 hx).2]
    · rfl
  · split
    · rename_i hx; rw [(h2 hx).1, (h2 hx).2]
    · rfl
  · split
    · rename_i hx; rw [(h2 hx).1, (h2 hx).2]
    · rfl
  · rename_i f hc
    have hf : ρ f = ρ2 f := h f (by simp [Call.operands, hc])
    rw [hf, h3]
  · rename_i r name hc
    have hf : ρ r = ρ2 r := h r (by simp [Call.operands, hc])
    rw [hf, h3]
  · rfl
theorem evOp_congr {ρ ρ2 : Operand → Value} (o : Oper) (m : Mem) (h : ∀ x ∈ o.op.operands, ρ x = ρ2 x) : evOp E ρ o m = evOp E ρ2 o m := by
  unfold evOp
  have omap : ∀ {x : Option Operand}, (∀ y, x = some y → ρ y = ρ2 y) → x.map ρ = x.map ρ2 := by
    intro x hx; cases x with
    | none => rfl
    | some y => simp [hx y rfl]
  have amap : ∀ {x : Array Operand}, (∀ y ∈ x, ρ y = ρ2 y) → x.map ρ = x.map ρ2 := fun hx => Array.ext' (by
    rw [Array.toList_map, Array.toList_map]; exact List.map_congr_left fun y hy => hx y (Array.mem_toList_iff.1 hy))
  have pmap : ∀ {x : Array (Nat × Operand)}, (∀ p ∈ x, ρ p.2 = ρ2 p.2) → x.toList.map (fun p => (p.1, ρ p.2)) = x.toList.map (fun p => (p.1, ρ2 p.2)) := fun hx => List.map_congr_left fun y hy => by rw [hx y (Array.mem_toList_iff.1 hy)]
  cases hop : o.op <;> rw [hop] at h <;> simp only [Op.operands] at h <;> first
    | rfl
    | (simp only [List.mem_toArray, List.mem_cons, List.not_mem_nil, or_false, forall_eq_or_imp, forall_eq] at h
       simp only [h]
       done)
    | skip
  case build t parts => simp only [pmap fun p hp => h p.2 (by rw [List.mem_toArray]; exact List.mem_map.2 ⟨p, Array.mem_toList_iff.2 hp, rfl⟩)]
  case buildSlice t len parts => simp only [pmap fun p hp => h p.2 (by rw [List.mem_toArray]; exact List.mem_map.2 ⟨p, Array.mem_toList_iff.2 hp, rfl⟩)]
  case makeFunc fn first captured => simp only [amap fun y hy => h y (Array.mem_append.2 (.inl hy)), amap fun y hy => h y (Array.mem_append.2 (.inr hy))]
  case makeMap t r => cases r <;> rfl
  case slice t x lo hi mx =>
    have e0 : ρ x = ρ2 x := h x (by simp)
    have e1 : lo.map ρ = lo.map ρ2 := omap fun y hy => h y (by simp [hy])
    have e2 : hi.map ρ = hi.map ρ2 := omap fun y hy => h y (by simp [hy])
    have e3 : mx.map ρ = mx.map ρ2 := omap fun y hy => h y (by simp [hy])
    simp only [e0, e1, e2, e3]
  case call c => simp only [callA_congr c m h]
theorem evOp_memFree {ρ : Operand → Value} (o : Oper) (m m2 : Mem) (h : memFree o.op = true) : evOp E ρ o m = evOp E ρ o m2 := by
  unfold evOp
  cases hop : o.op <;> rw [hop] at h <;> first
    | (cases h; done)
    | rfl
    | skip
  case makeMap t r => cases r <;> rfl
  case call c =>
    simp only [memFree] at h
    unfold callA
    split at h <;> first | (cases h; done) | (rename_i hc; simp only [hc])
/-- the operation is met with values that fit at its operands alone -/
theorem evOp_at (hE : EOK E P) {σ : Sg} {m : Mem} {w : World} (h : MR E w0 σ m w) {ρ ρ' : Operand → Value} (o : Oper) (hρ : ∀ x ∈ o.op.operands, VR σ (ρ x) (ρ' x)) (hne : evOp E ρ o m ≠ []) : ∃ out ∈ evOp E ρ o m, OutOK E P w0 σ m w (execOp ρ' o) out := by
  classical
  have hc : evOp E (fun x => if x ∈ o.op.operands then ρ x else bad) o m = evOp E ρ o m := evOp_congr o m fun x hx => by simp [hx]
  rw [← hc] at hne ⊢
  refine evOp_sound hE h (fun x => ?_) o hne
  by_cases hx : x ∈ o.op.operands
  · simp only [hx, if_true]; exact hρ x hx
  · simp only [hx, if_false]; exact .any _
/-! ### the edges -/
theorem orEdges_spec {acc : List Nat} : ∀ {l : List Edge} {s j : Nat}, (orEdges acc l s).testBit j = true → s.testBit j = true ∨ ∃ e ∈ l, Region.binds .any e = true ∧ (e.on = j ∨ (acc.getD e.on 0).testBit j = true) := by
  intro l
  induction l with
  | nil => intro s j h; exact .inl h
  | cons e l ih =>
    intro s j h
    simp only [orEdges] at h
    rcases ih h with h1 | ⟨x, hx, h2⟩
    · split at h1
      · rename_i hb
        rw [Nat.testBit_or, Nat.testBit_or] at h1
        simp only [Bool.or_eq_true] at h1
        rcases h1 with (h1 | h1) | h1
        · exact .inl h1
        · refine .inr ⟨e, by simp, hb, .inl ?_⟩
          rw [Nat.testBit_two_pow] at h1
          simpa using h1
        · exact .inr ⟨e, by simp, hb, .inr h1⟩
      · exact .inl h1
    · exact .inr ⟨x, by simp [hx], h2⟩
/-- each mask is reckoned off the ones before it -/
theorem masks_spec : ∀ (l : List Oper) (acc : List Nat), (∃ rest, masks l acc = acc ++ rest ∧ rest.length = l.length) ∧ ∀ (i : Nat) (o : Oper), l[i]? = some o → (masks l acc)[acc.length + i]? = some (orEdges ((masks l acc).take (acc.length + i)) o.after.toList 0) := by
  intro l
  induction l with
  | nil => intro acc; exact ⟨⟨[], by simp [masks], rfl⟩, fun i o h => by simp at h⟩
  | cons o l ih =>
    intro acc
    obtain ⟨⟨rest, h1, h2⟩, h3⟩ := ih (acc ++ [orEdges acc o.after.toList 0])
    simp only [masks]
    refine ⟨⟨orEdges acc o.after.toList 0 :: rest, by rw [h1]; simp, by simp [h2]⟩, fun i p hp => ?_⟩
    cases i with
    | zero =>
      cases hp
      rw [h1]
      simp
    | succ i =>
      have h4 := h3 i p (by simpa using hp)
      simp only [List.length_append, List.length_cons, List.length_nil] at h4
      rw [show acc.length + (i + 1) = acc.length + (0 + 1) + i from by omega]
      exact h4
/-- what has been listed is closed under the masks -/
theorem masks_closed {ops : Array Oper} {D : Nat → Bool} (hD : ∀ (i : Nat) (o : Oper), ops.toList[i]? = some o → D i = true → ∀ e ∈ o.after.toList, Region.binds .any e = true → D e.on = true) :
    ∀ (i j : Nat), D i = true → ((masks ops.toList []).getD i 0).testBit j = true → D j = true := by
  intro i
  induction i using Nat.strongRecOn with
  | _ i ih =>
    intro j hi hb
    have h3 := (masks_spec ops.toList []).2 i
    simp only [List.length_nil, Nat.zero_add] at h3
    cases ho : ops.toList[i]? with
    | none =>
      obtain ⟨rest, h1, h2⟩ := (masks_spec ops.toList []).1
      have hlen : (masks ops.toList []).length = ops.toList.length := by rw [h1]; simpa using h2
      have hge : ops.toList.length ≤ i := by
        rcases Nat.lt_or_ge i ops.toList.length with h | h
        · rw [List.getElem?_eq_getElem h] at ho; cases ho
        · exact h
      rw [List.getD_eq_getElem?_getD, List.getElem?_eq_none (by omega)] at hb
      simp at hb
    | some o =>
      rw [List.getD_eq_getElem?_getD, h3 o ho] at hb
      simp only [Option.getD_some] at hb
      rcases orEdges_spec hb with h1 | ⟨e, he, hbi, h1⟩
      · simp at h1
      · have hon := hD i o ho hi e he hbi
        rcases h1 with rfl | h1
        · exact hon
        · by_cases hlt : e.on < i
          · refine ih e.on hlt j hon ?_
            have : ((masks ops.toList []).take i).getD e.on 0 = (masks ops.toList []).getD e.on 0 := by
              rw [List.getD_eq_getElem?_getD, List.getD_eq_getElem?_getD, List.getElem?_take, if_pos hlt]
            rwa [this] at h1
          · rw [List.getD_eq_getElem?_getD, List.getElem?_eq_none (by simp; omega)] at h1
            simp at h1
theorem edgesOK_spec : ∀ {l : List Oper} {j : Nat}, edgesOK l j = true → ∀ (i : Nat) (o : Oper), l[i]? = some o → ∀ e ∈ o.after.toList, Region.binds .any e = true → e.on < j + i := by
  intro l
  induction l with
  | nil => intro j _ i o h; simp at h
  | cons p l ih =>
    intro j h i o ho e he hb
    simp only [edgesOK] at h
    cases h1 : (p.after.toList.all fun e => !Region.binds .any e || Nat.blt e.on j) with
    | false => rw [h1] at h; cases h
    | true =>
      rw [h1] at h
      cases i with
      | zero =>
        cases ho
        have := List.all_eq_true.1 h1 e he
        rw [hb] at this
        simp only [Bool.not_true, Bool.false_or] at this
        exact Nat.le_of_ble_eq_true this
      | succ i =>
        have := ih h i o (by simpa using ho) e he hb
        omega
theorem conflOK_spec {ops : Array Oper} {B : List Nat} {o : Oper} {b : Nat} : ∀ {l : List Oper} {i : Nat}, conflOK ops B o b l i = true → ∀ (k : Nat) (p : Oper), l[k]? = some p → confl ops p o = true → b.testBit (i + k) = true := by
  intro l
  induction l with
  | nil => intro i _ k p h; simp at h
  | cons q l ih =>
    intro i h k p hp hc
    simp only [conflOK] at h
    cases k with
    | zero =>
      cases hp
      rw [hc] at h
      simp only at h
      cases hb : Nat.testBit b i with
      | true => first | exact hb | rfl
      | false => rw [hb] at h; cases h
    | succ k =>
      have h2 : conflOK ops B o b l (i + 1) = true := by
        split at h
        · cases hb : Nat.testBit b i with
          | true => rw [hb] at h; exact h
          | false => rw [hb] at h; cases h
        · exact h
      have := ih h2 k p (by simpa using hp) hc
      rw [show i + (k + 1) = i + 1 + k from by omega]; exact this
theorem tmpsOK_spec {ops : Array Oper} {B : List Nat} : ∀ {l : List Oper} {j : Nat}, tmpsOK ops B l j = true → ∀ (k : Nat) (o : Oper), l[k]? = some o → ∀ (i : Nat) (p : Oper), i < j + k → ops.toList[i]? = some p → confl ops p o = true → (B.getD (j + k) 0).testBit i = true := by
  intro l
  induction l with
  | nil => intro j _ k o h; simp at h
  | cons q l ih =>
    intro j h k o ho i p hi hp hc
    simp only [tmpsOK] at h
    cases h1 : conflOK ops B q (B.getD j 0) (ops.toList.take j) 0 with
    | false => rw [h1] at h; cases h
    | true =>
      rw [h1] at h
      cases k with
      | zero =>
        cases ho
        have := conflOK_spec h1 i p (by rw [List.getElem?_take, if_pos (by omega)]; exact hp) hc
        simpa using this
      | succ k =>
        have := ih h k o (by simpa using ho) i p (by omega) hp hc
        rw [show j + (k + 1) = j + 1 + k from by omega]; exact this
theorem memN_iff {x : Nat} : ∀ {l : List Nat}, memN x l = true ↔ x ∈ l := by
  intro l
  induction l with
  | nil => simp [memN]
  | cons y l ih =>
    simp only [memN]
    cases h : Nat.beq x y with
    | true => simp [Nat.eq_of_beq_eq_true h]
    | false =>
      have : x ≠ y := fun e => by rw [e, Nat.beq_refl] at h; cases h
      simp [this, ih]
end Go.AE

/- Regions whose order is open: what the reckoning in the order of the text knows. -/
namespace Go.AE
open Go.RowKit
variable {E : Env} {P : Program} {w0 : World}
def Cl.isEff : Cl → Bool
  | .eff _ _ => true
  | _ => false
def Cl.isAlloc : Cl → Bool
  | .alloc _ _ => true
  | _ => false
structure RunOK (E : Env) (call : CallF) (ops : Array Oper) (B : List Nat) (n N N0 : Nat) (M0 : Mem) (t0 : T Value) (S : Nat → DS) (c : Nat → Cl) : Prop where
  start : S 0 = ⟨t0, M0, [], [], [], 0⟩
  cls : ∀ k o, ops.toList[k]? = some o → clsD E call ops n N0 M0 (S k) o (B.getD k 0) = some (c k)
  step : ∀ k o, ops.toList[k]? = some o → S (k + 1) = applyD N N0 (S k) k o (B.getD k 0) (c k)
theorem runD_ok {call : CallF} {ops : Array Oper} {B : List Nat} {n N N0 : Nat} {M0 : Mem} : ∀ (l : List Oper) (i : Nat) (S0 Sf : DS), runD E call ops B n N N0 M0 l i S0 = some Sf →
    ∃ (S : Nat → DS) (c : Nat → Cl), S 0 = S0 ∧ S l.length = Sf ∧ ∀ (k : Nat) (o : Oper), l[k]? = some o → clsD E call ops n N0 M0 (S k) o (B.getD (i + k) 0) = some (c k) ∧ S (k + 1) = applyD N N0 (S k) (i + k) o (B.getD (i + k) 0) (c k) := by
  intro l
  induction l with
  | nil => intro i S0 Sf h; simp [runD] at h; exact ⟨fun _ => S0, fun _ => .skip, rfl, h, fun k o ho => by simp at ho⟩
  | cons o l ih =>
    intro i S0 Sf h
    simp only [runD] at h
    split at h
    · cases h
    · rename_i c0 hc
      obtain ⟨S, c, h1, h2, h3⟩ := ih (i + 1) _ Sf h
      refine ⟨fun k => match k with | 0 => S0 | k + 1 => S k, fun k => match k with | 0 => c0 | k + 1 => c k, rfl, h2, fun k p hp => ?_⟩
      cases k with
      | zero => cases hp; exact ⟨hc, h1⟩
      | succ k =>
        have := h3 k p (by simpa using hp)
        rw [show i + (k + 1) = i + 1 + k from by omega]
        exact this
section
variable {call : CallF} {ops : Array Oper} {B : List Nat} {n N N0 : Nat} {M0 : Mem} {t0 : T Value} {S : Nat → DS} {c : Nat → Cl}
def chainOf (c : Nat → Cl) (M0 : Mem) (D : Nat → Bool) : Nat → Mem
  | 0 => M0
  | k + 1 => match D k, c k with
    | true, .eff _ m => m
    | _, _ => chainOf c M0 D k
/-- taken in by an operation of D -/
def Mg (c : Nat → Cl) (B : List Nat) (n : Nat) (D : Nat → Bool) (j : Nat) : Prop := ∃ e, e < n ∧ D e = true ∧ (c e).isEff = true ∧ (B.getD e 0).testBit j = true
theorem dropAllocs_mem {b : Nat} : ∀ {l : List (Nat × AObj)} {x : Nat × AObj}, x ∈ dropAllocs b l ↔ x ∈ l ∧ b.testBit x.1 = false := by
  intro l
  induction l with
  | nil => intro x; simp [dropAllocs]
  | cons y l ih =>
    intro x
    obtain ⟨j, ob⟩ := y
    simp only [dropAllocs]
    cases h : Nat.testBit b j with
    | true =>
      simp only [cond, ih, List.mem_cons]
      constructor
      · exact fun ⟨h1, h2⟩ => ⟨.inr h1, h2⟩
      · rintro ⟨rfl | h1, h2⟩
        · rw [h] at h2; cases h2
        · exact ⟨h1, h2⟩
    | false =>
      simp only [cond, List.mem_cons, ih]
      constructor
      · rintro (rfl | ⟨h1, h2⟩)
        · exact ⟨.inl rfl, h⟩
        · exact ⟨.inr h1, h2⟩
      · rintro ⟨rfl | h1, h2⟩
        · exact .inl rfl
        · exact .inr ⟨h1, h2⟩
/-- what stands in the reckoning's records behind k operations -/
structure Recs (c : Nat → Cl) (ops : Array Oper) (B : List Nat) (M0 : Mem) (S : Nat → DS) (k : Nat) : Prop where
  effs : ∀ e m, (e, m) ∈ (S k).effs ↔ e < k ∧ ∃ v, c e = .eff v m
  sorted : (S k).effs.Pairwise (fun x y => y.1 < x.1)
  chain : (S k).chain = chainOf c M0 (fun _ => true) k
  allocs : ∀ i ob, (i, ob) ∈ (S k).allocs ↔ i < k ∧ (∃ mk, c i = .alloc ob mk) ∧ ∀ e, e < k → i < e → (c e).isEff = true → (B.getD e 0).testBit i = false
  reads : ∀ i o t v, (i, o, t, v) ∈ (S k).reads ↔ i < k ∧ ops.toList[i]? = some o ∧ c i = .read v ∧ t = (S i).t
  mask : ∀ j, (S k).mask.testBit j = true ↔ ∃ e, e < k ∧ (c e).isEff = true ∧ (B.getD e 0).testBit j = true
theorem recs (R : RunOK E call ops B n N N0 M0 t0 S c) : ∀ k, k ≤ ops.toList.length → Recs c ops B M0 S k := by
  intro k
  induction k with
  | zero =>
    intro _
    refine ⟨fun e m => ?_, ?_, ?_, fun i ob => ?_, fun i o t v => ?_, fun j => ?_⟩ <;> rw [R.start] <;> simp [chainOf]
  | succ k ih =>
    intro hk
    have I := ih (by omega)
    have ho : ops.toList[k]? = some (ops.toList[k]'(by omega)) := List.getElem?_eq_getElem (by omega)
    generalize ops.toList[k]'(by omega) = o at ho
    have hs := R.step k o ho
    have lt : ∀ {e : Nat}, e < k + 1 ↔ e < k ∨ e = k := fun {e} => by omega
    have noEff : (c k).isEff = false → ∀ {e m}, ((e < k + 1 ∧ ∃ v, c e = .eff v m) ↔ (e < k ∧ ∃ v, c e = .eff v m)) := by
      intro hne e m
      constructor
      · rintro ⟨h1, v, h2⟩
        rcases lt.1 h1 with h3 | rfl
        · exact ⟨h3, v, h2⟩
        · rw [h2] at hne; cases hne
      · rintro ⟨h1, h2⟩; exact ⟨by omega, h2⟩
    have noAlloc : (c k).isEff = false → (∀ ob mk, c k ≠ .alloc ob mk) → ∀ {i ob}, ((i < k + 1 ∧ (∃ mk, c i = .alloc ob mk) ∧ ∀ e, e < k + 1 → i < e → (c e).isEff = true → (B.getD e 0).testBit i = false) ↔ (i < k ∧ (∃ mk, c i = .alloc ob mk) ∧ ∀ e, e < k → i < e → (c e).isEff = true → (B.getD e 0).testBit i = false)) := by
      intro hne hna i ob
      constructor
      · rintro ⟨h1, ⟨mk, h2⟩, h3⟩
        rcases lt.1 h1 with h4 | rfl
        · exact ⟨h4, ⟨mk, h2⟩, fun e he => h3 e (by omega)⟩
        · exact absurd h2 (hna ob mk)
      · rintro ⟨h1, h2, h3⟩
        refine ⟨by omega, h2, fun e he hie hef => ?_⟩
        rcases lt.1 he with h4 | rfl
        · exact h3 e h4 hie hef
        · rw [hne] at hef; cases hef
    have noMask : (c k).isEff = false → ∀ {j}, ((∃ e, e < k + 1 ∧ (c e).isEff = true ∧ (B.getD e 0).testBit j = true) ↔ (∃ e, e < k ∧ (c e).isEff = true ∧ (B.getD e 0).testBit j = true)) := by
      intro hne j
      constructor
      · rintro ⟨e, h1, h2, h3⟩
        rcases lt.1 h1 with h4 | rfl
        · exact ⟨e, h4, h2, h3⟩
        · rw [hne] at h2; cases h2
      · rintro ⟨e, h1, h2⟩; exact ⟨e, by omega, h2⟩
    have noRead : (∀ v, c k ≠ .read v) → ∀ {i o t v}, ((i < k + 1 ∧ ops.toList[i]? = some o ∧ c i = .read v ∧ t = (S i).t) ↔ (i < k ∧ ops.toList[i]? = some o ∧ c i = .read v ∧ t = (S i).t)) := by
      intro hnr i o t v
      constructor
      · rintro ⟨h1, h2, h3, h4⟩
        rcases lt.1 h1 with h5 | rfl
        · exact ⟨h5, h2, h3, h4⟩
        · exact absurd h3 (hnr v)
      · rintro ⟨h1, h2⟩; exact ⟨by omega, h2⟩
    have chN : (c k).isEff = false → chainOf c M0 (fun _ => true) (k + 1) = chainOf c M0 (fun _ => true) k := by
      intro hne
      simp only [chainOf]
      split
      · rename_i h2; rw [h2] at hne; cases hne
      · rfl
    cases hc : c k with
    | skip =>
      have e1 : (c k).isEff = false := by rw [hc]; rfl
      rw [hc] at hs
      refine ⟨fun e m => ?_, ?_, ?_, fun i ob => ?_, fun i o t v => ?_, fun j => ?_⟩ <;> rw [hs] <;> simp only [applyD]
      · rw [noEff e1]; exact I.effs e m
      · exact I.sorted
      · rw [chN e1]; exact I.chain
      · rw [noAlloc e1 (fun ob mk => by rw [hc]; simp)]; exact I.allocs i ob
      · rw [noRead (fun v => by rw [hc]; simp)]; exact I.reads i o t v
      · rw [noMask e1]; exact I.mask j
    | pure v0 =>
      have e1 : (c k).isEff = false := by rw [hc]; rfl
      rw [hc] at hs
      refine ⟨fun e m => ?_, ?_, ?_, fun i ob => ?_, fun i o t v => ?_, fun j => ?_⟩ <;> rw [hs] <;> simp only [applyD]
      · rw [noEff e1]; exact I.effs e m
      · exact I.sorted
      · rw [chN e1]; exact I.chain
      · rw [noAlloc e1 (fun ob mk => by rw [hc]; simp)]; exact I.allocs i ob
      · rw [noRead (fun v => by rw [hc]; simp)]; exact I.reads i o t v
      · rw [noMask e1]; exact I.mask j
    | read v0 =>
      have e1 : (c k).isEff = false := by rw [hc]; rfl
      have hs' := hs
      rw [hc] at hs
      refine ⟨fun e m => ?_, ?_, ?_, fun i ob => ?_, fun i p t v => ?_, fun j => ?_⟩ <;> rw [hs] <;> simp only [applyD]
      · rw [noEff e1]; exact I.effs e m
      · exact I.sorted
      · rw [chN e1]; exact I.chain
      · rw [noAlloc e1 (fun ob mk => by rw [hc]; simp)]; exact I.allocs i ob
      · rw [List.mem_cons, I.reads i p t v]
        constructor
        · rintro (h | ⟨h1, h2⟩)
          · cases h; exact ⟨by omega, ho, hc, rfl⟩
          · exact ⟨by omega, h2⟩
        · rintro ⟨h1, h2, h3, h4⟩
          rcases lt.1 h1 with h5 | rfl
          · exact .inr ⟨h5, h2, h3, h4⟩
          · rw [ho] at h2; cases h2
            rw [hc] at h3; cases h3
            exact .inl (by rw [h4])
      · rw [noMask e1]; exact I.mask j
    | alloc ob0 mk0 =>
      have e1 : (c k).isEff = false := by rw [hc]; rfl
      rw [hc] at hs
      refine ⟨fun e m => ?_, ?_, ?_, fun i ob => ?_, fun i o t v => ?_, fun j => ?_⟩ <;> rw [hs] <;> simp only [applyD]
      · rw [noEff e1]; exact I.effs e m
      · exact I.sorted
      · rw [chN e1]; exact I.chain
      · rw [List.mem_cons, I.allocs i ob]
        constructor
        · rintro (h | ⟨h1, h2, h3⟩)
          · cases h; exact ⟨by omega, ⟨mk0, hc⟩, fun e he hie => by omega⟩
          · refine ⟨by omega, h2, fun e he hie hef => ?_⟩
            rcases lt.1 he with h4 | rfl
            · exact h3 e h4 hie hef
            · rw [e1] at hef; cases hef
        · rintro ⟨h1, ⟨mk, h2⟩, h3⟩
          rcases lt.1 h1 with h4 | rfl
          · exact .inr ⟨h4, ⟨mk, h2⟩, fun e he => h3 e (by omega)⟩
          · rw [hc] at h2; cases h2; exact .inl rfl
      · rw [noRead (fun v => by rw [hc]; simp)]; exact I.reads i o t v
      · rw [noMask e1]; exact I.mask j
    | eff v0 m0 =>
      rw [hc] at hs
      refine ⟨fun e m => ?_, ?_, ?_, fun i ob => ?_, fun i o t v => ?_, fun j => ?_⟩ <;> rw [hs] <;> simp only [applyD]
      · rw [List.mem_cons, I.effs e m]
        constructor
        · rintro (h | ⟨h1, h2⟩)
          · cases h; exact ⟨by omega, v0, hc⟩
          · exact ⟨by omega, h2⟩
        · rintro ⟨h1, v, h2⟩
          rcases lt.1 h1 with h3 | rfl
          · exact .inr ⟨h3, v, h2⟩
          · rw [hc] at h2; cases h2; exact .inl rfl
      · rw [List.pairwise_cons]
        exact ⟨fun x hx => ((I.effs x.1 x.2).1 hx).1, I.sorted⟩
      · simp only [chainOf, hc]
      · rw [dropAllocs_mem, I.allocs i ob]
        constructor
        · rintro ⟨⟨h1, h2, h3⟩, h4⟩
          refine ⟨by omega, h2, fun e he hie hef => ?_⟩
          rcases lt.1 he with h5 | rfl
          · exact h3 e h5 hie hef
          · exact h4
        · rintro ⟨h1, ⟨mk, h2⟩, h3⟩
          rcases lt.1 h1 with h4 | rfl
          · exact ⟨⟨h4, ⟨mk, h2⟩, fun e he => h3 e (by omega)⟩, h3 k (by omega) h4 (by rw [hc]; rfl)⟩
          · rw [hc] at h2; cases h2
      · rw [noRead (fun v => by rw [hc]; simp)]; exact I.reads i o t v
      · rw [Nat.testBit_or, Bool.or_eq_true, I.mask j]
        constructor
        · rintro (⟨e, h1, h2⟩ | h)
          · exact ⟨e, by omega, h2⟩
          · exact ⟨k, by omega, by rw [hc]; rfl, h⟩
        · rintro ⟨e, h1, h2, h3⟩
          rcases lt.1 h1 with h4 | rfl
          · exact .inl ⟨e, h4, h2, h3⟩
          · exact .inr h3
theorem allBits_spec {b : Nat} : ∀ {l : List (Nat × Mem)}, allBits b l = true → ∀ x ∈ l, b.testBit x.1 = true := by
  intro l
  induction l with
  | nil => intro _ x hx; cases hx
  | cons y l ih =>
    intro h x hx
    obtain ⟨e, m⟩ := y
    simp only [allBits] at h
    cases hb : Nat.testBit b e with
    | false => rw [hb] at h; cases h
    | true =>
      rw [hb] at h
      cases hx with
      | head => exact hb
      | tail _ hm => exact ih h x hm
theorem notLive_spec {t : T AObj} {i : Nat} (h : notLive t i = true) : ∀ o, t.get i = some o → o.live = false := by
  intro o ho
  unfold notLive at h
  rw [ho] at h
  cases o with
  | dead => rfl
  | _ => cases h
theorem freshIds_spec {N0 mask : Nat} {t : T AObj} : ∀ {n : Nat}, freshIds N0 mask t n = true → ∀ j, j < n → mask.testBit j = true ∨ notLive t (N0 + j) = true := by
  intro n
  induction n with
  | zero => intro _ j hj; omega
  | succ n ih =>
    intro h j hj
    simp only [freshIds] at h
    have h1 : cond (Nat.testBit mask n) true (notLive t (N0 + n)) = true := by
      cases hx : cond (Nat.testBit mask n) true (notLive t (N0 + n)) with
      | true => rfl
      | false => rw [hx] at h; cases h
    rw [h1] at h
    rcases Nat.lt_or_ge j n with h2 | h2
    · exact ih h j h2
    · obtain rfl : j = n := by omega
      cases hb : Nat.testBit mask j with
      | true => exact .inl rfl
      | false => rw [hb] at h1; exact .inr h1
theorem checkReads_spec {b : Nat} {m : Mem} : ∀ {l : List (Nat × Oper × T Value × Value)}, checkReads E b m l = true → ∀ x ∈ l, b.testBit x.1 = true ∨ readsAs E x.2.1 x.2.2.1 x.2.2.2 m = true := by
  intro l
  induction l with
  | nil => intro _ x hx; cases hx
  | cons y l ih =>
    intro h x hx
    obtain ⟨j, o, t, v⟩ := y
    simp only [checkReads] at h
    have h1 : cond (Nat.testBit b j) true (readsAs E o t v m) = true := by
      cases hx : cond (Nat.testBit b j) true (readsAs E o t v m) with
      | true => rfl
      | false => rw [hx] at h; cases h
    rw [h1] at h
    cases hx with
    | head =>
      cases hb : Nat.testBit b j with
      | true => exact .inl (by first | exact hb | rfl)
      | false => rw [hb] at h1; exact .inr h1
    | tail _ hm => exact ih h x hm
theorem readsAs_spec {o : Oper} {t : T Value} {v : Value} {m : Mem} (h : readsAs E o t v m = true) : evOp E (evalT t) o m = [.val v] := by
  unfold readsAs at h
  split at h
  · rename_i x hx
    rw [hx, (veq_sound 30).1 x v h]
  · cases h
/-- back through the memories of the chain, as far as the order lets -/
theorem checkBack_spec {M0 : Mem} {o : Oper} {t : T Value} {v : Value} {b : Nat} : ∀ {l : List (Nat × Mem)}, l.Pairwise (fun x y => y.1 < x.1) → checkBack E M0 o t v b l = true →
    (∀ x ∈ l, (∀ y ∈ l, x.1 < y.1 → b.testBit y.1 = false) → readsAs E o t v x.2 = true) ∧ ((∀ y ∈ l, b.testBit y.1 = false) → readsAs E o t v M0 = true) := by
  intro l
  induction l with
  | nil => intro _ h; exact ⟨fun x hx => absurd hx (by simp), fun _ => h⟩
  | cons p l ih =>
    intro hs h
    obtain ⟨e, m⟩ := p
    rw [List.pairwise_cons] at hs
    simp only [checkBack] at h
    cases h1 : readsAs E o t v m with
    | false => rw [h1] at h; cases h
    | true =>
      rw [h1] at h
      refine ⟨fun x hx hy => ?_, fun hy => ?_⟩
      · cases hx with
        | head => exact h1
        | tail _ hm =>
          have hlt := hs.1 x hm
          have hbe := hy (e, m) (by simp) hlt
          simp only at hbe
          rw [hbe] at h
          exact (ih hs.2 h).1 x hm (fun y hy2 => hy y (by simp [hy2]))
      · have hbe := hy (e, m) (by simp)
        simp only at hbe
        rw [hbe] at h
        exact (ih hs.2 h).2 (fun y hy2 => hy y (by simp [hy2]))
end
end Go.AE

/- Regions whose order is open: whatever order is drawn, the world fits what was reckoned in the order of the text. -/
namespace Go.AE
open Go.RowKit
variable {E : Env} {P : Program} {w0 : World}
theorem MR.sub {σ : Sg} {m m1 : Mem} {w : World} (h : MR E w0 σ m w) (hn : m1.n = m.n) (hs : ∀ i o, m1.t.get i = some o → o.live = true → m.t.get i = some o) : MR E w0 σ m1 w :=
  ⟨h.below, fun i o hi ho => h.obj i o (hs i o hi ho) ho, fun i j o o' x y hi ho hj ho' => h.inj i j o o' x y (hs i o hi ho) ho (hs j o' hj ho') ho', fun i hi => h.fresh i (hn ▸ hi)⟩
theorem LiveB.sub {σ : Sg} {m m1 : Mem} {b : Nat} (hs : ∀ i o, m1.t.get i = some o → o.live = true → m.t.get i = some o) (h : LiveB σ m1 b) : LiveB σ m b := by
  obtain ⟨i, o, x, h1, h2, h3, h4⟩ := h
  exact ⟨i, o, x, hs i o h1 h2, h2, h3, h4⟩
/-- something that is there in the world, and has a number, is laid back -/
theorem MR.putBack {σ : Sg} {m : Mem} {w : World} (h : MR E w0 σ m w) {id : Nat} {x : Inf} (hx : σ id = some x) {o : AObj} {ob : Obj} (hB : w0.heap.size ≤ x.b) (hl : ¬ LiveB σ m x.b)
    (hob : w.heap[x.b]? = some ob) (hor : OR E σ x o ob) : MR E w0 σ ⟨m.n, m.t.set id o⟩ w := by
  refine ⟨h.below, ?_, ?_, h.fresh⟩
  · intro j p hj hp
    by_cases e : id = j
    · subst e
      rw [T.get_set_same] at hj
      cases hj
      exact ⟨x, ob, hx, hB, hob, hor⟩
    · rw [T.get_set_ne _ _ e] at hj
      exact h.obj j p hj hp
  · intro j k p q z z' hj hp hk hq hz hz' e
    by_cases e1 : id = j <;> by_cases e2 : id = k
    · omega
    · subst e1
      rw [T.get_set_ne _ _ e2] at hk
      rw [hx] at hz; cases hz
      exact absurd ⟨k, q, z', hk, hq, hz', e.symm⟩ hl
    · subst e2
      rw [T.get_set_ne _ _ e1] at hj
      rw [hx] at hz'; cases hz'
      exact absurd ⟨j, p, z, hj, hp, hz, e⟩ hl
    · rw [T.get_set_ne _ _ e1] at hj
      rw [T.get_set_ne _ _ e2] at hk
      exact h.inj j k p q z z' hj hp hk hq hz hz' e
section
variable {call : CallF} {ops : Array Oper} {B : List Nat} {n N N0 : Nat} {M0 : Mem} {t0 : T Value} {S : Nat → DS} {c : Nat → Cl}
open Classical in
/-- the temporaries behind the operations of D, one by one in the order of the text -/
noncomputable def W (c : Nat → Cl) (ops : Array Oper) (N N0 : Nat) (t0 : T Value) (D : Nat → Bool) : Nat → Nat → Value
  | 0, τ => tv t0 τ
  | k + 1, τ => if D k = true ∧ (∃ o, ops.toList[k]? = some o ∧ o.dst = some τ) ∧ τ < N then (c k).val N0 k else W c ops N N0 t0 D k τ
open Classical in
/-- the memory: the chain's, and what was laid by operations of D and not taken in -/
noncomputable def PM (c : Nat → Cl) (B : List Nat) (n N0 : Nat) (M0 : Mem) (D : Nat → Bool) : Nat → T AObj
  | 0 => (chainOf c M0 D n).t
  | k + 1 => match c k with
    | .alloc ob _ => if D k = true ∧ ¬ Mg c B n D k then (PM c B n N0 M0 D k).set (N0 + k) ob else PM c B n N0 M0 D k
    | _ => PM c B n N0 M0 D k
theorem tv_put (N : Nat) (t : T Value) (d : Option Tmp) (v : Value) (τ : Nat) : tv (put N t d v) τ = if d = some τ ∧ τ < N then v else tv t τ := by
  cases d with
  | none => simp [AE.put]
  | some d =>
    simp only [AE.put]
    cases h : Nat.blt d N with
    | true =>
      have h' : d < N := Nat.le_of_ble_eq_true h
      simp only [tv, T.get_set]
      by_cases e : d = τ
      · subst e; simp [h']
      · simp [e]
    | false =>
      have h' : ¬ d < N := fun h1 => by
        have h2 : Nat.blt d N = true := Nat.ble_eq_true_of_le h1
        rw [h2] at h; cases h
      by_cases e : d = τ
      · subst e; simp [h']
      · simp [e]
theorem applyD_t (S : DS) (i : Nat) (o : Oper) (b : Nat) (c : Cl) : (applyD N N0 S i o b c).t = put N S.t o.dst (c.val N0 i) := by cases c <;> rfl
theorem W_all (R : RunOK E call ops B n N N0 M0 t0 S c) : ∀ k, k ≤ ops.toList.length → ∀ τ, tv (S k).t τ = W c ops N N0 t0 (fun _ => true) k τ := by
  intro k
  induction k with
  | zero => intro _ τ; rw [R.start]; rfl
  | succ k ih =>
    intro hk τ
    have ho : ops.toList[k]? = some (ops.toList[k]'(by omega)) := List.getElem?_eq_getElem (by omega)
    generalize ops.toList[k]'(by omega) = o at ho
    rw [R.step k o ho, applyD_t, tv_put, W]
    by_cases h : o.dst = some τ ∧ τ < N
    · rw [if_pos h, if_pos ⟨rfl, ⟨o, ho, h.1⟩, h.2⟩]
    · rw [if_neg h, if_neg (fun ⟨_, ⟨p, hp, hd⟩, hN⟩ => h ⟨by rw [ho] at hp; cases hp; exact hd, hN⟩)]
      exact ih (by omega) τ
/-- D and 'all' come to one temporary where they have the same writers of it -/
theorem W_same {D D' : Nat → Bool} {τ : Nat} : ∀ k, (∀ i, i < k → (∃ o, ops.toList[i]? = some o ∧ o.dst = some τ) → D i = D' i) → W c ops N N0 t0 D k τ = W c ops N N0 t0 D' k τ := by
  intro k
  induction k with
  | zero => intro _; rfl
  | succ k ih =>
    intro h
    simp only [W]
    rw [ih (fun i hi => h i (by omega))]
    by_cases hw : ∃ o, ops.toList[k]? = some o ∧ o.dst = some τ
    · rw [h k (by omega) hw]
    · rw [if_neg (fun ⟨_, h2, _⟩ => hw h2), if_neg (fun ⟨_, h2, _⟩ => hw h2)]
/-- no writer of it from i on -/
theorem W_cut {D : Nat → Bool} {τ i : Nat} : ∀ k, i ≤ k → (∀ j, i ≤ j → j < k → (∃ o, ops.toList[j]? = some o ∧ o.dst = some τ) → D j = false) → W c ops N N0 t0 D k τ = W c ops N N0 t0 D i τ := by
  intro k
  induction k with
  | zero => intro h _; obtain rfl : i = 0 := by omega
            rfl
  | succ k ih =>
    intro h h2
    rcases Nat.lt_or_ge k i with h3 | h3
    · obtain rfl : i = k + 1 := by omega
      rfl
    · simp only [W]
      rw [if_neg (fun ⟨h4, h5, _⟩ => by rw [h2 k h3 (by omega) h5] at h4; cases h4)]
      exact ih h3 (fun j hj hjk => h2 j hj (by omega))
theorem confl_dst_looks {x y : Oper} {d : Tmp} (hx : x.dst = some d) (hy : d ∈ looks ops y) : confl ops x y = true := by
  simp [confl, hx, memN_iff.2 hy]
theorem confl_looks_dst {x y : Oper} {d : Tmp} (hy : y.dst = some d) (hx : d ∈ looks ops x) : confl ops x y = true := by
  simp [confl, hy, memN_iff.2 hx]
theorem confl_dst_dst {x y : Oper} {d : Tmp} (hx : x.dst = some d) (hy : y.dst = some d) : confl ops x y = true := by
  simp [confl, hx, hy, Nat.beq_refl]
/-- the static facts on a region -/
structure Stat (ops : Array Oper) (B : List Nat) (n : Nat) : Prop where
  len : ops.toList.length = n
  back : ∀ (i : Nat) (o : Oper), ops.toList[i]? = some o → ∀ e ∈ o.after.toList, Region.binds .any e = true → e.on < i
  closed : ∀ {D : Nat → Bool}, (∀ (i : Nat) (o : Oper), ops.toList[i]? = some o → D i = true → ∀ e ∈ o.after.toList, Region.binds .any e = true → D e.on = true) → ∀ (i j : Nat), D i = true → (B.getD i 0).testBit j = true → D j = true
  tmps : ∀ (k i : Nat) (o p : Oper), ops.toList[k]? = some o → i < k → ops.toList[i]? = some p → confl ops p o = true → (B.getD k 0).testBit i = true
/-- what is ready: itself not in D, all that must come before in D -/
structure Ready (ops : Array Oper) (B : List Nat) (D : Nat → Bool) (i : Nat) (o : Oper) : Prop where
  op : ops.toList[i]? = some o
  out : D i = false
  before : ∀ j, (B.getD i 0).testBit j = true → D j = true
def Down (ops : Array Oper) (D : Nat → Bool) : Prop := ∀ (i : Nat) (o : Oper), ops.toList[i]? = some o → D i = true → ∀ e ∈ o.after.toList, Region.binds .any e = true → D e.on = true
theorem getElem?_lt {α : Type} {l : List α} {i : Nat} {x : α} (h : l[i]? = some x) : i < l.length := (List.getElem?_eq_some_iff.1 h).1
theorem W_looks (T : Stat ops B n) {D : Nat → Bool} (hD : Down ops D) {i : Nat} {o : Oper} (r : Ready ops B D i o) (R : RunOK E call ops B n N N0 M0 t0 S c) {τ : Nat} (hτ : τ ∈ looks ops o) : W c ops N N0 t0 D n τ = tv (S i).t τ := by
  have hi := getElem?_lt r.op
  rw [W_all R i (by omega)]
  rw [W_cut (i := i) n (by rw [← T.len]; omega) ?_]
  · refine W_same i (fun j hj ⟨p, hp, hd⟩ => ?_)
    exact r.before j (T.tmps i j o p r.op hj hp (confl_dst_looks hd hτ))
  · rintro j hj hjn ⟨p, hp, hd⟩
    by_cases e : i = j
    · subst e; exact r.out
    · cases hDj : D j with
      | false => rfl
      | true =>
        have h1 := T.tmps j i p o hp (by omega) r.op (confl_looks_dst hd hτ)
        have := T.closed hD j i hDj h1
        rw [r.out] at this; cases this
def addD (D : Nat → Bool) (i : Nat) : Nat → Bool := fun j => D j || Nat.beq i j
theorem addD_iff {D : Nat → Bool} {i j : Nat} : addD D i j = true ↔ D j = true ∨ i = j := by
  simp only [addD, Bool.or_eq_true]
  constructor
  · rintro (h | h)
    · exact .inl h
    · exact .inr (Nat.eq_of_beq_eq_true h)
  · rintro (h | rfl)
    · exact .inl h
    · exact .inr (Nat.beq_refl _)
theorem addD_ne {D : Nat → Bool} {i j : Nat} (h : i ≠ j) : addD D i j = D j := by
  have : Nat.beq i j = false := by
    cases hb : Nat.beq i j with
    | false => rfl
    | true => exact absurd (Nat.eq_of_beq_eq_true hb) h
  simp [addD, this]
theorem W_add (T : Stat ops B n) {D : Nat → Bool} (hD : Down ops D) {i : Nat} {o : Oper} (r : Ready ops B D i o) (τ : Nat) : W c ops N N0 t0 (addD D i) n τ = if o.dst = some τ ∧ τ < N then (c i).val N0 i else W c ops N N0 t0 D n τ := by
  have hi : i < n := by rw [← T.len]; exact getElem?_lt r.op
  by_cases hd : o.dst = some τ
  · have hlate : ∀ j, i + 1 ≤ j → j < n → (∃ p, ops.toList[j]? = some p ∧ p.dst = some τ) → D j = false := by
      rintro j hj hjn ⟨p, hp, hpd⟩
      cases hDj : D j with
      | false => rfl
      | true =>
        have h1 := T.tmps j i p o hp (by omega) r.op (confl_dst_dst hd hpd)
        have := T.closed hD j i hDj h1
        rw [r.out] at this; cases this
    rw [W_cut (i := i + 1) n (by omega) (fun j hj hjn hw => by rw [addD_ne (by omega)]; exact hlate j hj hjn hw)]
    rw [W_cut (D := D) (i := i + 1) n (by omega) hlate]
    simp only [W]
    have h2 : W c ops N N0 t0 (addD D i) i τ = W c ops N N0 t0 D i τ := W_same i (fun j hj _ => addD_ne (by omega))
    by_cases hN : τ < N
    · rw [if_pos ⟨addD_iff.2 (.inr rfl), ⟨o, r.op, hd⟩, hN⟩, if_pos ⟨hd, hN⟩]
    · rw [if_neg (fun h => hN h.2.2), if_neg (fun h => hN h.2), if_neg (fun h => hN h.2.2), h2]
  · rw [if_neg (fun h => hd h.1)]
    refine W_same n (fun j hj ⟨p, hp, hpd⟩ => addD_ne ?_)
    rintro rfl
    rw [r.op] at hp; cases hp
    exact hd hpd
end
end Go.AE

/- Regions whose order is open: one operation more. -/
namespace Go.AE
open Go.RowKit
variable {E : Env} {P : Program} {w0 : World}
section
variable {call : CallF} {ops : Array Oper} {B : List Nat} {n N N0 : Nat} {M0 : Mem} {t0 : T Value} {S : Nat → DS} {c : Nat → Cl}
theorem effOK_of {S : Nat → DS} {i : Nat} {o : Oper} {b : Nat} {v : Value} {m : Mem} (hc : clsD E call ops n N0 M0 (S i) o b = some (.eff v m)) : effOK E n N0 (S i) b m = true := by
  unfold clsD at hc
  split at hc
  · cases hc
  · cases hc
  · split at hc
    · split at hc <;> cases hc
    · split at hc
      · split at hc <;> cases hc
      · split at hc
        · rename_i h; cases hc; exact h
        · cases hc
      · split at hc
        · split at hc
          · rename_i h; cases hc; exact h
          · cases hc
        · cases hc
      · cases hc
theorem effOK_spec {S : DS} {b : Nat} {m : Mem} (h : effOK E n N0 S b m = true) : (∀ x ∈ S.effs, b.testBit x.1 = true) ∧ (∀ j, j < n → (S.mask ||| b).testBit j = true ∨ notLive m.t (N0 + j) = true) ∧ ∀ x ∈ S.reads, b.testBit x.1 = true ∨ readsAs E x.2.1 x.2.2.1 x.2.2.2 m = true := by
  unfold effOK at h
  cases h1 : allBits b S.effs with
  | false => rw [h1] at h; cases h
  | true =>
    rw [h1] at h
    cases h2 : freshIds N0 (S.mask ||| b) m.t n with
    | false => rw [h2] at h; cases h
    | true =>
      rw [h2] at h
      exact ⟨allBits_spec h1, freshIds_spec h2, checkReads_spec h⟩
structure Ctx (E : Env) (call : CallF) (ops : Array Oper) (B : List Nat) (n N N0 : Nat) (M0 : Mem) (t0 : T Value) (S : Nat → DS) (c : Nat → Cl) : Prop where
  run : RunOK E call ops B n N N0 M0 t0 S c
  stt : Stat ops B n
  M0n : M0.n = N0 + n
  M0f : ∀ j, j < n → notLive M0.t (N0 + j) = true
theorem Ctx.lt (X : Ctx E call ops B n N N0 M0 t0 S c) {e : Nat} (he : e < n) : ∃ o, ops.toList[e]? = some o := ⟨_, List.getElem?_eq_getElem (by rw [X.stt.len]; exact he)⟩
theorem isEff_iff {c : Cl} : c.isEff = true ↔ ∃ v m, c = .eff v m := by cases c <;> simp [Cl.isEff]
theorem isAlloc_iff {c : Cl} : c.isAlloc = true ↔ ∃ o k, c = .alloc o k := by cases c <;> simp [Cl.isAlloc]
theorem Ctx.effs (X : Ctx E call ops B n N N0 M0 t0 S c) {e k : Nat} (hk : k < n) (hek : e < k) (h1 : (c e).isEff = true) (h2 : (c k).isEff = true) : (B.getD k 0).testBit e = true := by
  obtain ⟨o, ho⟩ := X.lt hk
  obtain ⟨v, m, hc⟩ := isEff_iff.1 h2
  obtain ⟨v', m', hc'⟩ := isEff_iff.1 h1
  have h := X.run.cls k o ho
  rw [hc] at h
  have := (effOK_spec (effOK_of h)).1 (e, m') (((recs X.run k (by rw [X.stt.len]; omega)).effs e m').2 ⟨hek, v', hc'⟩)
  exact this
/-- masks lead back -/
theorem Ctx.back (X : Ctx E call ops B n N N0 M0 t0 S c) {k j : Nat} (h : (B.getD k 0).testBit j = true) : j ≤ k := by
  have := X.stt.closed (D := fun x => decide (x ≤ k)) (fun i o ho hi e he hb => by
    have h1 := X.stt.back i o ho e he hb
    simp only [decide_eq_true_eq] at hi ⊢
    omega) k j (by simp) h
  simpa using this
theorem chain_same {D D' : Nat → Bool} : ∀ k, (∀ e, e < k → (c e).isEff = true → D e = D' e) → chainOf c M0 D k = chainOf c M0 D' k := by
  intro k
  induction k with
  | zero => intro _; rfl
  | succ k ih =>
    intro h
    have ih' := ih (fun e he => h e (by omega))
    simp only [chainOf]
    cases hc : c k with
    | eff v m =>
      have := h k (by omega) (by rw [hc]; rfl)
      rw [this]
      cases D' k
      · exact ih'
      · rfl
    | _ => cases D k <;> cases D' k <;> exact ih'
theorem chain_cut {D : Nat → Bool} {i : Nat} : ∀ k, i ≤ k → (∀ e, i ≤ e → e < k → (c e).isEff = true → D e = false) → chainOf c M0 D k = chainOf c M0 D i := by
  intro k
  induction k with
  | zero => intro h _; obtain rfl : i = 0 := by omega
            rfl
  | succ k ih =>
    intro h h2
    rcases Nat.lt_or_ge k i with h3 | h3
    · obtain rfl : i = k + 1 := by omega
      rfl
    · rw [← ih h3 (fun e he hek => h2 e he (by omega))]
      simp only [chainOf]
      cases hc : c k with
      | eff v m => rw [h2 k h3 (by omega) (by rw [hc]; rfl)]
      | _ => cases D k <;> rfl
theorem chain_cases {D : Nat → Bool} : ∀ k, ((∀ e, e < k → D e = true → (c e).isEff = false) ∧ chainOf c M0 D k = M0) ∨ ∃ e v m, e < k ∧ D e = true ∧ c e = .eff v m ∧ (∀ e', e' < k → e < e' → D e' = true → (c e').isEff = false) ∧ chainOf c M0 D k = m := by
  intro k
  induction k with
  | zero => exact .inl ⟨fun e he => by omega, rfl⟩
  | succ k ih =>
    by_cases h : D k = true ∧ (c k).isEff = true
    · obtain ⟨v, m, hc⟩ := isEff_iff.1 h.2
      exact .inr ⟨k, v, m, by omega, h.1, hc, fun e' he hk => by omega, by simp only [chainOf, h.1, hc]⟩
    · have hch : chainOf c M0 D (k + 1) = chainOf c M0 D k := by
        simp only [chainOf]
        cases hc : c k with
        | eff v m =>
          cases hd : D k with
          | false => rfl
          | true => exact absurd ⟨hd, by rw [hc]; rfl⟩ h
        | _ => cases D k <;> rfl
      have hk : D k = true → (c k).isEff = false := fun hd => by
        cases he : (c k).isEff with
        | false => rfl
        | true => exact absurd ⟨hd, he⟩ h
      rcases ih with ⟨h1, h2⟩ | ⟨e, v, m, h1, h2, h3, h4, h5⟩
      · refine .inl ⟨fun e he hd => ?_, by rw [hch, h2]⟩
        rcases Nat.lt_or_ge e k with h6 | h6
        · exact h1 e h6 hd
        · obtain rfl : e = k := by omega
          exact hk hd
      · refine .inr ⟨e, v, m, by omega, h2, h3, fun e' he hee hd => ?_, by rw [hch, h5]⟩
        rcases Nat.lt_or_ge e' k with h6 | h6
        · exact h4 e' h6 hee hd
        · obtain rfl : e' = k := by omega
          exact hk hd
/-- numbers that are kept for operations not taken in: nothing lives there -/
theorem Ctx.chainFresh (X : Ctx E call ops B n N N0 M0 t0 S c) {D : Nat → Bool} (hD : Down ops D) {j : Nat} (hj : j < n) : Mg c B n D j ∨ notLive (chainOf c M0 D n).t (N0 + j) = true := by
  rcases chain_cases (c := c) (M0 := M0) (D := D) n with ⟨_, h2⟩ | ⟨e, v, m, h1, h2, h3, _, h5⟩
  · rw [h2]; exact .inr (X.M0f j hj)
  · rw [h5]
    obtain ⟨o, ho⟩ := X.lt h1
    have hcl := X.run.cls e o ho
    rw [h3] at hcl
    rcases (effOK_spec (effOK_of hcl)).2.1 j hj with h6 | h6
    · rw [Nat.testBit_or, Bool.or_eq_true] at h6
      rcases h6 with h6 | h6
      · obtain ⟨e', he', hef, hb⟩ := ((recs X.run e (by rw [X.stt.len]; omega)).mask j).1 h6
        have hDe : D e' = true := X.stt.closed hD e e' h2 (X.effs h1 he' hef (by rw [h3]; rfl))
        exact .inl ⟨e', by omega, hDe, hef, hb⟩
      · exact .inl ⟨e, h1, h2, by rw [h3]; rfl, h6⟩
    · exact .inr h6
theorem PM_hit {D : Nat → Bool} {j : Nat} {ob : AObj} {mk : Mk} (hc : c j = .alloc ob mk) (hd : D j = true) (hm : ¬ Mg c B n D j) : ∀ k, j < k → (PM c B n N0 M0 D k).get (N0 + j) = some ob := by
  intro k
  induction k with
  | zero => intro h; omega
  | succ k ih =>
    intro h
    rcases Nat.lt_or_ge j k with h1 | h1
    · have := ih h1
      simp only [PM]
      split
      · split
        · rw [T.get_set_ne _ _ (by omega)]; exact this
        · exact this
      · exact this
    · obtain rfl : j = k := by omega
      simp only [PM, hc]
      rw [if_pos ⟨hd, hm⟩, T.get_set_same]
theorem PM_inv {D : Nat → Bool} {id : Nat} {o : AObj} : ∀ k, (PM c B n N0 M0 D k).get id = some o → (∃ j mk, j < k ∧ id = N0 + j ∧ c j = .alloc o mk ∧ D j = true ∧ ¬ Mg c B n D j) ∨
    ((chainOf c M0 D n).t.get id = some o ∧ ∀ j, j < k → id = N0 + j → ¬ ((c j).isAlloc = true ∧ D j = true ∧ ¬ Mg c B n D j)) := by
  intro k
  induction k with
  | zero => intro h; exact .inr ⟨h, fun j hj => by omega⟩
  | succ k ih =>
    intro h
    simp only [PM] at h
    have more : (PM c B n N0 M0 D k).get id = some o → ¬ (id = N0 + k ∧ (c k).isAlloc = true ∧ D k = true ∧ ¬ Mg c B n D k) → (∃ j mk, j < k + 1 ∧ id = N0 + j ∧ c j = .alloc o mk ∧ D j = true ∧ ¬ Mg c B n D j) ∨
        ((chainOf c M0 D n).t.get id = some o ∧ ∀ j, j < k + 1 → id = N0 + j → ¬ ((c j).isAlloc = true ∧ D j = true ∧ ¬ Mg c B n D j)) := by
      intro h1 h2
      rcases ih h1 with ⟨j, mk, h3, h4⟩ | ⟨h3, h4⟩
      · exact .inl ⟨j, mk, by omega, h4⟩
      · refine .inr ⟨h3, fun j hj he hh => ?_⟩
        rcases Nat.lt_or_ge j k with h5 | h5
        · exact h4 j h5 he hh
        · obtain rfl : j = k := by omega
          exact h2 ⟨he, hh⟩
    split at h
    · rename_i ob mk hc
      split at h
      · rename_i hd
        by_cases e : N0 + k = id
        · subst e
          rw [T.get_set_same] at h; cases h
          exact .inl ⟨k, mk, by omega, rfl, hc, hd.1, hd.2⟩
        · rw [T.get_set_ne _ _ e] at h
          exact more h (fun h2 => e h2.1.symm)
      · rename_i hd
        exact more h (fun h2 => hd ⟨h2.2.2.1, h2.2.2.2⟩)
    · rename_i hna
      refine more h (fun h2 => ?_)
      obtain ⟨ob, mk, hc⟩ := isAlloc_iff.1 h2.2.1
      exact hna ob mk hc
theorem PM_miss {D : Nat → Bool} {id : Nat} : ∀ k, (∀ j, j < k → id = N0 + j → ¬ ((c j).isAlloc = true ∧ D j = true ∧ ¬ Mg c B n D j)) → (PM c B n N0 M0 D k).get id = (chainOf c M0 D n).t.get id := by
  intro k
  induction k with
  | zero => intro _; rfl
  | succ k ih =>
    intro h
    have ih' := ih (fun j hj => h j (by omega))
    simp only [PM]
    split
    · rename_i ob mk hc
      split
      · rename_i hd
        rw [T.get_set_ne _ _ (fun e => h k (by omega) e.symm ⟨by rw [hc]; rfl, hd.1, hd.2⟩)]
        exact ih'
      · exact ih'
    · exact ih'
theorem addAllocs_inv {b : Nat} {id : Nat} {o : AObj} {t : T AObj} : ∀ {l : List (Nat × AObj)}, (addAllocs N0 b l t).get id = some o → (∃ j, (j, o) ∈ l ∧ id = N0 + j ∧ b.testBit j = true) ∨ t.get id = some o := by
  intro l
  induction l with
  | nil => intro h; exact .inr h
  | cons x l ih =>
    intro h
    obtain ⟨j, ob⟩ := x
    simp only [addAllocs] at h
    cases hb : Nat.testBit b j with
    | true =>
      rw [hb] at h
      simp only [cond] at h
      by_cases e : N0 + j = id
      · subst e
        rw [T.get_set_same] at h; cases h
        exact .inl ⟨j, by simp, rfl, hb⟩
      · rw [T.get_set_ne _ _ e] at h
        rcases ih h with ⟨k, h1, h2⟩ | h1
        · exact .inl ⟨k, by simp [h1], h2⟩
        · exact .inr h1
    | false =>
      rw [hb] at h
      rcases ih h with ⟨k, h1, h2⟩ | h1
      · exact .inl ⟨k, by simp [h1], h2⟩
      · exact .inr h1
theorem put_vals {N : Nat} {σ : Sg} {f : Nat → Value} {a : Act} (hsz : a.tmps.size = N) (h : ∀ τ, VR σ (f τ) (a.tmps.getD τ undef)) {v v' : Value} (hv : VR σ v v') (d : Option Tmp) : ∀ τ, VR σ (if d = some τ ∧ τ < N then v else f τ) ((a.put d v').tmps.getD τ undef) := by
  intro τ
  cases d with
  | none => simpa [Act.put] using h τ
  | some d =>
    simp only [Act.put, Option.some.injEq]
    by_cases e : d = τ
    · subst e
      by_cases hN : d < N
      · rw [if_pos ⟨rfl, hN⟩]
        have : d < a.tmps.size := by rw [hsz]; exact hN
        simp [this, hv]
      · rw [if_neg (fun h => hN h.2)]
        have : a.tmps.setIfInBounds d v' = a.tmps := by
          apply Array.ext_getElem?
          intro q
          rw [Array.getElem?_setIfInBounds]
          by_cases e : d = q
          · subst e; rw [if_pos rfl, if_neg (by rw [hsz]; exact hN), Array.getElem?_eq_none (by rw [hsz]; exact Nat.not_lt.1 hN)]
          · rw [if_neg e]
        rw [this]; exact h d
    · rw [if_neg (fun h => e h.1)]
      have : (a.tmps.setIfInBounds d v').getD τ undef = a.tmps.getD τ undef := by
        simp [e]
      rw [this]; exact h τ
theorem put_defers (a : Act) (d : Option Tmp) (v : Value) : (a.put d v).defers = a.defers := by cases d <;> rfl
theorem put_size (a : Act) (d : Option Tmp) (v : Value) : (a.put d v).tmps.size = a.tmps.size := by cases d <;> simp [Act.put]
structure Inv (E : Env) (w0 : World) (ops : Array Oper) (B : List Nat) (n N N0 : Nat) (M0 : Mem) (t0 : T Value) (c : Nat → Cl) (σ0 : Sg) (m0 : Mem) (wst : World) (ds : List Deferred) (D : Nat → Bool) (σ : Sg) (a : Act) (w : World) : Prop where
  size : a.tmps.size = N
  tr : ∀ τ, VR σ (W c ops N N0 t0 D n τ) (a.tmps.getD τ undef)
  mem : MR E w0 σ ⟨(chainOf c M0 D n).n, PM c B n N0 M0 D n⟩ w
  num : N0 + n ≤ (chainOf c M0 D n).n
  fresh : ∀ i, i < n → ¬ (D i = true ∧ (c i).isAlloc = true) → σ (N0 + i) = none
  fg : FG σ0 m0 wst σ ⟨(chainOf c M0 D n).n, PM c B n N0 M0 D n⟩ w
  defers : a.defers = ds
variable {σ0 : Sg} {m0 : Mem} {wst : World} {ds : List Deferred}
theorem Mg_add {D : Nat → Bool} {i j : Nat} (hc : (c i).isEff = false) : Mg c B n (addD D i) j ↔ Mg c B n D j := by
  constructor
  · rintro ⟨e, h1, h2, h3, h4⟩
    rcases addD_iff.1 h2 with h5 | rfl
    · exact ⟨e, h1, h5, h3, h4⟩
    · rw [hc] at h3; cases h3
  · rintro ⟨e, h1, h2, h3⟩; exact ⟨e, h1, addD_iff.2 (.inl h2), h3⟩
theorem chain_add {D : Nat → Bool} {i : Nat} (hc : (c i).isEff = false) (k : Nat) : chainOf c M0 (addD D i) k = chainOf c M0 D k :=
  chain_same k (fun e _ he => addD_ne (fun h => by subst h; rw [hc] at he; cases he))
theorem PM_add {D : Nat → Bool} {i : Nat} (hc : (c i).isEff = false) (ha : (c i).isAlloc = false) : ∀ k, PM c B n N0 M0 (addD D i) k = PM c B n N0 M0 D k := by
  intro k
  induction k with
  | zero => simp only [PM]; rw [chain_add hc]
  | succ k ih =>
    simp only [PM]
    rw [ih]
    split
    · rename_i ob mk hck
      have hik : i ≠ k := fun e => by subst e; rw [hck] at ha; cases ha
      rw [addD_ne hik]
      have : Mg c B n (addD D i) k ↔ Mg c B n D k := Mg_add hc
      by_cases h : D k = true ∧ ¬ Mg c B n D k
      · rw [if_pos h, if_pos ⟨h.1, fun h2 => h.2 (this.1 h2)⟩]
      · rw [if_neg h, if_neg (fun h2 => h ⟨h2.1, fun h3 => h2.2 (this.2 h3)⟩)]
    · rfl
/-- nothing is turned -/
theorem Inv.same (X : Ctx E call ops B n N N0 M0 t0 S c) {D : Nat → Bool} (hD : Down ops D) {i : Nat} {o : Oper} (r : Ready ops B D i o) {σ : Sg} {a : Act} {w : World} (I : Inv E w0 ops B n N N0 M0 t0 c σ0 m0 wst ds D σ a w)
    (hc : (c i).isEff = false) (ha : (c i).isAlloc = false) {v' : Value} (hv : VR σ ((c i).val N0 i) v') : Inv E w0 ops B n N N0 M0 t0 c σ0 m0 wst ds (addD D i) σ (a.put o.dst v') w := by
  have e1 := chain_add (M0 := M0) (D := D) hc n
  have e2 := PM_add (B := B) (n := n) (N0 := N0) (M0 := M0) (D := D) hc ha n
  refine ⟨by rw [put_size]; exact I.size, fun τ => ?_, by rw [e1, e2]; exact I.mem, by rw [e1]; exact I.num, fun j hj h => I.fresh j hj (fun h2 => h ⟨addD_iff.2 (.inl h2.1), h2.2⟩), by rw [e1, e2]; exact I.fg, by rw [put_defers]; exact I.defers⟩
  rw [W_add X.stt hD r]
  exact put_vals I.size I.tr hv o.dst τ
end
end Go.AE

/- Regions whose order is open: the kinds of operations; every order. -/
namespace Go.AE
open Go.RowKit
variable {E : Env} {P : Program} {w0 : World}
section
variable {call : CallF} {ops : Array Oper} {B : List Nat} {n N N0 : Nat} {M0 : Mem} {t0 : T Value} {S : Nat → DS} {c : Nat → Cl} {σ0 : Sg} {m0 : Mem} {wst : World} {ds : List Deferred}
theorem valO_new {v : Option Value} {ob : AObj} {mk : Mk} (h : valO v = [.new ob mk]) : False := by cases v <;> cases h
theorem new_live {ρ : Operand → Value} {o : Oper} {m : Mem} {ob : AObj} {mk : Mk} (hf : memFree o.op = true) (h : evOp E ρ o m = [.new ob mk]) : ob.live = true := by
  unfold evOp at h
  cases hop : o.op <;> rw [hop] at h hf <;> first
    | (cases hf; done)
    | (exact (valO_new h).elim)
    | skip
  all_goals simp only at h
  case move => cases h
  case assign => cases h
  case pick => split at h <;> cases h
  case alloc => split at h <;> cases h; rfl
  case box => split at h <;> cases h; rfl
  case buildSlice t len parts =>
    cases hb : buildSliceA E t len (parts.toList.map fun p => (p.1, ρ p.2)) with
    | none => rw [hb] at h; cases h
    | some out =>
      rw [hb] at h
      simp only [ofO, List.cons.injEq, and_true] at h
      subst h
      unfold buildSliceA at hb
      split at hb
      · split at hb
        · split at hb
          · cases hb; rfl
          · cases hb
        · cases hb
      · cases hb
  case nilCheck =>
    split at h
    · cases h
    · cases h
    · split at h
      · split at h <;> cases h
      · cases h
    · cases h
    · cases h
    · cases h
  case unOp =>
    split at h <;> first | (cases h; done) | exact (valO_new h).elim
  case makeInterface =>
    split at h
    · split at h <;> cases h
    · cases h
  case makeFunc => cases h
  case makeMap t r => cases r <;> cases h; rfl
  case makeSlice t l c =>
    cases hb : makeSliceA E t (ρ l) (ρ c) with
    | none => rw [hb] at h; cases h
    | some out =>
      rw [hb] at h
      simp only [ofO, List.cons.injEq, and_true] at h
      subst h
      unfold makeSliceA at hb
      split at hb
      · split at hb
        · cases hb; rfl
        · cases hb
      · cases hb
  case extract =>
    split at h
    · split at h <;> cases h
    · cases h
  case call c =>
    simp only [memFree] at hf
    unfold callA at h
    split at hf
    · rename_i hc
      rw [hc] at h
      simp only at h
      split at h <;> first | (cases h; done) | exact (valO_new h).elim
    · rename_i hc
      rw [hc] at h
      simp only at h
      split at h <;> first | (cases h; done) | exact (valO_new h).elim
    · cases hf
theorem cls_alloc {S : DS} {o : Oper} {b : Nat} {ob : AObj} {mk : Mk} (h : clsD E call ops n N0 M0 S o b = some (.alloc ob mk)) : wanted ops o S.t = some true ∧ memFree o.op = true ∧ evOp E (evalT S.t) o M0 = [.new ob mk] := by
  unfold clsD at h
  split at h
  · cases h
  · cases h
  · rename_i hw
    split at h
    · rename_i hf
      split at h
      · cases h
      · rename_i he; cases h; exact ⟨hw, hf, he⟩
      · cases h
    · split at h
      · split at h <;> cases h
      · split at h <;> cases h
      · split at h
        · split at h <;> cases h
        · cases h
      · cases h
theorem alloc_live {S : DS} {o : Oper} {b : Nat} {ob : AObj} {mk : Mk} (h : clsD E call ops n N0 M0 S o b = some (.alloc ob mk)) : ob.live = true := new_live (cls_alloc h).2.1 (cls_alloc h).2.2
/-- something new -/
theorem Inv.alloc (X : Ctx E call ops B n N N0 M0 t0 S c) {D : Nat → Bool} (hD : Down ops D) {i : Nat} {o : Oper} (r : Ready ops B D i o) {σ : Sg} {a : Act} {w : World} (I : Inv E w0 ops B n N N0 M0 t0 c σ0 m0 wst ds D σ a w)
    (hm0 : m0.n = N0) {ob : AObj} {mk : Mk} (hc : c i = .alloc ob mk) {v' : Value} {obj : Obj} {x : Inf} (hx : x.b = w.heap.size) (hor : OR E σ x ob obj) (hmk : ∀ (σ' : Sg) id, σ' id = some x → VR σ' (mk.val id) v') :
    ∃ σ', Inv E w0 ops B n N N0 M0 t0 c σ0 m0 wst ds (addD D i) σ' (a.put o.dst v') (w.alloc obj) := by
  have hi : i < n := by rw [← X.stt.len]; exact getElem?_lt r.op
  have hce : (c i).isEff = false := by rw [hc]; rfl
  have hid : σ (N0 + i) = none := I.fresh i hi (fun h => by rw [r.out] at h; cases h.1)
  have hnum := I.num
  obtain ⟨hm, _⟩ := I.mem.new (id := N0 + i) hid (n' := (chainOf c M0 D n).n) (Nat.le_refl _) (by omega) hx hor
  have hext : Ext σ (fun j => if j = N0 + i then some x else σ j) := fun j y hy => by
    have : j ≠ N0 + i := fun e => by rw [e, hid] at hy; cases hy
    simp [this, hy]
  have e1 := chain_add (M0 := M0) (D := D) hce n
  have hMgi : ¬ Mg c B n (addD D i) i := fun h => by
    obtain ⟨e, h1, h2, h3, h4⟩ := (Mg_add hce).1 h
    have := X.stt.closed hD e i h2 h4
    rw [r.out] at this; cases this
  have hsub : ∀ id q, (PM c B n N0 M0 (addD D i) n).get id = some q → q.live = true → ((PM c B n N0 M0 D n).set (N0 + i) ob).get id = some q := by
    intro id q hq _
    rcases PM_inv n hq with ⟨j, mk', h1, rfl, h3, h4, h5⟩ | ⟨h1, h2⟩
    · by_cases e : i = j
      · subst e; rw [hc] at h3; cases h3; rw [T.get_set_same]
      · rw [T.get_set_ne _ _ (by omega)]
        rw [addD_ne e] at h4
        exact PM_hit h3 h4 (fun h => h5 ((Mg_add hce).2 h)) n h1
    · have hne : N0 + i ≠ id := fun e => h2 i hi e.symm ⟨by rw [hc]; rfl, addD_iff.2 (.inr rfl), hMgi⟩
      rw [T.get_set_ne _ _ hne, PM_miss n (fun j hj he hh => h2 j hj he ⟨hh.1, addD_iff.2 (.inl hh.2.1), fun h => hh.2.2 ((Mg_add hce).1 h)⟩), ← e1]
      exact h1
  refine ⟨fun j => if j = N0 + i then some x else σ j, ?_⟩
  have hmem : MR E w0 (fun j => if j = N0 + i then some x else σ j) ⟨(chainOf c M0 (addD D i) n).n, PM c B n N0 M0 (addD D i) n⟩ (w.alloc obj) := hm.sub (by rw [e1]) hsub
  refine ⟨by rw [put_size]; exact I.size, fun τ => ?_, hmem, by rw [e1]; exact I.num, fun j hj h => ?_, ?_, by rw [put_defers]; exact I.defers⟩
  · rw [W_add X.stt hD r]
    refine put_vals (f := fun τ => W c ops N N0 t0 D n τ) I.size (fun τ => (I.tr τ).mono hext) (v := (c i).val N0 i) ?_ o.dst τ
    rw [hc]
    exact hmk _ _ (if_pos rfl)
  · have hji : j ≠ i := fun e => h ⟨by rw [e]; exact addD_iff.2 (.inr rfl), by rw [e, hc]; rfl⟩
    have : N0 + j ≠ N0 + i := by omega
    simp only [this, if_false]
    exact I.fresh j hj (fun h2 => h ⟨addD_iff.2 (.inl h2.1), h2.2⟩)
  · refine ⟨I.fg.ext.trans hext, Nat.le_trans I.fg.size (by simp), fun b hb hl => ?_, fun b hb => ?_, by rw [e1]; exact I.fg.n, fun j hj => ?_⟩
    · rw [Below.heap_alloc w obj b (Nat.lt_of_lt_of_le hb I.fg.size)]; exact I.fg.frame b hb hl
    · obtain ⟨id, q, y, h1, h2, h3, h4⟩ := hb
      have h5 := hsub id q h1 h2
      by_cases e : N0 + i = id
      · subst e
        simp only [if_true, Option.some.injEq] at h3
        subst h3
        exact .inr (by have := I.fg.size; omega)
      · rw [T.get_set_ne _ _ e] at h5
        have e' : id ≠ N0 + i := fun h => e h.symm
        simp only [e', if_false] at h3
        exact I.fg.grow b ⟨id, q, y, h5, h2, h3, h4⟩
    · have : j ≠ N0 + i := by omega
      simp only [this, if_false]
      exact I.fg.old j hj
/-- an effect -/
theorem Inv.eff (X : Ctx E call ops B n N N0 M0 t0 S c) {D : Nat → Bool} (hD : Down ops D) {i : Nat} {o : Oper} (r : Ready ops B D i o) {σ : Sg} {a : Act} {w : World} (I : Inv E w0 ops B n N N0 M0 t0 c σ0 m0 wst ds D σ a w)
    (hm0 : m0.n = N0) {v : Value} {m' : Mem} (hc : c i = .eff v m') :
    MR E w0 σ ⟨(S i).chain.n, addAllocs N0 (B.getD i 0) (S i).allocs (S i).chain.t⟩ w ∧ ∀ {σ' : Sg} {v' : Value} {w' : World}, FG σ ⟨(S i).chain.n, addAllocs N0 (B.getD i 0) (S i).allocs (S i).chain.t⟩ w σ' m' w' → MR E w0 σ' m' w' → VR σ' v v' →
      Inv E w0 ops B n N N0 M0 t0 c σ0 m0 wst ds (addD D i) σ' (a.put o.dst v') w' := by
  have hi : i < n := by rw [← X.stt.len]; exact getElem?_lt r.op
  have hce : (c i).isEff = true := by rw [hc]; rfl
  have hcl := X.run.cls i o r.op
  rw [hc] at hcl
  obtain ⟨hbits, hfr, _⟩ := effOK_spec (effOK_of hcl)
  have rc := recs X.run i (by rw [X.stt.len]; omega)
  -- which effects are in D
  have hin : ∀ e, e < n → (c e).isEff = true → (D e = true ↔ e < i) := by
    intro e he hef
    constructor
    · intro hd
      rcases Nat.lt_or_ge e i with h1 | h1
      · exact h1
      · by_cases h2 : e = i
        · subst h2; rw [r.out] at hd; cases hd
        · have := X.stt.closed hD e i hd (X.effs he (by omega) hce hef)
          rw [r.out] at this; cases this
    · intro h1
      exact r.before e (X.effs hi h1 hef hce)
  have hch : chainOf c M0 D n = (S i).chain := by
    rw [rc.chain, chain_cut (i := i) n (by omega) (fun e he hen hef => by
      cases hd : D e with
      | false => rfl
      | true => have := (hin e hen hef).1 hd; omega)]
    exact chain_same i (fun e he hef => (hin e (by omega) hef).2 he)
  have hMg : ∀ j, Mg c B n D j ↔ ∃ e, e < i ∧ (c e).isEff = true ∧ (B.getD e 0).testBit j = true := by
    intro j
    constructor
    · rintro ⟨e, h1, h2, h3, h4⟩; exact ⟨e, (hin e h1 h3).1 h2, h3, h4⟩
    · rintro ⟨e, h1, h2, h3⟩; exact ⟨e, by omega, (hin e (by omega) h2).2 h1, h2, h3⟩
  have hMg' : ∀ j, Mg c B n (addD D i) j ↔ Mg c B n D j ∨ (B.getD i 0).testBit j = true := by
    intro j
    constructor
    · rintro ⟨e, h1, h2, h3, h4⟩
      rcases addD_iff.1 h2 with h5 | rfl
      · exact .inl ⟨e, h1, h5, h3, h4⟩
      · exact .inr h4
    · rintro (⟨e, h1, h2, h3⟩ | h)
      · exact ⟨e, h1, addD_iff.2 (.inl h2), h3⟩
      · exact ⟨i, hi, addD_iff.2 (.inr rfl), hce, h⟩
  -- what the effect is met with is part of what is there
  have hsub : ∀ id q, (addAllocs N0 (B.getD i 0) (S i).allocs (S i).chain.t).get id = some q → q.live = true → (PM c B n N0 M0 D n).get id = some q := by
    intro id q hq hl
    rcases addAllocs_inv hq with ⟨j, h1, rfl, h3⟩ | h1
    · obtain ⟨h4, ⟨mk, h5⟩, h6⟩ := (rc.allocs j q).1 h1
      refine PM_hit h5 (r.before j h3) (fun h => ?_) n (by omega)
      obtain ⟨e, g1, g2, g3⟩ := (hMg j).1 h
      have hje := X.back g3
      have hne : j ≠ e := fun e2 => by subst e2; rw [h5] at g2; cases g2
      rw [h6 e g1 (by omega) g2] at g3; cases g3
    · rw [PM_miss n, hch]
      · exact h1
      · rintro j hj rfl ⟨g1, g2, g3⟩
        rcases X.chainFresh hD hj with h4 | h4
        · exact g3 h4
        · rw [hch] at h4
          rw [notLive_spec h4 q h1] at hl; cases hl
  have hme : MR E w0 σ ⟨(S i).chain.n, addAllocs N0 (B.getD i 0) (S i).allocs (S i).chain.t⟩ w := I.mem.sub (by rw [hch]) hsub
  refine ⟨hme, fun {σ' v' w'} hF hM hV => ?_⟩
  have hch' : chainOf c M0 (addD D i) n = m' := by
    rw [chain_cut (i := i + 1) n (by omega) (fun e he hen hef => by
      rw [addD_ne (by omega)]
      cases hd : D e with
      | false => rfl
      | true => have := (hin e hen hef).1 hd; omega)]
    simp only [chainOf, addD_iff.2 (.inr rfl), hc]
  have hmn : (S i).chain.n ≤ m'.n := hF.n
  have hnum := I.num
  rw [hch] at hnum
  -- what is pending, in the old world
  have pend : ∀ k ob mk, k < n → c k = .alloc ob mk → addD D i k = true → ¬ Mg c B n (addD D i) k → ∃ x ob', σ (N0 + k) = some x ∧ w0.heap.size ≤ x.b ∧ w.heap[x.b]? = some ob' ∧ OR E σ x ob ob' ∧ (PM c B n N0 M0 D n).get (N0 + k) = some ob ∧ ob.live = true ∧ ¬ LiveB σ ⟨(S i).chain.n, addAllocs N0 (B.getD i 0) (S i).allocs (S i).chain.t⟩ x.b := by
    intro k ob mk hk hck hdk hmk
    have hki : i ≠ k := fun e => by subst e; rw [hck] at hc; cases hc
    rw [addD_ne hki] at hdk
    have hmk1 : ¬ Mg c B n D k := fun h => hmk ((hMg' k).2 (.inl h))
    have hmk2 : (B.getD i 0).testBit k = false := by
      cases hb : (B.getD i 0).testBit k with
      | false => rfl
      | true => exact absurd ((hMg' k).2 (.inr hb)) hmk
    have hget : (PM c B n N0 M0 D n).get (N0 + k) = some ob := PM_hit hck hdk hmk1 n hk
    have hlive : ob.live = true := by
      cases hl : ob with
      | dead =>
        exfalso
        -- no operation lays a dead thing
        have hcl2 := X.lt hk
        obtain ⟨o2, ho2⟩ := hcl2
        have h2 := X.run.cls k o2 ho2
        rw [hck, hl] at h2
        have := alloc_live h2
        cases this
      | _ => rfl
    obtain ⟨x, ob', h1, h2, h3, h4⟩ := I.mem.obj _ _ hget hlive
    refine ⟨x, ob', h1, h2, h3, h4, hget, hlive, ?_⟩
    rintro ⟨id, q, y, g1, g2, g3, g4⟩
    have g5 := hsub id q g1 g2
    have g6 : id = N0 + k := I.mem.inj id (N0 + k) q ob y x g5 g2 hget hlive g3 h1 g4
    subst g6
    rcases addAllocs_inv g1 with ⟨j, f1, f2, f3⟩ | f1
    · have : j = k := by omega
      subst this
      rw [hmk2] at f3; cases f3
    · rcases X.chainFresh hD hk with h5 | h5
      · exact hmk1 h5
      · rw [hch] at h5
        rw [notLive_spec h5 q f1] at g2; cases g2
  have hmem : ∀ k, k ≤ n → MR E w0 σ' ⟨m'.n, PM c B n N0 M0 (addD D i) k⟩ w' := by
    intro k
    induction k with
    | zero =>
      intro _
      simp only [PM, hch']
      exact hM
    | succ k ih =>
      intro hk
      have ih' := ih (by omega)
      simp only [PM]
      split
      · rename_i ob mk hck
        split
        · rename_i hd
          obtain ⟨x, ob', h1, h2, h3, h4, h5, h6, h7⟩ := pend k ob mk (by omega) hck hd.1 hd.2
          have hlt : x.b < w.heap.size := (Array.getElem?_eq_some_iff.1 h3).1
          refine ih'.putBack (x := x) (hF.ext _ _ h1) h2 ?_ (by rw [hF.frame x.b hlt h7]; exact h3) (h4.mono hF.ext)
          rintro ⟨id, q, y, g1, g2, g3, g4⟩
          rcases PM_inv k g1 with ⟨j, mk', f1, rfl, f3, f4, f5⟩ | ⟨f1, _⟩
          · obtain ⟨y0, _, e1, _, _, _, e5, e6, _⟩ := pend j q mk' (by omega) f3 f4 f5
            have : y0 = y := by have := hF.ext _ _ e1; rw [g3] at this; exact (Option.some.inj this).symm
            subst this
            have := I.mem.inj _ _ _ _ _ _ e5 e6 h5 h6 e1 h1 g4
            omega
          · rw [hch'] at f1
            rcases hF.grow x.b ⟨id, q, y, f1, g2, g3, g4⟩ with f2 | f2
            · exact h7 f2
            · omega
        · exact ih'
      · exact ih'
  refine ⟨by rw [put_size]; exact I.size, fun τ => ?_, by rw [hch']; exact hmem n (Nat.le_refl _), by rw [hch']; omega, fun j hj h => ?_, ?_, by rw [put_defers]; exact I.defers⟩
  · rw [W_add X.stt hD r]
    refine put_vals (f := fun τ => W c ops N N0 t0 D n τ) I.size (fun τ => (I.tr τ).mono hF.ext) (v := (c i).val N0 i) ?_ o.dst τ
    rw [hc]; exact hV
  · rw [hF.old (N0 + j) (by show N0 + j < (S i).chain.n; omega)]
    exact I.fresh j hj (fun h2 => h ⟨addD_iff.2 (.inl h2.1), h2.2⟩)
  · rw [hch']
    refine ⟨I.fg.ext.trans hF.ext, Nat.le_trans I.fg.size hF.size, fun b hb hl => ?_, fun b hb => ?_, ?_, fun j hj => ?_⟩
    · rw [hF.frame b (Nat.lt_of_lt_of_le hb I.fg.size) (fun hl2 => by
        rcases I.fg.grow b (hl2.sub hsub) with h1 | h1
        · exact hl h1
        · omega)]
      exact I.fg.frame b hb hl
    · obtain ⟨id, q, y, h1, h2, h3, h4⟩ := hb
      rcases PM_inv n h1 with ⟨j, mk', f1, rfl, f3, f4, f5⟩ | ⟨f1, _⟩
      · obtain ⟨y0, _, e1, _, _, _, e5, e6, _⟩ := pend j q mk' f1 f3 f4 f5
        have : y0 = y := by have := hF.ext _ _ e1; rw [h3] at this; exact (Option.some.inj this).symm
        subst this
        exact I.fg.grow b ⟨_, q, y0, e5, e6, e1, h4⟩
      · rw [hch'] at f1
        rcases hF.grow b ⟨id, q, y, f1, h2, h3, h4⟩ with f2 | f2
        · exact I.fg.grow b (f2.sub hsub)
        · exact .inr (Nat.le_trans I.fg.size f2)
    · have := I.fg.n
      simp only at this
      rw [hch] at this
      show m0.n ≤ m'.n
      omega
    · rw [hF.old j (by show j < (S i).chain.n; omega)]
      exact I.fg.old j hj
end
end Go.AE

/- Regions whose order is open: the whole. -/
namespace Go.AE
open Go.RowKit
variable {E : Env} {P : Program} {w0 : World}
theorem wanted_at {σ : Sg} {t : T Value} {a : Act} {ops : Array Oper} {o : Oper} (h : ∀ d ∈ looks ops o, VR σ (tv t d) (a.tmps.getD d undef)) {b : Bool} (hw : wanted ops o t = some b) : Region.wanted o (yielded ops a.tmps) = b := by
  unfold wanted at hw
  unfold Region.wanted
  split at hw
  · rename_i hg
    rw [hg]; cases hw; rfl
  · rename_i j want hg
    rw [hg]
    split at hw
    · rename_i p hp
      have hp' : ops[j]? = some p := by simpa using hp
      split at hw
      · rename_i d hd
        have hv := h d (by simp [looks, hg, hp, hd])
        have hy : yielded ops a.tmps j = match a.tmps[d]? with | some (.bool b) => some b | _ => none := by
          simp [yielded, hp', hd]
          rfl
        simp only [tv] at hv
        split at hw
        · rename_i b' ht
          cases hw
          rw [ht] at hv
          have hb := hv.simple_inv rfl
          have : a.tmps[d]? = some (.bool b') := by
            rcases Nat.lt_or_ge d a.tmps.size with h1 | h1
            · simp [h1] at hb
              rw [Array.getElem?_eq_getElem h1, hb]
            · simp [Nat.not_lt.2 h1, undef] at hb
          simp only [hy, this]
          cases b' <;> cases want <;> rfl
        · rename_i vs ht
          cases hw
          rw [ht] at hv
          obtain ⟨vs', hb, _⟩ := hv.tuple_inv
          have : (match a.tmps[d]? with | some (.bool b) => some b | _ => none) = (none : Option Bool) := by
            rcases Nat.lt_or_ge d a.tmps.size with h1 | h1
            · simp [h1] at hb
              rw [Array.getElem?_eq_getElem h1, hb]
            · rw [Array.getElem?_eq_none h1]
          simp only [hy, this]
          rfl
        · cases hw
      · cases hw
    · cases hw
section
variable {call : CallF} {ops : Array Oper} {B : List Nat} {n N N0 : Nat} {M0 : Mem} {t0 : T Value} {S : Nat → DS} {c : Nat → Cl} {σ0 : Sg} {m0 : Mem} {wst : World} {ds : List Deferred}
theorem read_at (X : Ctx E call ops B n N N0 M0 t0 S c) {D : Nat → Bool} (hD : Down ops D) {i : Nat} {o : Oper} (r : Ready ops B D i o) {v : Value} (hc : c i = .read v) (hcb : checkBack E M0 o (S i).t v (B.getD i 0) (S i).effs = true) :
    evOp E (evalT (S i).t) o (chainOf c M0 D n) = [.val v] := by
  have hi : i < n := by rw [← X.stt.len]; exact getElem?_lt r.op
  have rc := recs X.run i (by rw [X.stt.len]; omega)
  obtain ⟨h1, h2⟩ := checkBack_spec rc.sorted hcb
  have hno : ∀ y ∈ (S i).effs, D y.1 = false → (B.getD i 0).testBit y.1 = false := fun y _ hd => by
    cases hb : (B.getD i 0).testBit y.1 with
    | false => rfl
    | true => rw [r.before _ hb] at hd; cases hd
  apply readsAs_spec
  rcases chain_cases (c := c) (M0 := M0) (D := D) n with ⟨g1, g2⟩ | ⟨e, v', m', g1, g2, g3, g4, g5⟩
  · rw [g2]
    refine h2 (fun y hy => hno y hy ?_)
    obtain ⟨k1, v1, k2⟩ := (rc.effs y.1 y.2).1 hy
    cases hd : D y.1 with
    | false => rfl
    | true => have := g1 y.1 (by omega) hd; rw [k2] at this; cases this
  · rw [g5]
    rcases Nat.lt_or_ge e i with h3 | h3
    · refine h1 (e, m') ((rc.effs e m').2 ⟨h3, v', g3⟩) (fun y hy hlt => hno y hy ?_)
      obtain ⟨k1, v1, k2⟩ := (rc.effs y.1 y.2).1 hy
      cases hd : D y.1 with
      | false => rfl
      | true => have := g4 y.1 (by omega) hlt hd; rw [k2] at this; cases this
    · have hne : i ≠ e := fun h => by subst h; rw [hc] at g3; cases g3
      obtain ⟨oe, hoe⟩ := X.lt g1
      have hcl := X.run.cls e oe hoe
      rw [g3] at hcl
      have rce := recs X.run e (by rw [X.stt.len]; omega)
      have hmem : (i, o, (S i).t, v) ∈ (S e).reads := (rce.reads i o _ v).2 ⟨by omega, r.op, hc, rfl⟩
      rcases (effOK_spec (effOK_of hcl)).2.2 _ hmem with h5 | h5
      · have := X.stt.closed hD e i g2 h5
        rw [r.out] at this; cases this
      · exact h5
/-- the plain chain's memory is part of what is there -/
theorem chain_sub (X : Ctx E call ops B n N N0 M0 t0 S c) {D : Nat → Bool} (hD : Down ops D) : ∀ id q, (chainOf c M0 D n).t.get id = some q → q.live = true → (PM c B n N0 M0 D n).get id = some q := by
  intro id q hq hl
  rw [PM_miss n]
  · exact hq
  · rintro j hj rfl ⟨_, _, g3⟩
    rcases X.chainFresh hD hj with h4 | h4
    · exact g3 h4
    · rw [notLive_spec h4 q hq] at hl; cases hl
theorem cls_skip {S : DS} {o : Oper} {b : Nat} (h : clsD E call ops n N0 M0 S o b = some .skip) : wanted ops o S.t = some false := by
  unfold clsD at h
  split at h
  · cases h
  · rename_i hw; exact hw
  · split at h
    · split at h <;> cases h
    · split at h
      · split at h <;> cases h
      · split at h <;> cases h
      · split at h
        · split at h <;> cases h
        · cases h
      · cases h
theorem cls_pure {S : DS} {o : Oper} {b : Nat} {v : Value} (h : clsD E call ops n N0 M0 S o b = some (.pure v)) : wanted ops o S.t = some true ∧ memFree o.op = true ∧ evOp E (evalT S.t) o M0 = [.val v] := by
  unfold clsD at h
  split at h
  · cases h
  · cases h
  · rename_i hw
    split at h
    · rename_i hf
      split at h
      · rename_i he; cases h; exact ⟨hw, hf, he⟩
      · cases h
      · cases h
    · split at h
      · split at h <;> cases h
      · split at h <;> cases h
      · split at h
        · split at h <;> cases h
        · cases h
      · cases h
theorem cls_read {S : DS} {o : Oper} {b : Nat} {v : Value} (h : clsD E call ops n N0 M0 S o b = some (.read v)) : wanted ops o S.t = some true ∧ checkBack E M0 o S.t v b S.effs = true := by
  unfold clsD at h
  split at h
  · cases h
  · cases h
  · rename_i hw
    split at h
    · split at h <;> cases h
    · split at h
      · split at h
        · rename_i hcb; cases h; exact ⟨hw, hcb⟩
        · cases h
      · split at h <;> cases h
      · split at h
        · split at h <;> cases h
        · cases h
      · cases h
theorem cls_eff {S : DS} {o : Oper} {b : Nat} {v : Value} {m : Mem} (h : clsD E call ops n N0 M0 S o b = some (.eff v m)) : wanted ops o S.t = some true ∧ (evOp E (evalT S.t) o ⟨S.chain.n, addAllocs N0 b S.allocs S.chain.t⟩ = [.eff v m] ∨
    ∃ f args, evOp E (evalT S.t) o ⟨S.chain.n, addAllocs N0 b S.allocs S.chain.t⟩ = [.enter f args] ∧ call f args ⟨S.chain.n, addAllocs N0 b S.allocs S.chain.t⟩ = [(v, m)]) := by
  unfold clsD at h
  split at h
  · cases h
  · cases h
  · rename_i hw
    split at h
    · split at h <;> cases h
    · split at h
      · split at h <;> cases h
      · rename_i he
        split at h
        · cases h; exact ⟨hw, .inl he⟩
        · cases h
      · rename_i f args he
        split at h
        · rename_i hcall
          split at h
          · cases h; exact ⟨hw, .inr ⟨f, args, he, hcall⟩⟩
          · cases h
        · cases h
      · cases h
theorem step_draw (hE : EOK E P) (hcall : CallOK E P w0 call) (X : Ctx E call ops B n N N0 M0 t0 S c) {D : Nat → Bool} (hD : Down ops D) {i : Nat} {o : Oper} (r : Ready ops B D i o) {σ : Sg} {a : Act} {w : World} (I : Inv E w0 ops B n N N0 M0 t0 c σ0 m0 wst ds D σ a w)
    (hm0 : m0.n = N0) {rr : Option Nat} {fl : Nat} {Q : Exit → Act → World → Prop} {K : Act → World → Prop} (hK : ∀ σ' a' w', Inv E w0 ops B n N N0 M0 t0 c σ0 m0 wst ds (addD D i) σ' a' w' → K a' w') : wpOpIn (WF rr) fl P ops Q i K a w := by
  have hcl := X.run.cls i o r.op
  have hl : ∀ d ∈ looks ops o, VR σ (tv (S i).t d) (a.tmps.getD d undef) := fun d hd => by
    rw [← W_looks X.stt hD r X.run hd]; exact I.tr d
  have hρ : ∀ x ∈ o.op.operands, VR σ (evalT (S i).t x) (a.eval x) := by
    intro x hx
    cases x with
    | tmp d => exact hl d (by simp only [looks, List.mem_append]; exact .inl (List.mem_filterMap.2 ⟨.tmp d, Array.mem_toList_iff.2 hx, rfl⟩))
    | const v => exact cst_sound σ v
    | global g => exact .any _
    | func f => exact .func rfl (fun i hi => by simp at hi) rfl (fun i hi => by simp at hi)
  have ho : ops[i]? = some o := by simpa using r.op
  unfold wpOpIn
  simp only [ho]
  have goVal : ∀ {m : Mem} {v : Value}, MR E w0 σ m w → evOp E (evalT (S i).t) o m = [.val v] → wanted ops o (S i).t = some true → (c i).val N0 i = v → (c i).isEff = false → (c i).isAlloc = false →
      (if Region.wanted o (yielded ops a.tmps) = true then o.wpIn (WF rr) fl P a w K Q else (∀ f, o.about P w a.eval = some f → (WF rr).fn f) ∧ K (a.put o.dst undef) w) := by
    intro m v hm he hw hv h1 h2
    rw [if_pos (wanted_at hl hw)]
    obtain ⟨out, hmem, hout⟩ := evOp_at (P := P) hE hm o hρ (by rw [he]; simp)
    rw [he, List.mem_singleton] at hmem
    subst hmem
    refine oper_wp hcall (not_defer (by rw [he]; simp)) hm hout ?_ (fun _ _ h => by cases h) (fun _ _ h => by cases h) (fun _ _ h => by cases h)
    rintro u hu v' g3
    cases hu
    exact hK σ _ w (I.same X hD r h1 h2 (by rw [hv]; exact g3))
  cases hc : c i with
  | skip =>
    rw [hc] at hcl
    have hw := cls_skip hcl
    rw [if_neg (by rw [wanted_at hl hw]; decide)]
    exact ⟨fun _ _ => trivial, hK σ _ w (I.same X hD r (by rw [hc]; rfl) (by rw [hc]; rfl) (by rw [hc]; exact VR.undef σ))⟩
  | pure v =>
    rw [hc] at hcl
    obtain ⟨hw, hf, he⟩ := cls_pure hcl
    exact goVal I.mem ((evOp_memFree o _ M0 hf).trans he) hw (by rw [hc]; rfl) (by rw [hc]; rfl) (by rw [hc]; rfl)
  | read v =>
    rw [hc] at hcl
    obtain ⟨hw, hcb⟩ := cls_read hcl
    exact goVal (m := chainOf c M0 D n) (I.mem.sub rfl (chain_sub X hD)) (read_at X hD r hc hcb) hw (by rw [hc]; rfl) (by rw [hc]; rfl) (by rw [hc]; rfl)
  | alloc ob mk =>
    rw [hc] at hcl
    obtain ⟨hw, hf, he⟩ := cls_alloc hcl
    rw [if_pos (wanted_at hl hw)]
    have he' := (evOp_memFree (E := E) (ρ := evalT (S i).t) o ⟨(chainOf c M0 D n).n, PM c B n N0 M0 D n⟩ M0 hf).trans he
    obtain ⟨out, hmem, hout⟩ := evOp_at (P := P) hE I.mem o hρ (by rw [he']; simp)
    rw [he', List.mem_singleton] at hmem
    subst hmem
    refine oper_wp hcall (not_defer (by rw [he']; simp)) I.mem hout (fun _ h => by cases h) ?_ (fun _ _ h => by cases h) (fun _ _ h => by cases h)
    rintro ob' mk' hu v' obj x g2 g3 g4 g5
    cases hu
    obtain ⟨σ', I'⟩ := I.alloc X hD r hm0 hc g2 g4 g5
    exact hK σ' _ _ I'
  | eff v m' =>
    rw [hc] at hcl
    obtain ⟨hw, he⟩ := cls_eff hcl
    rw [if_pos (wanted_at hl hw)]
    obtain ⟨hm, hgo⟩ := I.eff X hD r hm0 hc
    rcases he with he | ⟨f, args, he, hca⟩
    · obtain ⟨out, hmem, hout⟩ := evOp_at (P := P) hE hm o hρ (by rw [he]; simp)
      rw [he, List.mem_singleton] at hmem
      subst hmem
      refine oper_wp hcall (not_defer (by rw [he]; simp)) hm hout (fun _ h => by cases h) (fun _ _ h => by cases h) ?_ (fun _ _ h => by cases h)
      rintro u m2 hu v' w' σ' g3 g4 g5
      cases hu
      exact hK σ' _ w' (hgo g5 g4 g3)
    · obtain ⟨out, hmem, hout⟩ := evOp_at (P := P) hE hm o hρ (by rw [he]; simp)
      rw [he, List.mem_singleton] at hmem
      subst hmem
      refine oper_wp hcall (not_defer (by rw [he]; simp)) hm hout (fun _ h => by cases h) (fun _ _ h => by cases h) (fun _ _ h => by cases h) ?_
      rintro f' args' hu
      cases hu
      refine ⟨by rw [hca]; simp, ?_⟩
      intro q hq v' w' σ' hF hV hM
      rw [hca, List.mem_singleton] at hq
      subst hq
      exact hK σ' _ w' (hgo hF hM hV)
def cntF : List Bool → Nat
  | [] => 0
  | true :: l => cntF l
  | false :: l => cntF l + 1
theorem cntF_set : ∀ {l : List Bool} {i : Nat}, l[i]? = some false → cntF (l.set i true) + 1 = cntF l := by
  intro l
  induction l with
  | nil => intro i h; simp at h
  | cons b l ih =>
    intro i h
    cases i with
    | zero => cases h; rfl
    | succ i =>
      have := ih (i := i) (by simpa using h)
      cases b
      · simp only [List.set_cons_succ, cntF]; omega
      · simp only [List.set_cons_succ, cntF]; exact this
theorem cntF_le : ∀ (l : List Bool), cntF l ≤ l.length := by
  intro l
  induction l with
  | nil => exact Nat.le_refl _
  | cons b l ih => cases b <;> simp only [cntF, List.length_cons] <;> omega
/-- every order -/
theorem any_draw (hE : EOK E P) (hcall : CallOK E P w0 call) (X : Ctx E call ops B n N N0 M0 t0 S c) (hB : B = masks ops.toList []) (hm0 : m0.n = N0) {rr : Option Nat} {fl : Nat} {Q : Exit → Act → World → Prop}
    (hQ : ∀ σ' a' w', Inv E w0 ops B n N N0 M0 t0 c σ0 m0 wst ds (fun i => decide (i < n)) σ' a' w' → Q .normal a' w') : ∀ (fuel : Nat) (listed : Array Bool) (σ : Sg) (a : Act) (w : World), listed.size = ops.size → cntF listed.toList ≤ fuel →
    Down ops (fun i => listed.getD i false) → Inv E w0 ops B n N N0 M0 t0 c σ0 m0 wst ds (fun i => listed.getD i false) σ a w → wpAnyIn (WF rr) fl P .any ops Q fuel listed a w := by
  have hsz : ops.size = n := by rw [← X.stt.len]; simp
  -- where nothing is ready everything is listed
  have done : ∀ (listed : Array Bool) (σ : Sg) (a : Act) (w : World), listed.size = ops.size → Down ops (fun i => listed.getD i false) → Inv E w0 ops B n N N0 M0 t0 c σ0 m0 wst ds (fun i => listed.getD i false) σ a w → Region.ready .any ops listed = [] → Q .normal a w := by
    intro listed σ a w hls hD I hr
    have hall : ∀ i, i < n → listed.getD i false = true := by
      intro i
      induction i using Nat.strongRecOn with
      | _ i ih =>
        intro hi
        cases hl : listed.getD i false with
        | true => rfl
        | false =>
          exfalso
          obtain ⟨o, ho⟩ := X.lt hi
          have hmem : i ∈ Region.ready .any ops listed := by
            rw [mem_ready]
            have ho' : ops[i]? = some o := by simpa using ho
            refine ⟨?_, o, ho', ?_⟩
            · have : i < listed.size := by omega
              simp [this] at hl ⊢
              exact hl
            · intro e he hb
              have := X.stt.back i o ho e (Array.mem_toList_iff.2 he) hb
              exact ih e.on this (by omega)
          rw [hr] at hmem; cases hmem
    have hfun : (fun i => listed.getD i false) = (fun i => decide (i < n)) := by
      funext i
      by_cases h : i < n
      · rw [hall i h]; simp [h]
      · have : ¬ i < listed.size := by omega
        simp [this, h]
    rw [hfun] at I
    exact hQ σ a w I
  intro fuel
  induction fuel with
  | zero =>
    intro listed σ a w hls hf hD I
    have hnone : Region.ready .any ops listed = [] := by
      cases hr : Region.ready .any ops listed with
      | nil => rfl
      | cons i l =>
        exfalso
        have hmem : i ∈ Region.ready .any ops listed := by rw [hr]; simp
        rw [mem_ready] at hmem
        obtain ⟨h1, o, h2, _⟩ := hmem
        have h3 : i < ops.size := (Array.getElem?_eq_some_iff.1 h2).1
        have h4 : i < listed.size := by omega
        have h5 : listed.toList[i]? = some false := by
          simp [h4] at h1
          simp [h4, h1]
        have := cntF_set h5
        omega
    exact ⟨hnone, done listed σ a w hls hD I hnone⟩
  | succ fuel ih =>
    intro listed σ a w hls hf hD I
    refine ⟨done listed σ a w hls hD I, fun i hi => ?_⟩
    rw [mem_ready] at hi
    obtain ⟨h1, o, h2, h3⟩ := hi
    have hi : i < ops.size := (Array.getElem?_eq_some_iff.1 h2).1
    have h4 : i < listed.size := by omega
    have h5 : listed.toList[i]? = some false := by
      simp [h4] at h1
      simp [h4, h1]
    have hout : listed.getD i false = false := by
      simp [h4] at h1
      simp [h4, h1]
    have hop : ops.toList[i]? = some o := by simpa using h2
    have r : Ready ops B (fun i => listed.getD i false) i o := by
      refine ⟨hop, hout, fun j hj => ?_⟩
      rw [hB] at hj
      have h6 := (masks_spec ops.toList []).2 i o hop
      simp only [List.length_nil, Nat.zero_add] at h6
      rw [List.getD_eq_getElem?_getD, h6, Option.getD_some] at hj
      rcases orEdges_spec hj with h7 | ⟨e, he, hb, h7⟩
      · simp at h7
      · have hon := h3 e (Array.mem_toList_iff.1 he) hb
        rcases h7 with rfl | h7
        · exact hon
        · have hlt := X.stt.back i o hop e he hb
          have h8 : ((masks ops.toList []).take i).getD e.on 0 = (masks ops.toList []).getD e.on 0 := by
            rw [List.getD_eq_getElem?_getD, List.getD_eq_getElem?_getD, List.getElem?_take, if_pos hlt]
          rw [h8] at h7
          exact masks_closed hD e.on j hon h7
    have hfun : (fun j => (listed.setIfInBounds i true).getD j false) = addD (fun j => listed.getD j false) i := by
      funext j
      by_cases e : i = j
      · subst e
        have : addD (fun j => listed.getD j false) i i = true := addD_iff.2 (.inr rfl)
        rw [this]
        simp [h4]
      · rw [addD_ne e, getD_set_ne false e]
    refine step_draw hE hcall X hD r I hm0 (fun σ' a' w' I' => ?_)
    refine ih (listed.setIfInBounds i true) σ' a' w' (by simpa using hls) ?_ ?_ ?_
    · rw [Array.toList_setIfInBounds]
      have := cntF_set h5
      omega
    · rw [hfun]
      intro k p hk hkd e he hb
      rcases addD_iff.1 hkd with h6 | rfl
      · exact addD_iff.2 (.inl (hD k p hk h6 e he hb))
      · rw [hop] at hk; cases hk
        exact addD_iff.2 (.inl (h3 e (Array.mem_toList_iff.1 he) hb))
    · rw [hfun]; exact I'
end
theorem addAll_inv {N0 : Nat} {id : Nat} {o : AObj} {t : T AObj} : ∀ {l : List (Nat × AObj)}, (addAll N0 l t).get id = some o → (∃ j, (j, o) ∈ l ∧ id = N0 + j) ∨ t.get id = some o := by
  intro l
  induction l with
  | nil => intro h; exact .inr h
  | cons x l ih =>
    intro h
    obtain ⟨j, ob⟩ := x
    simp only [addAll] at h
    by_cases e : N0 + j = id
    · subst e
      rw [T.get_set_same] at h; cases h
      exact .inl ⟨j, by simp, rfl⟩
    · rw [T.get_set_ne _ _ e] at h
      rcases ih h with ⟨k, h1, h2⟩ | h1
      · exact .inl ⟨k, by simp [h1], h2⟩
      · exact .inr h1
/-- A REGION WHOSE ORDER IS OPEN -/
theorem evDraw_wp (hE : EOK E P) (hP : P.follows .mixedOrders = true) {call : CallF} (hcall : CallOK E P w0 call) {rr : Option Nat} {fl : Nat} {N id : Nat} {ops : Array Oper} {Q : Exit → Act → World → Prop} {t : T Value} {m : Mem} {σ : Sg} {a : Act} {w : World}
    (hne : evDraw E call N ops t m ≠ []) (hT : TR σ N t a) (hM : MR E w0 σ m w)
    (hQ : ∀ r ∈ evDraw E call N ops t m, ∀ σ' a' w', FG σ m w σ' r.2 w' → TR σ' N r.1 a' → MR E w0 σ' r.2 w' → a'.defers = a.defers → Q .normal a' w') : (Code.region id ops true).wpIn (WF rr) fl P Q a w := by
  refine wpIn_region_any hP ?_
  unfold evDraw at hne hQ
  split at hne
  · rename_i hed htm
    simp only [hed, htm] at hQ
    split at hne
    · rename_i Sf hrun
      rw [hrun] at hQ
      simp only at hQ
      obtain ⟨S, c, hS0, hSf, hS⟩ := runD_ok _ _ _ _ hrun
      have hstat : Stat ops (masks ops.toList []) ops.toList.length := by
        refine ⟨rfl, fun i o ho e he hb => ?_, fun {D} hD => masks_closed hD, fun k i o p hk hi hp hc => ?_⟩
        · have := edgesOK_spec hed i o ho e he hb; omega
        · have := tmpsOK_spec htm k o hk i p (by omega) hp hc
          simpa using this
      have X : Ctx E call ops (masks ops.toList []) ops.toList.length N m.n ⟨m.n + ops.toList.length, m.t⟩ t S c := by
        refine ⟨⟨hS0, fun k o ho => ?_, fun k o ho => ?_⟩, hstat, rfl, fun j hj => ?_⟩
        · have := (hS k o ho).1; simpa using this
        · have := (hS k o ho).2; simpa using this
        · cases hg : m.t.get (m.n + j) with
          | none => simp [notLive, hg]
          | some o =>
            cases hl : o.live with
            | false => cases o <;> first | (cases hl; done) | simp [notLive, hg]
            | true =>
              obtain ⟨x, _, hx, _⟩ := hM.obj _ _ hg hl
              rw [hM.fresh (m.n + j) (by omega)] at hx; cases hx
      have hch0 : ∀ k, chainOf c ⟨m.n + ops.toList.length, m.t⟩ (fun _ => false) k = ⟨m.n + ops.toList.length, m.t⟩ := by
        intro k
        induction k with
        | zero => rfl
        | succ k ih => simp only [chainOf]; exact ih
      have hPM0 : ∀ k, PM c (masks ops.toList []) ops.toList.length m.n ⟨m.n + ops.toList.length, m.t⟩ (fun _ => false) k = m.t := by
        intro k
        induction k with
        | zero => simp only [PM]; rw [hch0]
        | succ k ih =>
          simp only [PM]
          split
          · rw [if_neg (by simp)]; exact ih
          · exact ih
      have hW0 : ∀ k τ, W c ops N m.n t (fun _ => false) k τ = tv t τ := by
        intro k τ
        induction k with
        | zero => rfl
        | succ k ih => simp only [W]; rw [if_neg (by simp)]; exact ih
      have hM1 : MR E w0 σ ⟨m.n + ops.toList.length, m.t⟩ w.drew := ⟨hM.below.drew, hM.obj, hM.inj, fun i hi => hM.fresh i (by have : m.n + ops.toList.length ≤ i := hi; omega)⟩
      have I0 : Inv E w0 ops (masks ops.toList []) ops.toList.length N m.n ⟨m.n + ops.toList.length, m.t⟩ t c σ m w a.defers (fun i => (Array.replicate ops.size false).getD i false) σ a w.drew := by
        have hf : (fun i => (Array.replicate ops.size false).getD i false) = (fun _ => false) := by
          funext i
          by_cases h : i < ops.size
          · simp [h]
          · simp [h]
        rw [hf]
        refine ⟨hT.size, fun τ => by rw [hW0]; exact hT.val τ, by rw [hch0, hPM0]; exact hM1, by rw [hch0]; exact Nat.le_refl _, fun i hi _ => hM.fresh _ (by omega), ?_, rfl⟩
        rw [hch0, hPM0]
        exact ⟨Ext.refl σ, Nat.le_refl _, fun _ _ _ => rfl, fun b hb => .inl hb, by show m.n ≤ m.n + ops.toList.length; omega, fun _ _ => rfl⟩
      refine any_draw hE hcall X rfl rfl (fun σ' a' w' I => ?_) ops.size _ σ a w.drew (by simp) (by
        have := cntF_le (Array.replicate ops.size false).toList
        simpa using this) (fun i o ho hd => by
        by_cases h : i < ops.size
        · simp [h] at hd
        · simp [h] at hd) I0
      -- all is done: what the reckoning says
      have rc := recs X.run ops.toList.length (Nat.le_refl _)
      subst hSf
      have hD1 : Down ops (fun i => decide (i < ops.toList.length)) := fun i o ho _ e he hb => by
        have := hstat.back i o ho e he hb
        have := getElem?_lt ho
        simp only [decide_eq_true_eq]; omega
      have hchN : chainOf c ⟨m.n + ops.toList.length, m.t⟩ (fun i => decide (i < ops.toList.length)) ops.toList.length = (S ops.toList.length).chain := by
        rw [rc.chain]
        exact chain_same _ (fun e he _ => by simp only [decide_eq_true he])
      have hsub : ∀ i q, (addAll m.n (S ops.toList.length).allocs (S ops.toList.length).chain.t).get i = some q → q.live = true → (PM c (masks ops.toList []) ops.toList.length m.n ⟨m.n + ops.toList.length, m.t⟩ (fun i => decide (i < ops.toList.length)) ops.toList.length).get i = some q := by
        intro i q hq hl
        rcases addAll_inv hq with ⟨j, h1, rfl⟩ | h1
        · obtain ⟨h2, ⟨mk, h3⟩, h4⟩ := (rc.allocs j q).1 h1
          refine PM_hit h3 (decide_eq_true h2) (fun h => ?_) _ h2
          obtain ⟨e, g1, _, g2, g3⟩ := h
          have hje := X.back g3
          have hne : j ≠ e := fun e2 => by subst e2; rw [h3] at g2; cases g2
          rw [h4 e g1 (by omega) g2] at g3; cases g3
        · exact chain_sub X hD1 i q (by rw [hchN]; exact h1) hl
      have hmem := I.mem
      have hfg := I.fg
      rw [hchN] at hmem hfg
      have hmem2 : MR E w0 σ' ⟨(S ops.toList.length).chain.n, addAll m.n (S ops.toList.length).allocs (S ops.toList.length).chain.t⟩ w' := hmem.sub rfl hsub
      refine hQ _ (List.mem_singleton.2 rfl) σ' a' w' ⟨hfg.ext, hfg.size, hfg.frame, fun b hb => hfg.grow b (hb.sub hsub), hfg.n, hfg.old⟩ ⟨I.size, fun τ => ?_⟩ hmem2 I.defers
      have h1 := I.tr τ
      have h2 : W c ops N m.n t (fun i => decide (i < ops.toList.length)) ops.toList.length τ = tv (S ops.toList.length).t τ := by
        rw [W_all X.run _ (Nat.le_refl _)]
        exact W_same _ (fun i hi _ => by simp only [decide_eq_true hi])
      rw [h2] at h1
      exact h1
    · exact absurd rfl hne
  · exact absurd rfl hne
end Go.AE
