/- Regions whose order is open: facts on the operations and on the order that the edges ask. -/
import Derived.Test.YtkbbpjknakajeaaAECode
import Derived.Orders
namespace Go.AE
open Go.RowKit
variable {E : Env} {P : Program} {w0 : World}
/-! ### equal values -/
theorem veq_sound : ∀ n, (∀ a b, veq n a b = true → a = b) ∧ (∀ l r, veqL n l r = true → l = r) := by
  intro n
  induction n with
  | zero => exact ⟨fun a b h => by simp [veq] at h, fun l r h => by simp [veqL] at h⟩
  | succ n ih =>
    obtain ⟨ih1, ih2⟩ := ih
    have arr : ∀ {x y : Array Value}, veqL n x.toList y.toList = true → x = y := fun h => Array.ext' (ih2 _ _ h)
    constructor
    · intro a b h
      unfold veq at h
      split at h <;> first
        | (simp only [Bool.and_eq_true] at h
           simp_all [Nat.beq_eq]
           done)
        | (cases h; done)
        | skip
      · rename_i p q; have : p = q := by simpa using h
        rw [this]
      · simp only [Bool.and_eq_true, beq_iff_eq] at h
        rw [kcode_inj h.1, h.2]
      · rename_i p q
        have h1 : p.data.toList = q.data.toList := by simpa using h
        have : p = q := ByteArray.ext (Array.ext' h1)
        rw [this]
      · rw [Nat.eq_of_beq_eq_true h]
      · simp only [Bool.and_eq_true] at h
        rw [Nat.eq_of_beq_eq_true h.1.1, arr h.1.2, arr h.2]
      · simp only [Bool.and_eq_true] at h
        rw [Nat.eq_of_beq_eq_true h.1, ih1 _ _ h.2]
      · rw [arr h]
      · rw [arr h]
    · intro l r h
      unfold veqL at h
      split at h
      · rfl
      · simp only [Bool.and_eq_true] at h
        rw [ih1 _ _ h.1, ih2 _ _ h.2]
      · cases h
/-! ### what an operation looks at -/
theorem callA_congr {ρ ρ2 : Operand → Value} (c : Call) (m : Mem) (h : ∀ x ∈ c.operands, ρ x = ρ2 x) : callA E ρ c m = callA E ρ2 c m := by
  have ha : ∀ x ∈ c.args, ρ x = ρ2 x := fun x hx => h x (by simp [Call.operands, hx])
  have h1 : ∀ {x : Operand}, c.args.toList = [x] → ρ x = ρ2 x := fun hx => ha _ (by rw [← Array.mem_toList_iff, hx]; simp)
  have h2 : ∀ {x y : Operand}, c.args.toList = [x, y] → ρ x = ρ2 x ∧ ρ y = ρ2 y := fun hx => ⟨ha _ (by rw [← Array.mem_toList_iff, hx]; simp), ha _ (by rw [← Array.mem_toList_iff, hx]; simp)⟩
  have h3 : c.args.toList.map ρ = c.args.toList.map ρ2 := List.map_congr_left fun x hx => ha x (Array.mem_toList_iff.1 hx)
  unfold callA
  split
  · split
    · rename_i hx; rw [h1 hx]
    · rfl
  · split
    · rename_i hx; rw [(h2 hx).1, (h2 hx).2]
    · rfl
  · split
    · rename_i hx; rw [(h2 hx).1, (h2 hx).2]
    · rfl
  · split
    · rename_i hx; rw [(h2 hx).1, (h2 hx).2]
    · rfl
  · split
    · rename_i hx; rw [(h2 hx).1, (h2 hx).2]
    · rfl
  · split
    · rename_i hx; rw [(h2 hx).1, (h2 hx).2]
    · rfl
  · rename_i f hc
    have hf : ρ f = ρ2 f := h f (by simp [Call.operands, hc])
    rw [hf, h3]
  · rename_i r name hc
    have hf : ρ r = ρ2 r := h r (by simp [Call.operands, hc])
    rw [hf, h3]
  · rfl
theorem evOp_congr {ρ ρ2 : Operand → Value} (o : Oper) (m : Mem) (h : ∀ x ∈ o.op.operands, ρ x = ρ2 x) : evOp E ρ o m = evOp E ρ2 o m := by
  unfold evOp
  have omap : ∀ {x : Option Operand}, (∀ y, x = some y → ρ y = ρ2 y) → x.map ρ = x.map ρ2 := by
    intro x hx; cases x with
    | none => rfl
    | some y => simp [hx y rfl]
  have amap : ∀ {x : Array Operand}, (∀ y ∈ x, ρ y = ρ2 y) → x.map ρ = x.map ρ2 := fun hx => Array.ext' (by
    rw [Array.toList_map, Array.toList_map]; exact List.map_congr_left fun y hy => hx y (Array.mem_toList_iff.1 hy))
  have pmap : ∀ {x : Array (Nat × Operand)}, (∀ p ∈ x, ρ p.2 = ρ2 p.2) → x.toList.map (fun p => (p.1, ρ p.2)) = x.toList.map (fun p => (p.1, ρ2 p.2)) := fun hx => List.map_congr_left fun y hy => by rw [hx y (Array.mem_toList_iff.1 hy)]
  cases hop : o.op <;> rw [hop] at h <;> simp only [Op.operands] at h <;> first
    | rfl
    | (simp only [List.mem_toArray, List.mem_cons, List.not_mem_nil, or_false, forall_eq_or_imp, forall_eq] at h
       simp only [h]
       done)
    | skip
  case build t parts => simp only [pmap fun p hp => h p.2 (by rw [List.mem_toArray]; exact List.mem_map.2 ⟨p, Array.mem_toList_iff.2 hp, rfl⟩)]
  case buildSlice t len parts => simp only [pmap fun p hp => h p.2 (by rw [List.mem_toArray]; exact List.mem_map.2 ⟨p, Array.mem_toList_iff.2 hp, rfl⟩)]
  case makeFunc fn first captured => simp only [amap fun y hy => h y (Array.mem_append.2 (.inl hy)), amap fun y hy => h y (Array.mem_append.2 (.inr hy))]
  case makeMap t r => cases r <;> rfl
  case slice t x lo hi mx =>
    have e0 : ρ x = ρ2 x := h x (by simp)
    have e1 : lo.map ρ = lo.map ρ2 := omap fun y hy => h y (by simp [hy])
    have e2 : hi.map ρ = hi.map ρ2 := omap fun y hy => h y (by simp [hy])
    have e3 : mx.map ρ = mx.map ρ2 := omap fun y hy => h y (by simp [hy])
    simp only [e0, e1, e2, e3]
  case call c => simp only [callA_congr c m h]
theorem evOp_memFree {ρ : Operand → Value} (o : Oper) (m m2 : Mem) (h : memFree o.op = true) : evOp E ρ o m = evOp E ρ o m2 := by
  unfold evOp
  cases hop : o.op <;> rw [hop] at h <;> first
    | (cases h; done)
    | rfl
    | skip
  case makeMap t r => cases r <;> rfl
  case call c =>
    simp only [memFree] at h
    unfold callA
    split at h <;> first | (cases h; done) | (rename_i hc; simp only [hc])
/-- the operation is met with values that fit at its operands alone -/
theorem evOp_at (hE : EOK E P) {σ : Sg} {m : Mem} {w : World} (h : MR E w0 σ m w) {ρ ρ' : Operand → Value} (o : Oper) (hρ : ∀ x ∈ o.op.operands, VR σ (ρ x) (ρ' x)) (hne : evOp E ρ o m ≠ []) : ∃ out ∈ evOp E ρ o m, OutOK E P w0 σ m w (execOp ρ' o) out := by
  classical
  have hc : evOp E (fun x => if x ∈ o.op.operands then ρ x else bad) o m = evOp E ρ o m := evOp_congr o m fun x hx => by simp [hx]
  rw [← hc] at hne ⊢
  refine evOp_sound hE h (fun x => ?_) o hne
  by_cases hx : x ∈ o.op.operands
  · simp only [hx, if_true]; exact hρ x hx
  · simp only [hx, if_false]; exact .any _
/-! ### the edges -/
theorem orEdges_spec {acc : List Nat} : ∀ {l : List Edge} {s j : Nat}, (orEdges acc l s).testBit j = true → s.testBit j = true ∨ ∃ e ∈ l, Region.binds .any e = true ∧ (e.on = j ∨ (acc.getD e.on 0).testBit j = true) := by
  intro l
  induction l with
  | nil => intro s j h; exact .inl h
  | cons e l ih =>
    intro s j h
    simp only [orEdges] at h
    rcases ih h with h1 | ⟨x, hx, h2⟩
    · split at h1
      · rename_i hb
        rw [Nat.testBit_or, Nat.testBit_or] at h1
        simp only [Bool.or_eq_true] at h1
        rcases h1 with (h1 | h1) | h1
        · exact .inl h1
        · refine .inr ⟨e, by simp, hb, .inl ?_⟩
          rw [Nat.testBit_two_pow] at h1
          simpa using h1
        · exact .inr ⟨e, by simp, hb, .inr h1⟩
      · exact .inl h1
    · exact .inr ⟨x, by simp [hx], h2⟩
/-- each mask is reckoned off the ones before it -/
theorem masks_spec : ∀ (l : List Oper) (acc : List Nat), (∃ rest, masks l acc = acc ++ rest ∧ rest.length = l.length) ∧ ∀ (i : Nat) (o : Oper), l[i]? = some o → (masks l acc)[acc.length + i]? = some (orEdges ((masks l acc).take (acc.length + i)) o.after.toList 0) := by
  intro l
  induction l with
  | nil => intro acc; exact ⟨⟨[], by simp [masks], rfl⟩, fun i o h => by simp at h⟩
  | cons o l ih =>
    intro acc
    obtain ⟨⟨rest, h1, h2⟩, h3⟩ := ih (acc ++ [orEdges acc o.after.toList 0])
    simp only [masks]
    refine ⟨⟨orEdges acc o.after.toList 0 :: rest, by rw [h1]; simp, by simp [h2]⟩, fun i p hp => ?_⟩
    cases i with
    | zero =>
      cases hp
      rw [h1]
      simp
    | succ i =>
      have h4 := h3 i p (by simpa using hp)
      simp only [List.length_append, List.length_cons, List.length_nil] at h4
      rw [show acc.length + (i + 1) = acc.length + (0 + 1) + i from by omega]
      exact h4
/-- what has been listed is closed under the masks -/
theorem masks_closed {ops : Array Oper} {D : Nat → Bool} (hD : ∀ (i : Nat) (o : Oper), ops.toList[i]? = some o → D i = true → ∀ e ∈ o.after.toList, Region.binds .any e = true → D e.on = true) :
    ∀ (i j : Nat), D i = true → ((masks ops.toList []).getD i 0).testBit j = true → D j = true := by
  intro i
  induction i using Nat.strongRecOn with
  | _ i ih =>
    intro j hi hb
    have h3 := (masks_spec ops.toList []).2 i
    simp only [List.length_nil, Nat.zero_add] at h3
    cases ho : ops.toList[i]? with
    | none =>
      obtain ⟨rest, h1, h2⟩ := (masks_spec ops.toList []).1
      have hlen : (masks ops.toList []).length = ops.toList.length := by rw [h1]; simpa using h2
      have hge : ops.toList.length ≤ i := by
        rcases Nat.lt_or_ge i ops.toList.length with h | h
        · rw [List.getElem?_eq_getElem h] at ho; cases ho
        · exact h
      rw [List.getD_eq_getElem?_getD, List.getElem?_eq_none (by omega)] at hb
      simp at hb
    | some o =>
      rw [List.getD_eq_getElem?_getD, h3 o ho] at hb
      simp only [Option.getD_some] at hb
      rcases orEdges_spec hb with h1 | ⟨e, he, hbi, h1⟩
      · simp at h1
      · have hon := hD i o ho hi e he hbi
        rcases h1 with rfl | h1
        · exact hon
        · by_cases hlt : e.on < i
          · refine ih e.on hlt j hon ?_
            have : ((masks ops.toList []).take i).getD e.on 0 = (masks ops.toList []).getD e.on 0 := by
              rw [List.getD_eq_getElem?_getD, List.getD_eq_getElem?_getD, List.getElem?_take, if_pos hlt]
            rwa [this] at h1
          · rw [List.getD_eq_getElem?_getD, List.getElem?_eq_none (by simp; omega)] at h1
            simp at h1
theorem edgesOK_spec : ∀ {l : List Oper} {j : Nat}, edgesOK l j = true → ∀ (i : Nat) (o : Oper), l[i]? = some o → ∀ e ∈ o.after.toList, Region.binds .any e = true → e.on < j + i := by
  intro l
  induction l with
  | nil => intro j _ i o h; simp at h
  | cons p l ih =>
    intro j h i o ho e he hb
    simp only [edgesOK] at h
    cases h1 : (p.after.toList.all fun e => !Region.binds .any e || Nat.blt e.on j) with
    | false => rw [h1] at h; cases h
    | true =>
      rw [h1] at h
      cases i with
      | zero =>
        cases ho
        have := List.all_eq_true.1 h1 e he
        rw [hb] at this
        simp only [Bool.not_true, Bool.false_or] at this
        exact Nat.le_of_ble_eq_true this
      | succ i =>
        have := ih h i o (by simpa using ho) e he hb
        omega
theorem conflOK_spec {ops : Array Oper} {B : List Nat} {o : Oper} {b : Nat} : ∀ {l : List Oper} {i : Nat}, conflOK ops B o b l i = true → ∀ (k : Nat) (p : Oper), l[k]? = some p → confl ops p o = true → b.testBit (i + k) = true := by
  intro l
  induction l with
  | nil => intro i _ k p h; simp at h
  | cons q l ih =>
    intro i h k p hp hc
    simp only [conflOK] at h
    cases k with
    | zero =>
      cases hp
      rw [hc] at h
      simp only at h
      cases hb : Nat.testBit b i with
      | true => first | exact hb | rfl
      | false => rw [hb] at h; cases h
    | succ k =>
      have h2 : conflOK ops B o b l (i + 1) = true := by
        split at h
        · cases hb : Nat.testBit b i with
          | true => rw [hb] at h; exact h
          | false => rw [hb] at h; cases h
        · exact h
      have := ih h2 k p (by simpa using hp) hc
      rw [show i + (k + 1) = i + 1 + k from by omega]; exact this
theorem tmpsOK_spec {ops : Array Oper} {B : List Nat} : ∀ {l : List Oper} {j : Nat}, tmpsOK ops B l j = true → ∀ (k : Nat) (o : Oper), l[k]? = some o → ∀ (i : Nat) (p : Oper), i < j + k → ops.toList[i]? = some p → confl ops p o = true → (B.getD (j + k) 0).testBit i = true := by
  intro l
  induction l with
  | nil => intro j _ k o h; simp at h
  | cons q l ih =>
    intro j h k o ho i p hi hp hc
    simp only [tmpsOK] at h
    cases h1 : conflOK ops B q (B.getD j 0) (ops.toList.take j) 0 with
    | false => rw [h1] at h; cases h
    | true =>
      rw [h1] at h
      cases k with
      | zero =>
        cases ho
        have := conflOK_spec h1 i p (by rw [List.getElem?_take, if_pos (by omega)]; exact hp) hc
        simpa using this
      | succ k =>
        have := ih h k o (by simpa using ho) i p (by omega) hp hc
        rw [show j + (k + 1) = j + 1 + k from by omega]; exact this
theorem memN_iff {x : Nat} : ∀ {l : List Nat}, memN x l = true ↔ x ∈ l := by
  intro l
  induction l with
  | nil => simp [memN]
  | cons y l ih =>
    simp only [memN]
    cases h : Nat.beq x y with
    | true => simp [Nat.eq_of_beq_eq_true h]
    | false =>
      have : x ≠ y := fun e => by rw [e, Nat.beq_refl] at h; cases h
      simp [this, ih]
end Go.AE
