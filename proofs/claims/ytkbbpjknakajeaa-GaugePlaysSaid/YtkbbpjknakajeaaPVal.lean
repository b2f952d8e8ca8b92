/- A counter that counts for the first time. -/
import Derived.Test.YtkbbpjknakajeaaPCnt
namespace Go.Proofs.Ytkbbpjknakajeaa
open Go Go.AE Go.RowKit
noncomputable section
def sgF (cb : Nat) : Sg := fun j => if j = 0 then some ⟨cb, 0, 4, 4⟩ else none
def memF : Mem := ⟨1, T.set .nil 0 (.row (T.ofList [.int .u32 0, .int .i32 0, .int .u32 0, .pointer none]) 4 88)⟩
def chkF (l : List (Value × Mem)) : Bool :=
  match l with
  | [(.pointer (some ⟨j, 0, none⟩), m)] => match cellA ⟨0, 0, none⟩ m, cellA ⟨0, 3, none⟩ m, cellA ⟨j, 0, none⟩ m with
    | some (.int .u32 1), some (.pointer (some ⟨i, 0, none⟩)), some (.int .i64 0) => cond (Nat.beq i j) (cond (Nat.beq j 0) false true) false
    | _, _, _ => false
  | _ => false
end
set_option maxRecDepth 1000000 in
theorem first_runs : chkF (clG 37 [.pointer (some ⟨0, 0, none⟩)] memF) = true := by kernel_rfl
theorem type88 : (match EG.types.get 88 with | some ti => Nat.beq ti.size 4 | none => false) = true := by kernel_rfl
theorem mr_F (w : World) (cb : Nat) (h : w.heap[cb]? = some freshC) : MR EG { w with heap := #[] } (sgF cb) memF w := by
  have h0 : ∀ i o, memF.t.get i = some o → i = 0 ∧ o = .row (T.ofList [.int .u32 0, .int .i32 0, .int .u32 0, .pointer none]) 4 88 := fun i o h => by
    unfold memF at h
    simp only at h
    by_cases e : 0 = i
    · subst e; rw [T.get_set_same] at h; cases h; exact ⟨rfl, rfl⟩
    · rw [T.get_set_ne _ _ e, T.get_nil] at h; cases h
  refine ⟨⟨rfl, rfl, rfl, Nat.zero_le _, fun k hk => absurd hk (Nat.not_lt_zero _)⟩, fun i o hi _ => ?_, fun i j o o' _ _ hi _ hj _ _ _ _ => by rw [(h0 i o hi).1, (h0 j o' hj).1], fun i hi => ?_⟩
  · obtain ⟨rfl, rfl⟩ := h0 i o hi
    have ht := type88
    split at ht
    · rename_i ti hti
      refine ⟨⟨cb, 0, 4, 4⟩, _, if_pos rfl, Nat.zero_le _, h, rfl, .inl rfl, rfl, Nat.le_refl _, ⟨ti, hti, (Nat.eq_of_beq_eq_true ht).symm⟩, fun j hj => ?_⟩
      match j, hj with
      | 0, _ => exact ⟨_, _, T.get_ofList _ 0, rfl, .refl rfl⟩
      | 1, _ => exact ⟨_, _, T.get_ofList _ 1, rfl, .refl rfl⟩
      | 2, _ => exact ⟨_, _, T.get_ofList _ 2, rfl, .refl rfl⟩
      | 3, _ => exact ⟨_, _, T.get_ofList _ 3, rfl, .refl rfl⟩
    · cases ht
  · have : 1 ≤ i := hi
    exact if_neg (by omega)
theorem cellA_live {m : Mem} {a : Addr} {v : Value} (h : cellA a m = some v) : ∃ o, m.t.get a.block = some o ∧ o.live = true := by
  unfold cellA at h
  split at h
  · rename_i hr; exact ⟨_, hr, rfl⟩
  · cases h
theorem ptr_inv {σ : Sg} {b o : Nat} {v : Value} (h : VR σ (.pointer (some ⟨b, o, none⟩)) v) : ∃ y, σ b = some y ∧ v = .pointer (some ⟨y.b, y.sh + o, none⟩) := by
  cases h with
  | refl hs => simp [simple] at hs
  | ptr hx => exact ⟨_, hx, rfl⟩
/-- the first time: what counts is made -/
theorem value_first (w : World) (cb : Nat) (h : w.heap[cb]? = some freshC) :
    Calls Try.prog 37 #[.pointer (some ⟨cb, 0, none⟩)] w fun x w' => ∃ yb yo, x = .returned (.pointer (some ⟨yb, yo, none⟩)) ∧ w.heap.size ≤ yb ∧ w'.cell? ⟨cb, 0, none⟩ = some (.int .u32 1) ∧ w'.cell? ⟨cb, 3, none⟩ = some (.pointer (some ⟨yb, yo, none⟩)) ∧
      w'.cell? ⟨yb, yo, none⟩ = some (.int .i64 0) ∧ w'.frozen? ⟨yb, yo, none⟩ = false ∧ (∀ k, k < w.heap.size → k ≠ cb → w'.heap[k]? = w.heap[k]?) ∧ w'.os = w.os ∧ w'.tape = w.tape ∧ w'.output = w.output ∧ w.heap.size ≤ w'.heap.size := by
  have hM := mr_F w cb h
  have hx : VR (sgF cb) (.pointer (some ⟨0, 0, none⟩)) (.pointer (some ⟨cb, 0, none⟩)) := VR.ptr (σ := sgF cb) (i := 0) (o := 0) (x := ⟨cb, 0, 4, 4⟩) (if_pos rfl)
  have hc := first_runs
  have hne : evCall EG SG 1000 40 (.fn 37) [.pointer (some ⟨0, 0, none⟩)] memF ≠ [] := by
    intro e
    unfold clG at hc
    rw [evCallF_eq, e] at hc
    cases hc
  refine ((evCall_ok (w0 := { w with heap := #[] }) (mkEnvL_ok _) mixedG (defS_ok (mkEnvL_ok _) mixedG 1000 40 isSlow (noSums_ok _ _ _) 1) 1000 40).fn 37 _ memF hne (sgF cb) w #[.pointer (some ⟨cb, 0, none⟩)] (.cons hx (VRL.nil _)) hM).mono ?_
  rintro x w' ⟨r, hr, σ', v', rfl, hf, hv, hM'⟩
  unfold clG at hc
  rw [evCallF_eq] at hc
  have hr : r ∈ evCall EG SG 1000 40 (.fn 37) [.pointer (some ⟨0, 0, none⟩)] memF := hr
  generalize evCall EG SG 1000 40 (.fn 37) [.pointer (some ⟨0, 0, none⟩)] memF = l at hc hr
  unfold chkF at hc
  split at hc
  · rename_i j m
    obtain rfl := List.mem_singleton.1 hr
    simp only at hv hM' hf
    split at hc
    · rename_i i c0 c3 cj
      cases h1 : Nat.beq i j with
      | false => rw [h1] at hc; cases hc
      | true =>
        cases h2 : Nat.beq j 0 with
        | true => rw [h1, h2] at hc; cases hc
        | false =>
          obtain rfl := Nat.eq_of_beq_eq_true h1
          have hj0 : i ≠ 0 := fun e => by rw [e] at h2; cases h2
          have hx0 : σ' 0 = some ⟨cb, 0, 4, 4⟩ := hf.ext 0 _ (if_pos rfl)
          have hx' := hx.mono hf.ext
          obtain ⟨b0, o0, u0, _, _, _, e0, _, q0, _, r0⟩ := cellA_sound hM' c0 hx'
          cases e0
          obtain rfl := r0.simple_inv rfl
          have hx3 : VR σ' (.pointer (some ⟨0, 3, none⟩)) (.pointer (some ⟨cb, 3, none⟩)) := VR.ptr (i := 0) (o := 3) (x := ⟨cb, 0, 4, 4⟩) hx0
          obtain ⟨b3, o3, u3, _, _, _, e3, _, q3, _, r3⟩ := cellA_sound hM' c3 hx3
          cases e3
          obtain ⟨bj, oj, uj, _, _, _, ej, _, qj, fj, rj⟩ := cellA_sound hM' cj hv
          obtain rfl := rj.simple_inv rfl
          subst ej
          obtain ⟨y, hy, hvy⟩ := ptr_inv hv
          obtain ⟨y3, hy3, hv3⟩ := ptr_inv r3
          obtain rfl : y3 = y := by rw [hy] at hy3; exact (Option.some.inj hy3).symm
          cases hvy
          subst hv3
          obtain ⟨oi, hoi, hli⟩ := cellA_live cj
          obtain ⟨oz, hoz, hlz⟩ := cellA_live c0
          have hne2 : y3.b ≠ cb := fun e => hj0 (hM'.inj i 0 oi oz y3 ⟨cb, 0, 4, 4⟩ hoi hli hoz hlz hy hx0 e)
          have hlive0 : ∀ b, LiveB (sgF cb) memF b → b = cb := by
            rintro b ⟨q, o, z, _, _, hz, rfl⟩
            unfold sgF at hz
            split at hz
            · cases hz; rfl
            · cases hz
          have hge : w.heap.size ≤ y3.b := by
            rcases hf.grow y3.b ⟨i, oi, y3, hoi, hli, hy, rfl⟩ with h3 | h3
            · exact absurd (hlive0 _ h3) hne2
            · exact h3
          exact ⟨y3.b, y3.sh + 0, rfl, hge, q0, q3, qj, fj, fun k hk hkc => hf.frame k hk (fun hl => hkc (hlive0 k hl)), hM'.below.os, hM'.below.tape, hM'.below.output, hf.size⟩
    · cases hc
  · cases hc
end Go.Proofs.Ytkbbpjknakajeaa
