/- Operations, continued. -/
import Derived.Test.YtppdhckcempmnaaGreatDoorAEOps
namespace Go.AE
open Go.RowKit
variable {E : Env} {P : Program} {w0 : World} {σ : Sg} {m : Mem} {w : World}
theorem ofO_mem {o : Option Out} {p : Out → Prop} (hne : ofO o ≠ []) (h : ∀ x, o = some x → p x) : ∃ x ∈ ofO o, p x := by
  cases o with
  | none => exact absurd rfl hne
  | some x => exact ⟨x, by simp [ofO], h x rfl⟩
theorem valO_mem {o : Option Value} {p : Out → Prop} (hne : valO o ≠ []) (h : ∀ x, o = some x → p (.val x)) : ∃ x ∈ valO o, p x := by
  cases o with
  | none => exact absurd rfl hne
  | some x => exact ⟨.val x, by simp [valO], h x rfl⟩
theorem eqGuard_of {op : BinOp} {t : TypeId} {x y : Operand} {a b : Value} (h : ¬ (a = .nilIface ∧ b = .nilIface)) (h2 : ∀ c d, ¬ (a = .agg c ∧ b = .agg d)) : eqGuard op t x y a b = pure () := by
  cases op <;> first
    | rfl
    | (cases a <;> first
        | rfl
        | (cases b <;> first | rfl | exact absurd ⟨rfl, rfl⟩ h | exact absurd ⟨rfl, rfl⟩ (h2 _ _)))
theorem eqGuard_agg {op : BinOp} {t : TypeId} {x y : Operand} {c d : Array Value} (h : P.eqGuardType P.depth t = false) (w : World) : (eqGuard op t x y (.agg c) (.agg d)).run P w = .ok () w := by
  unfold eqGuard
  cases op <;> simp [h]
theorem top_inv {v v' : Value} (h : VR σ v v') (ht : isTop v = false) : (∀ s, v' = .string s → v = .string s) ∧ (∀ k n, v' = .int k n → v = .int k n) ∧ (v' = .nilIface → v = .nilIface) ∧ (∀ c, v' = .agg c → ∃ d, v = .agg d) ∧ (∀ k n, v' ≠ .float k n) ∧ (∀ k a b, v' ≠ .complex k a b) := by
  cases h <;> first
    | (simp [isTop, bad, AE.topB, AE.topI, AE.topS, AE.topStr, AE.topE] at ht; done)
    | (refine ⟨fun s e => ?_, fun k n e => ?_, fun e => ?_, fun c e => ?_, fun k n e => ?_, fun k a b e => ?_⟩ <;> first | (cases e; done) | exact e | exact ⟨_, rfl⟩ | exact ⟨_, e⟩ | (subst e; rename_i hs; simp [AE.simple] at hs))
theorem cmp_run {op : BinOp} (h : cmp? op = true) (k : IntKind) (a b : Int) (t : TypeId) (w : World) : ∃ r, (binOp op t (.int k a) (.int k b)).run P w = .ok (.bool r) w := by
  cases op <;> first
    | (cases h; done)
    | exact ⟨_, by rw [binOp_eql]; rfl⟩ | exact ⟨_, by rw [binOp_neq]; rfl⟩ | exact ⟨_, by rw [binOp_lss]; rfl⟩ | exact ⟨_, by rw [binOp_leq]; rfl⟩ | exact ⟨_, by rw [binOp_gtr]; rfl⟩ | exact ⟨_, by rw [binOp_geq]; rfl⟩
theorem binop_sound (hE : EOK E P) {op : BinOp} {t : TypeId} {ox oy : Operand} {x y x' y' v : Value} (h : binop E op t x y = some v) (hx : VR σ x x') (hy : VR σ y y') (w : World) :
    ∃ v', (do eqGuard op t ox oy x' y'; binOp op t x' y').run P w = .ok v' w ∧ VR σ v v' := by
  unfold binop at h
  split at h
  · rename_i k a j b
    obtain rfl := hx.simple_inv rfl; obtain rfl := hy.simple_inv rfl
    split at h
    · obtain ⟨h1, h2⟩ := shift_sound (P := P) (j := j) h t w
      exact ⟨v, by simp [eqGuard_at_int, h1], .refl h2⟩
    · rename_i hs
      split at h
      · rename_i hk
        obtain rfl := kcode_inj hk
        obtain ⟨h1, h2⟩ := intBin_sound (P := P) hs h t w
        exact ⟨v, by simp [eqGuard_at_int, h1], .refl h2⟩
      · cases h
  · rename_i k j n
    split at h
    · rename_i hk hc
      cases h
      obtain rfl := hy.simple_inv rfl
      have hk' := kcode_inj hk
      cases hx with
      | refl hs => simp [AE.simple] at hs
      | topI k' n' =>
        rw [kind_kcode] at hk'; subst hk'
        obtain ⟨b, hb⟩ := cmp_run (P := P) hc k' n' n t w
        exact ⟨.bool b, by simp [eqGuard_at_int, hb], .topB b⟩
    · cases h
  · rename_i _ j n _
    split at h
    · rename_i hk hc
      cases h
      obtain rfl := hx.simple_inv rfl
      have hk' := kcode_inj hk
      cases hy with
      | refl hs => simp [AE.simple] at hs
      | topI k' n' =>
        rw [kind_kcode] at hk'; subst hk'
        obtain ⟨b, hb⟩ := cmp_run (P := P) hc j n n' t w
        exact ⟨.bool b, by simp [eqGuard_at_int, hb], .topB b⟩
    · cases h
  · obtain rfl := hx.simple_inv rfl; obtain rfl := hy.simple_inv rfl
    obtain ⟨h1, h2⟩ := strOp_sound (P := P) h t w
    exact ⟨v, by simp [eqGuard_at_string, h1], .refl h2⟩
  · rename_i xs ys
    split at h
    · cases h
    · rename_i hg
      rw [hE.prog] at hg
      obtain ⟨xs', rfl, _⟩ := hx.agg_inv
      obtain ⟨ys', rfl, _⟩ := hy.agg_inv
      split at h
      · rename_i he; cases h
        refine ⟨_, ?_, .refl rfl⟩
        simp only [Sem.run_bind, eqGuard_agg hg w, Result.andThen_ok, binOp, Op.equal, eqA_sound hE _ _ _ _ _ _ _ he hx hy Op.maxDepth (by decide) w]
        rfl
      · rename_i he; cases h
        refine ⟨_, ?_, .refl rfl⟩
        simp only [Sem.run_bind, eqGuard_agg hg w, Result.andThen_ok, binOp, Op.equal, eqA_sound hE _ _ _ _ _ _ _ he hx hy Op.maxDepth (by decide) w]
        rfl
      · cases h
  · cases h
  · rename_i hn1 hn2 hn3 hn4 hn5 hn6
    split at h
    · rename_i htx hty
      obtain ⟨s1, i1, n1, a1, f1, c1⟩ := top_inv hx htx
      obtain ⟨s2, i2, n2, a2, f2, c2⟩ := top_inv hy hty
      have hg : eqGuard op t ox oy x' y' = pure () := eqGuard_of (fun ⟨p, q⟩ => hn6 (n1 p) (n2 q)) (fun c d ⟨p, q⟩ => by
        obtain ⟨c', hc⟩ := a1 c p; obtain ⟨d', hd⟩ := a2 d q; exact hn5 c' d' hc hd)
      rw [hg]
      have hb : ∀ {op}, (op = .eql ∨ op = .neq) → binOp op t x' y' = (if op = .eql then (do pure (.bool (← Op.equal t x' y'))) else (do pure (.bool (!(← Op.equal t x' y'))))) := by
        intro op hop
        rcases hop with rfl | rfl <;> cases x' <;> first
          | rfl
          | (exact absurd rfl (f1 _ _)) | (exact absurd rfl (c1 _ _ _))
          | (cases y' <;> first
              | rfl
              | (exact absurd rfl (f2 _ _)) | (exact absurd rfl (c2 _ _ _))
              | (exact (hn1 _ _ _ _ (i1 _ _ rfl) (i2 _ _ rfl)).elim)
              | (exact (hn4 _ _ (s1 _ rfl) (s2 _ rfl)).elim))
      split at h
      · rename_i he; cases h
        refine ⟨_, ?_, .refl rfl⟩
        rw [hb (.inl rfl)]
        simp only [if_true, Sem.run_bind, Sem.run_pure, Result.andThen_ok, Op.equal, eqA_sound hE _ _ _ _ _ _ _ he hx hy Op.maxDepth (by decide) w]
      · rename_i he; cases h
        refine ⟨_, ?_, .refl rfl⟩
        rw [hb (.inr rfl)]
        simp only [reduceCtorEq, if_false, Sem.run_bind, Sem.run_pure, Result.andThen_ok, Op.equal, eqA_sound hE _ _ _ _ _ _ _ he hx hy Op.maxDepth (by decide) w]
      · cases h
    · cases h
theorem binopC_sound (hE : EOK E P) {op : BinOp} {t : TypeId} {ox oy : Operand} {x y x' y' v : Value} (h : binopC E op t (isConst ox || isConst oy) x y = some v) (hx : VR σ x x') (hy : VR σ y y') (w : World) :
    ∃ v', (do eqGuard op t ox oy x' y'; binOp op t x' y').run P w = .ok v' w ∧ VR σ v v' := by
  unfold binopC at h
  split at h
  · rename_i hc
    obtain rfl := hx.simple_inv rfl; obtain rfl := hy.simple_inv rfl
    have hg : (eqGuard op t ox oy .nilIface .nilIface).run P w = .ok () w := by
      unfold eqGuard
      cases op <;> cases ox <;> cases oy <;> first | rfl | (simp [isConst] at hc; done)
    split at h
    · rename_i he; cases h
      refine ⟨_, ?_, .refl rfl⟩
      simp only [Sem.run_bind, hg, Result.andThen_ok, binOp, Op.equal, eqA_sound hE _ _ _ _ _ _ _ he hx hy Op.maxDepth (by decide) w]
      rfl
    · rename_i he; cases h
      refine ⟨_, ?_, .refl rfl⟩
      simp only [Sem.run_bind, hg, Result.andThen_ok, binOp, Op.equal, eqA_sound hE _ _ _ _ _ _ _ he hx hy Op.maxDepth (by decide) w]
      rfl
    · cases h
  · exact binop_sound hE h hx hy w
end Go.AE
