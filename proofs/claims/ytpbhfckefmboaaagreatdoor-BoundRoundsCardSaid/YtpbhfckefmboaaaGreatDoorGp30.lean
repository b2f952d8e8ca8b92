/- AEOps, AEOps2: in one text. -/
import Derived.Test.YtpbhfckefmboaaaGreatDoorGp28
import Derived.Test.YtpbhfckefmboaaaGreatDoorGp29
import Derived.Laws.Tables
import Derived.Laws.Build
import Derived.Laws.StructEq
import Derived.Laws.Strings
import Derived.Laws.Small
import Derived.Laws.Slices
import Derived.Laws.Pointers
import Derived.LaidEql
set_option linter.unusedVariables false
set_option linter.unusedSimpArgs false
set_option linter.unusedSectionVars false
namespace Go.AE
open Go.RowKit
variable {E : Env} {P : Program} {w0 : World} {σ : Sg} {m : Mem} {w : World}
def nextVal : Next → Option Value
  | .value v => some v
  | .skip => some und
  | _ => none
/-- what an outcome says of a computation of one operation -/
def OutOK (E : Env) (P : Program) (w0 : World) (σ : Sg) (m : Mem) (w : World) (s : Sem Next) : Out → Prop
  | .val v => ∃ nx v', s.run P w = .ok nx w ∧ nextVal nx = some v' ∧ VR σ v v'
  | .new o mk => ∃ v' ob x, s.run P w = .ok (.value v') (w.alloc ob) ∧ x.b = w.heap.size ∧ o.live = true ∧ OR E σ x o ob ∧ ∀ (σ' : Sg) id, σ' id = some x → VR σ' (mk.val id) v'
  | .eff v m' => ∃ nx v' w' σ', s.run P w = .ok nx w' ∧ nextVal nx = some v' ∧ VR σ' v v' ∧ MR E w0 σ' m' w' ∧ FG σ m w σ' m' w'
  | .enter (.fn f) args => ∃ args', s.run P w = .ok (.enter f args') w ∧ VRL σ args args'.toList
  | .enter (.yld i) args => ∃ args' x, σ i = some x ∧ s.run P w = (Instr.yield x.b args').run P w ∧ VRL σ args args'.toList
theorem out_val {s : Sem Next} {s0 : Sem Value} {v v' : Value} (hs : s = (do pure (.value (← s0)))) (hr : s0.run P w = .ok v' w) (h : VR σ v v') : OutOK E P w0 σ m w s (.val v) :=
  ⟨.value v', v', by rw [hs]; simp [hr], rfl, h⟩
theorem out_eff {s : Sem Next} {s0 : Sem Value} {v v' : Value} {w' : World} {σ' : Sg} {m' : Mem} (hs : s = (do pure (.value (← s0)))) (hr : s0.run P w = .ok v' w') (h : VR σ' v v') (hm : MR E w0 σ' m' w') (hf : FG σ m w σ' m' w') :
    OutOK E P w0 σ m w s (.eff v m') := ⟨.value v', v', w', σ', by rw [hs]; simp [hr], rfl, h, hm, hf⟩
theorem out_new {s : Sem Next} {s0 : Sem Value} {v' : Value} {o : AObj} {mk : Mk} {ob : Obj} {x : Inf} (hs : s = (do pure (.value (← s0)))) (hr : s0.run P w = .ok v' (w.alloc ob)) (hx : x.b = w.heap.size) (hl : o.live = true) (ho : OR E σ x o ob)
    (h : ∀ (σ' : Sg) id, σ' id = some x → VR σ' (mk.val id) v') : OutOK E P w0 σ m w s (.new o mk) := ⟨v', ob, x, by rw [hs]; simp [hr], hx, hl, ho, h⟩
/-! ### integers, strings, '==' -/
theorem kcode_inj {j k : IntKind} (h : sameKind j k = true) : j = k := by cases j <;> cases k <;> first | rfl | cases h
theorem kind_kcode (k : IntKind) : kind? (kcode k) = k := by cases k <;> rfl
theorem intBin_sound {op : BinOp} {k : IntKind} {a b : Int} {v : Value} (hs : isShift op = false) (h : intBin op k a b = some v) (t : TypeId) (w : World) : (binOp op t (.int k a) (.int k b)).run P w = .ok v w ∧ simple v = true := by
  cases op <;> simp only [intBin, Option.some.injEq] at h <;> first
    | (cases hs; done)
    | (cases h; done)
    | (subst h; exact ⟨by simp [binOp, Op.intArith, Op.intBits, Op.intCmp], rfl⟩)
    | (split at h
       · cases h
       · rename_i hb; cases h; exact ⟨by simp [binOp, Op.intDiv, hb], rfl⟩)
theorem shift_sound {op : BinOp} {k j : IntKind} {a b : Int} {v : Value} (h : shift op k a b = some v) (t : TypeId) (w : World) : (binOp op t (.int k a) (.int j b)).run P w = .ok v w ∧ simple v = true := by
  cases op <;> simp only [shift] at h <;> first
    | (cases h; done)
    | (split at h
       · cases h
       · rename_i hb; cases h; exact ⟨by simp [binOp, Op.shift, hb], rfl⟩)
theorem toList_bytes (s : ByteArray) : s.toList = s.data.toList := ByteArray.toList_eq s
theorem strOp_sound {op : BinOp} {a b : ByteArray} {v : Value} (h : strOp op a.data.toList b.data.toList = some v) (t : TypeId) (w : World) : (binOp op t (.string a) (.string b)).run P w = .ok v w ∧ simple v = true := by
  have e : ∀ {op}, binOp op t (.string a) (.string b) = Op.stringOp op a b := by intro op; cases op <;> rfl
  rw [e]
  cases op <;> simp only [strOp, Option.some.injEq] at h <;> first
    | (cases h; done)
    | (subst h; exact ⟨by simp [Op.stringOp, toList_bytes], rfl⟩)
    | skip
  split at h
  · rename_i hle
    have := Nat.le_of_ble_eq_true hle
    cases h
    refine ⟨?_, rfl⟩
    have hsz : ¬ ((a.size + b.size : Nat) : Int) > IntKind.i64.max := by
      have h1 : a.size = a.data.toList.length := by cases a; rfl
      have h2 : b.size = b.data.toList.length := by cases b; rfl
      rw [h1, h2, IntKind.max_i64]; omega
    have happ : a ++ b = ⟨(a.data.toList ++ b.data.toList).toArray⟩ := by
      apply ByteArray.ext
      rw [ByteArray.data_append]
      simp
    simp only [Op.stringOp, hsz, if_false, Sem.run_pure, happ]
  · cases h
theorem partA_sound (hE : EOK E P) {t : TypeId} {c c' : Array Value} {off : Nat} {v : Value} (h : partA E t c off = some v) (hc : VRL σ c.toList c'.toList) (w : World) : ∃ v', (part t c' off).run P w = .ok v' w ∧ VR σ v v' := by
  unfold partA at h
  split at h
  · rename_i ti hti
    obtain ⟨hu, i, z, hi, hsz, _⟩ := hE.types t ti hti
    split at h
    · rename_i hag
      cases h
      refine ⟨.agg (c'.extract off (off + ti.size)), by simp [part, isAgg_run hu, hag, sizeOf_run hi, hsz], .agg_of ?_⟩
      have hlen := hc.1
      refine VRL.of_getElem? (by simp at hlen ⊢; omega) (fun i v v' hv hv' => ?_)
      simp only [Array.toList_extract, List.extract_eq_take_drop, List.getElem?_take, List.getElem?_drop] at hv hv'
      split at hv
      · rename_i hlt
        rw [if_pos hlt] at hv'
        obtain ⟨u, hu1, hu2⟩ := hc.getElem? hv
        rw [hv'] at hu1; cases hu1
        exact hu2
      · cases hv
    · rename_i hag
      have hv : c.toList[off]? = some v := by simpa using h
      obtain ⟨u, hu1, hu2⟩ := hc.getElem? hv
      have hu3 : c'[off]? = some u := by simpa using hu1
      exact ⟨u, by simp [part, isAgg_run hu, hag, hu3], hu2⟩
  · cases h
theorem VR.agg_inv {c : Array Value} {v : Value} (h : VR σ (.agg c) v) : ∃ c', v = .agg c' ∧ VRL σ c.toList c'.toList := by
  cases h with
  | refl h => simp [AE.simple] at h
  | agg hc hc' => exact ⟨_, rfl, VR.arr hc hc'⟩
theorem VR.tuple_inv {c : Array Value} {v : Value} (h : VR σ (.tuple c) v) : ∃ c', v = .tuple c' ∧ VRL σ c.toList c'.toList := by
  cases h with
  | refl h => simp [AE.simple] at h
  | tuple hc hc' => exact ⟨_, rfl, VR.arr hc hc'⟩
theorem VR.iface_inv {t : TypeId} {u v : Value} (h : VR σ (.iface t u) v) : ∃ u', v = .iface t u' ∧ VR σ u u' := by
  cases h with
  | refl h => simp [AE.simple] at h
  | iface h => exact ⟨_, rfl, h⟩
theorem VR.simple_inv {u v : Value} (hs : AE.simple u = true) (h : VR σ u v) : v = u := by
  cases h <;> first | rfl | (simp [AE.simple, bad, AE.topB, AE.topI, AE.topS, AE.topStr, AE.topE, AE.yld] at hs; done)
theorem VR.yld_inv {i : Nat} {v : Value} (h : VR σ (.complex .f32 7 i) v) : ∃ x, σ i = some x ∧ v = .func (.yield x.b) #[] #[] := by
  cases h with
  | refl h => simp [AE.simple] at h
  | yld h => exact ⟨_, h, rfl⟩
theorem VR.func_inv {fn : Fn} {f c : Array Value} {v : Value} (h : VR σ (.func fn f c) v) : ∃ f' c', v = .func fn f' c' ∧ VRL σ f.toList f'.toList ∧ VRL σ c.toList c'.toList := by
  cases h with
  | refl h => simp [AE.simple] at h
  | func hf hf' hc hc' => exact ⟨_, _, rfl, VR.arr hf hf', VR.arr hc hc'⟩
theorem eqA_sound (hE : EOK E P) : ∀ (d : Nat) (t : TypeId) (x y x' y' : Value) (b : Bool), eqA E d t x y = some b → VR σ x x' → VR σ y y' → ∀ (k : Nat), d ≤ k → ∀ w : World, (Op.equalIn k t x' y').run P w = .ok b w := by
  intro d
  induction d with
  | zero => intro t x y x' y' b h; cases h
  | succ d ih =>
    intro t x y x' y' b h hx hy k hk w
    obtain ⟨k, rfl⟩ : ∃ j, k = j + 1 := ⟨k - 1, by omega⟩
    simp only [eqA] at h
    split at h
    · cases h
    · rename_i ti hti
      obtain ⟨hu, _⟩ := hE.types t ti hti
      split at h
      · rename_i hd; cases h
        obtain rfl := hx.simple_inv rfl; obtain rfl := hy.simple_inv rfl
        simp [Op.equalIn, run_underlying hu, hd]
      · rename_i hd
        split at h
        · rename_i hk2; cases h
          obtain rfl := hx.simple_inv rfl; obtain rfl := hy.simple_inv rfl
          obtain rfl := kcode_inj hk2
          simp [Op.equalIn, run_underlying hu, hd]
        · cases h
      · rename_i hd; cases h
        obtain rfl := hx.simple_inv rfl; obtain rfl := hy.simple_inv rfl
        simp [Op.equalIn, run_underlying hu, hd, beq_toListBytes, toList_bytes]
      · rename_i hd; cases h
        obtain rfl := hx.simple_inv rfl
        cases hy <;> first | (simp [Op.equalIn, run_underlying hu, hd]; done) | skip
        all_goals simp [Op.equalIn, run_underlying hu, hd]
      · rename_i hd; cases h
        obtain rfl := hy.simple_inv rfl
        cases hx with
        | refl hs => simp [AE.simple] at hs
        | slice _ _ _ => simp [Op.equalIn, run_underlying hu, hd]
      · rename_i hd; cases h
        obtain rfl := hx.simple_inv rfl
        cases hy <;> simp [Op.equalIn, run_underlying hu, hd]
      · rename_i hd; cases h
        obtain rfl := hy.simple_inv rfl
        cases hx with
        | refl hs => simp [AE.simple] at hs
        | map _ => simp [Op.equalIn, run_underlying hu, hd]
      · rename_i hd; cases h
        obtain rfl := hx.simple_inv rfl; obtain rfl := hy.simple_inv rfl
        simp [Op.equalIn, run_underlying hu, hd]
      · rename_i hd; cases h
        obtain rfl := hx.simple_inv rfl
        obtain ⟨_, _, rfl, _, _⟩ := hy.func_inv
        simp [Op.equalIn, run_underlying hu, hd]
      · rename_i hd; cases h
        obtain rfl := hy.simple_inv rfl
        obtain ⟨_, _, rfl, _, _⟩ := hx.func_inv
        simp [Op.equalIn, run_underlying hu, hd]
      · rename_i hd; cases h
        obtain rfl := hx.simple_inv rfl
        cases hy <;> simp [Op.equalIn, run_underlying hu, hd]
      · rename_i hd; cases h
        obtain rfl := hy.simple_inv rfl
        cases hx with
        | refl hs => simp [AE.simple] at hs
        | ptr _ => simp [Op.equalIn, run_underlying hu, hd]
      · rename_i hd; cases h
        obtain rfl := hx.simple_inv rfl
        obtain ⟨_, rfl, _⟩ := hy.iface_inv
        simp [Op.equalIn, run_underlying hu, hd]
      · rename_i hd; cases h
        obtain rfl := hy.simple_inv rfl
        obtain ⟨_, rfl, _⟩ := hx.iface_inv
        simp [Op.equalIn, run_underlying hu, hd]
      · rename_i hd; cases h
        obtain rfl := hx.simple_inv rfl; obtain rfl := hy.simple_inv rfl
        simp [Op.equalIn, run_underlying hu, hd]
      · rename_i fs xs ys hd
        split at h
        · cases h
        · rename_i hst
          obtain ⟨xs', rfl, hxs⟩ := hx.agg_inv
          obtain ⟨ys', rfl, hys⟩ := hy.agg_inv
          rw [hE.prog] at hst
          have hfs : P.fieldsOf t = fs := by simp [Program.fieldsOf, hu, hd]
          rw [run_equalIn_struct w k t xs' ys' (by rw [hfs, hu, hd]) hst, hfs]
          generalize fs.toList = l at h
          clear hfs hd
          induction l with
          | nil => cases h; rfl
          | cons f l ihl =>
            simp only [List.foldr_cons] at h
            simp only [Op.eqFields]
            split at h
            · rename_i hn
              rw [if_neg (by simpa using hn)]
              exact ihl h
            · rename_i hn
              rw [if_pos (by simpa using hn)]
              split at h
              · rename_i a b' ha hb
                obtain ⟨a', ha1, ha2⟩ := partA_sound hE ha hxs w
                obtain ⟨b'', hb1, hb2⟩ := partA_sound hE hb hys w
                simp only [Sem.run_bind, ha1, hb1, Result.andThen_ok]
                split at h
                · rename_i he
                  rw [ih _ _ _ _ _ _ he ha2 hb2 k (by omega) w]
                  simpa using ihl h
                · rename_i he
                  rw [ih _ _ _ _ _ _ he ha2 hb2 k (by omega) w]
                  cases h
                  simp
                · cases h
              · cases h
      · cases h
end Go.AE
namespace Go.AE
open Go.RowKit
variable {E : Env} {P : Program} {w0 : World} {σ : Sg} {m : Mem} {w : World}
theorem ofO_mem {o : Option Out} {p : Out → Prop} (hne : ofO o ≠ []) (h : ∀ x, o = some x → p x) : ∃ x ∈ ofO o, p x := by
  cases o with
  | none => exact absurd rfl hne
  | some x => exact ⟨x, by simp [ofO], h x rfl⟩
theorem valO_mem {o : Option Value} {p : Out → Prop} (hne : valO o ≠ []) (h : ∀ x, o = some x → p (.val x)) : ∃ x ∈ valO o, p x := by
  cases o with
  | none => exact absurd rfl hne
  | some x => exact ⟨.val x, by simp [valO], h x rfl⟩
theorem eqGuard_of {op : BinOp} {t : TypeId} {x y : Operand} {a b : Value} (h : ¬ (a = .nilIface ∧ b = .nilIface)) (h2 : ∀ c d, ¬ (a = .agg c ∧ b = .agg d)) : eqGuard op t x y a b = pure () := by
  cases op <;> first
    | rfl
    | (cases a <;> first
        | rfl
        | (cases b <;> first | rfl | exact absurd ⟨rfl, rfl⟩ h | exact absurd ⟨rfl, rfl⟩ (h2 _ _)))
theorem eqGuard_agg {op : BinOp} {t : TypeId} {x y : Operand} {c d : Array Value} (h : P.eqGuardType P.depth t = false) (w : World) : (eqGuard op t x y (.agg c) (.agg d)).run P w = .ok () w := by
  unfold eqGuard
  cases op <;> simp [h]
theorem top_inv {v v' : Value} (h : VR σ v v') (ht : isTop v = false) : (∀ s, v' = .string s → v = .string s) ∧ (∀ k n, v' = .int k n → v = .int k n) ∧ (v' = .nilIface → v = .nilIface) ∧ (∀ c, v' = .agg c → ∃ d, v = .agg d) ∧ (∀ k n, v' ≠ .float k n) ∧ (∀ k a b, v' ≠ .complex k a b) := by
  cases h <;> first
    | (simp [isTop, bad, AE.topB, AE.topI, AE.topS, AE.topStr, AE.topE] at ht; done)
    | (refine ⟨fun s e => ?_, fun k n e => ?_, fun e => ?_, fun c e => ?_, fun k n e => ?_, fun k a b e => ?_⟩ <;> first | (cases e; done) | exact e | exact ⟨_, rfl⟩ | exact ⟨_, e⟩ | (subst e; rename_i hs; simp [AE.simple] at hs))
theorem cmp_run {op : BinOp} (h : cmp? op = true) (k : IntKind) (a b : Int) (t : TypeId) (w : World) : ∃ r, (binOp op t (.int k a) (.int k b)).run P w = .ok (.bool r) w := by
  cases op <;> first
    | (cases h; done)
    | exact ⟨_, by rw [binOp_eql]; rfl⟩ | exact ⟨_, by rw [binOp_neq]; rfl⟩ | exact ⟨_, by rw [binOp_lss]; rfl⟩ | exact ⟨_, by rw [binOp_leq]; rfl⟩ | exact ⟨_, by rw [binOp_gtr]; rfl⟩ | exact ⟨_, by rw [binOp_geq]; rfl⟩
theorem binop_sound (hE : EOK E P) {op : BinOp} {t : TypeId} {ox oy : Operand} {x y x' y' v : Value} (h : binop E op t x y = some v) (hx : VR σ x x') (hy : VR σ y y') (w : World) :
    ∃ v', (do eqGuard op t ox oy x' y'; binOp op t x' y').run P w = .ok v' w ∧ VR σ v v' := by
  unfold binop at h
  split at h
  · rename_i k a j b
    obtain rfl := hx.simple_inv rfl; obtain rfl := hy.simple_inv rfl
    split at h
    · obtain ⟨h1, h2⟩ := shift_sound (P := P) (j := j) h t w
      exact ⟨v, by simp [eqGuard_at_int, h1], .refl h2⟩
    · rename_i hs
      split at h
      · rename_i hk
        obtain rfl := kcode_inj hk
        obtain ⟨h1, h2⟩ := intBin_sound (P := P) hs h t w
        exact ⟨v, by simp [eqGuard_at_int, h1], .refl h2⟩
      · cases h
  · rename_i k j n
    split at h
    · rename_i hk hc
      cases h
      obtain rfl := hy.simple_inv rfl
      have hk' := kcode_inj hk
      cases hx with
      | refl hs => simp [AE.simple] at hs
      | topI k' n' =>
        rw [kind_kcode] at hk'; subst hk'
        obtain ⟨b, hb⟩ := cmp_run (P := P) hc k' n' n t w
        exact ⟨.bool b, by simp [eqGuard_at_int, hb], .topB b⟩
    · cases h
  · rename_i _ j n _
    split at h
    · rename_i hk hc
      cases h
      obtain rfl := hx.simple_inv rfl
      have hk' := kcode_inj hk
      cases hy with
      | refl hs => simp [AE.simple] at hs
      | topI k' n' =>
        rw [kind_kcode] at hk'; subst hk'
        obtain ⟨b, hb⟩ := cmp_run (P := P) hc j n n' t w
        exact ⟨.bool b, by simp [eqGuard_at_int, hb], .topB b⟩
    · cases h
  · obtain rfl := hx.simple_inv rfl; obtain rfl := hy.simple_inv rfl
    obtain ⟨h1, h2⟩ := strOp_sound (P := P) h t w
    exact ⟨v, by simp [eqGuard_at_string, h1], .refl h2⟩
  · rename_i xs ys
    split at h
    · cases h
    · rename_i hg
      rw [hE.prog] at hg
      obtain ⟨xs', rfl, _⟩ := hx.agg_inv
      obtain ⟨ys', rfl, _⟩ := hy.agg_inv
      split at h
      · rename_i he; cases h
        refine ⟨_, ?_, .refl rfl⟩
        simp only [Sem.run_bind, eqGuard_agg hg w, Result.andThen_ok, binOp, Op.equal, eqA_sound hE _ _ _ _ _ _ _ he hx hy Op.maxDepth (by decide) w]
        rfl
      · rename_i he; cases h
        refine ⟨_, ?_, .refl rfl⟩
        simp only [Sem.run_bind, eqGuard_agg hg w, Result.andThen_ok, binOp, Op.equal, eqA_sound hE _ _ _ _ _ _ _ he hx hy Op.maxDepth (by decide) w]
        rfl
      · cases h
  · cases h
  · rename_i hn1 hn2 hn3 hn4 hn5 hn6
    split at h
    · rename_i htx hty
      obtain ⟨s1, i1, n1, a1, f1, c1⟩ := top_inv hx htx
      obtain ⟨s2, i2, n2, a2, f2, c2⟩ := top_inv hy hty
      have hg : eqGuard op t ox oy x' y' = pure () := eqGuard_of (fun ⟨p, q⟩ => hn6 (n1 p) (n2 q)) (fun c d ⟨p, q⟩ => by
        obtain ⟨c', hc⟩ := a1 c p; obtain ⟨d', hd⟩ := a2 d q; exact hn5 c' d' hc hd)
      rw [hg]
      have hb : ∀ {op}, (op = .eql ∨ op = .neq) → binOp op t x' y' = (if op = .eql then (do pure (.bool (← Op.equal t x' y'))) else (do pure (.bool (!(← Op.equal t x' y'))))) := by
        intro op hop
        rcases hop with rfl | rfl <;> cases x' <;> first
          | rfl
          | (exact absurd rfl (f1 _ _)) | (exact absurd rfl (c1 _ _ _))
          | (cases y' <;> first
              | rfl
              | (exact absurd rfl (f2 _ _)) | (exact absurd rfl (c2 _ _ _))
              | (exact (hn1 _ _ _ _ (i1 _ _ rfl) (i2 _ _ rfl)).elim)
              | (exact (hn4 _ _ (s1 _ rfl) (s2 _ rfl)).elim))
      split at h
      · rename_i he; cases h
        refine ⟨_, ?_, .refl rfl⟩
        rw [hb (.inl rfl)]
        simp only [if_true, Sem.run_bind, Sem.run_pure, Result.andThen_ok, Op.equal, eqA_sound hE _ _ _ _ _ _ _ he hx hy Op.maxDepth (by decide) w]
      · rename_i he; cases h
        refine ⟨_, ?_, .refl rfl⟩
        rw [hb (.inr rfl)]
        simp only [reduceCtorEq, if_false, Sem.run_bind, Sem.run_pure, Result.andThen_ok, Op.equal, eqA_sound hE _ _ _ _ _ _ _ he hx hy Op.maxDepth (by decide) w]
      · cases h
    · cases h
theorem binopC_sound (hE : EOK E P) {op : BinOp} {t : TypeId} {ox oy : Operand} {x y x' y' v : Value} (h : binopC E op t (isConst ox || isConst oy) x y = some v) (hx : VR σ x x') (hy : VR σ y y') (w : World) :
    ∃ v', (do eqGuard op t ox oy x' y'; binOp op t x' y').run P w = .ok v' w ∧ VR σ v v' := by
  unfold binopC at h
  split at h
  · rename_i hc
    obtain rfl := hx.simple_inv rfl; obtain rfl := hy.simple_inv rfl
    have hg : (eqGuard op t ox oy .nilIface .nilIface).run P w = .ok () w := by
      unfold eqGuard
      cases op <;> cases ox <;> cases oy <;> first | rfl | (simp [isConst] at hc; done)
    split at h
    · rename_i he; cases h
      refine ⟨_, ?_, .refl rfl⟩
      simp only [Sem.run_bind, hg, Result.andThen_ok, binOp, Op.equal, eqA_sound hE _ _ _ _ _ _ _ he hx hy Op.maxDepth (by decide) w]
      rfl
    · rename_i he; cases h
      refine ⟨_, ?_, .refl rfl⟩
      simp only [Sem.run_bind, hg, Result.andThen_ok, binOp, Op.equal, eqA_sound hE _ _ _ _ _ _ _ he hx hy Op.maxDepth (by decide) w]
      rfl
    · cases h
  · exact binop_sound hE h hx hy w
end Go.AE
