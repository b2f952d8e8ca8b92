/- All operations together. -/
import Derived.Test.YtkbbpjknakajeaaAEExt
import Derived.Laws.Strings2
namespace Go.AE
open Go.RowKit
variable {E : Env} {P : Program} {w0 : World} {σ : Sg} {m : Mem} {w : World}
theorem OutOK.congr {s s' : Sem Next} {out : Out} (he : s'.run P w = s.run P w) (h : OutOK E P w0 σ m w s out) : OutOK E P w0 σ m w s' out := by
  cases out with
  | val v => obtain ⟨nx, v', h1, h2, h3⟩ := h; exact ⟨nx, v', he.trans h1, h2, h3⟩
  | new o mk => obtain ⟨v', ob, x, h1, h2⟩ := h; exact ⟨v', ob, x, he.trans h1, h2⟩
  | eff v m' => obtain ⟨nx, v', w', σ', h1, h2⟩ := h; exact ⟨nx, v', w', σ', he.trans h1, h2⟩
  | enter f args => obtain ⟨args', h1, h2⟩ := h; exact ⟨args', he.trans h1, h2⟩
theorem ofO_cong {o : Option Out} {s s' : Sem Next} (hne : ofO o ≠ []) (he : s'.run P w = s.run P w) (h : ∀ x, o = some x → OutOK E P w0 σ m w s x) : ∃ x ∈ ofO o, OutOK E P w0 σ m w s' x :=
  ofO_mem hne (fun x hx => (h x hx).congr he)
theorem arr2 {α : Type} {a : Array α} {x y : α} (h : a.toList = [x, y]) : a = #[x, y] := Array.ext' (by simpa using h)
theorem arr1 {α : Type} {a : Array α} {x : α} (h : a.toList = [x]) : a = #[x] := Array.ext' (by simpa using h)
theorem map1 (ρ : Operand → Value) (x : Operand) : (#[x].map ρ) = #[ρ x] := by simp
theorem map2 (ρ : Operand → Value) (x y : Operand) : (#[x, y].map ρ) = #[ρ x, ρ y] := by simp
theorem VRL.map {ρ ρ' : Operand → Value} (hρ : ∀ x, VR σ (ρ x) (ρ' x)) (l : List Operand) : VRL σ (l.map ρ) (l.map ρ') := by
  induction l with
  | nil => exact VRL.nil σ
  | cons x l ih => exact VRL.cons (hρ x) ih
theorem VRP.map {ρ ρ' : Operand → Value} (hρ : ∀ x, VR σ (ρ x) (ρ' x)) (l : Array (Nat × Operand)) : VRP σ (l.toList.map fun p => (p.1, ρ p.2)) (l.map fun p => (p.1, ρ' p.2)).toList := by
  rw [Array.toList_map]
  refine ⟨by simp, fun i a b ha hb => ?_⟩
  rw [List.getElem?_map] at ha hb
  cases h : l.toList[i]? with
  | none => rw [h] at ha; cases ha
  | some p => rw [h] at ha hb; cases ha; cases hb; exact ⟨rfl, hρ _⟩
theorem VRO.map {ρ ρ' : Operand → Value} (hρ : ∀ x, VR σ (ρ x) (ρ' x)) (x : Option Operand) : VRO σ (x.map ρ) (x.map ρ') := by
  cases x with
  | none => exact .inl ⟨rfl, rfl⟩
  | some x => exact .inr ⟨_, _, rfl, rfl, hρ x⟩
theorem map_isNone (x y : Option Operand) (ρ : Operand → Value) : ((x.map ρ).isNone && (y.map ρ).isSome) = (x.isNone && y.isSome) := by cases x <;> cases y <;> rfl
theorem sliceA_sound (hE : EOK E P) (h : MR E w0 σ m w) {t : TypeId} {x x' : Value} {lo hi mx lo' hi' mx' : Option Value} (hne : sliceA E t x lo hi mx m ≠ []) (hx : VR σ x x') (hlo : VRO σ lo lo') (hhi : VRO σ hi hi') (hmx : VRO σ mx mx') :
    ∃ out ∈ sliceA E t x lo hi mx m, OutOK E P w0 σ m w (do pure (.value (← Instr.sliceAt t x' lo' hi' mx'))) out := by
  generalize hL : sliceA E t x lo hi mx m = L at hne ⊢
  unfold sliceA at hL
  split at hL
  · rename_i ti hti hmh
    obtain ⟨hu, _⟩ := hE.types t ti hti
    have hmh' : hi' = none → mx' = none := by
      intro he
      rcases hhi with ⟨h1, _⟩ | ⟨_, _, _, h2, _⟩
      · rcases hmx with ⟨_, h3⟩ | ⟨_, _, h3, _⟩
        · exact h3
        · subst h1 h3; cases hmh
      · rw [he] at h2; cases h2
    split at hL
    · rename_i e hd
      split at hL
      · rename_i te hte
        subst hL
        exact sliceS_sound hE h (by rw [hu, hd]) hte hne hx hlo hhi hmx hmh
      · exact absurd hL.symm hne
    · rename_i hd
      split at hL
      · rename_i s
        obtain rfl := hx.simple_inv rfl
        have hmx' : mx' = none := by
          rcases hmx with ⟨_, h⟩ | ⟨_, _, h, _⟩
          · exact h
          · cases h
        have hss : s.size = s.data.toList.length := by cases s; rfl
        split at hL
        · rename_i hh hbh
          split at hL
          · rename_i l hbl
            subst hL
            refine ⟨_, List.mem_singleton.2 rfl, ?_⟩
            have h2 := bound_sound hbh hhi
            have h3 := bound_sound hbl hlo
            have hb := run_bounds (P := P) (isS := false) (len := s.size) (cap := s.size) (mx := none) (hi := hi') (lo := lo') (m := s.size) (h := hh) (l := l) (.inl ⟨rfl, rfl⟩) (h2.imp (fun ⟨_, a, b⟩ => ⟨a, by omega⟩) (fun ⟨k, a, b⟩ => ⟨k, a, by omega⟩)) (fun _ => rfl) (h3.imp (fun ⟨_, a, b⟩ => ⟨a, b⟩) id) w
            refine out_val rfl (v' := .string (s.extract l hh)) ?_ ?_
            · subst hmx'
              simp [Instr.sliceAt, Instr.slice, run_underlying hu, hd, hb]
            · have : s.extract l hh = ⟨((s.data.toList.drop l).take (hh - l)).toArray⟩ := by
                have h9 := Go.ByteArray.extract_mk s.data.toList l hh
                simpa using h9
              rw [this]
              exact .refl rfl
          · exact absurd hL.symm hne
        · exact absurd hL.symm hne
      · exact absurd hL.symm hne
    · rename_i n e hd
      split at hL
      · rename_i a te hte hn
        have hn' := Nat.le_of_ble_eq_true hn
        obtain ⟨_, i, z, hi0, hsz, _⟩ := hE.types e te hte
        split at hL
        · rename_i mm hbm
          split at hL
          · rename_i hh hbh
            split at hL
            · rename_i l hbl
              subst hL
              refine ⟨_, List.mem_singleton.2 rfl, ?_⟩
              have h1 := bound_sound hbm hmx
              have h2 := bound_sound hbh hhi
              have h3 := bound_sound hbl hlo
              have hmn : mm ≤ n := by rcases h1 with ⟨_, _, h⟩ | ⟨_, _, h⟩ <;> omega
              have hb := run_bounds (P := P) (isS := false) (len := n) (cap := n) (h1.imp (fun ⟨_, a, b⟩ => ⟨a, b⟩) id) (h2.imp (fun ⟨_, a, b⟩ => ⟨a, b⟩) id) hmh' (h3.imp (fun ⟨_, a, b⟩ => ⟨a, b⟩) id) w
              cases hx with
              | refl h0 => simp [AE.simple] at h0
              | ptr hy =>
                rename_i j o y
                have hrun : (Instr.sliceAt t (.pointer (some ⟨y.b, y.sh + o, none⟩)) lo' hi' mx').run P w = .ok (.slice (some (if mm = l then ⟨y.b, y.sh + o, none⟩ else (⟨y.b, y.sh + o, none⟩ : Addr).add (l * i.size))) (hh - l) (mm - l)) w := by
                  simp [Instr.sliceAt, run_underlying hu, hd, Instr.sureAddr, hb, sizeOf_run hi0]
                refine out_val rfl hrun ?_
                by_cases e1 : mm = l
                · subst e1
                  simp only [if_true, Nat.beq_refl, cond]
                  exact .slice hy (fun _ => rfl) (fun ho => absurd ho (by unfold OPEN; omega))
                · have : Nat.beq mm l = false := by
                    cases hb2 : Nat.beq mm l with
                    | false => rfl
                    | true => exact absurd (Nat.eq_of_beq_eq_true hb2) e1
                  simp only [e1, if_false, this, cond, addr_add, hsz, Nat.add_assoc]
                  exact .slice hy (fun _ => rfl) (fun ho => absurd ho (by unfold OPEN; omega))
            · exact absurd hL.symm hne
          · exact absurd hL.symm hne
        · exact absurd hL.symm hne
      · exact absurd hL.symm hne
    · exact absurd hL.symm hne
  · exact absurd hL.symm hne
theorem methodA_sound (hE : EOK E P) {t : TypeId} {name : String} {g : FuncId} {v v' u : Value} (h : methodA E t name v = some (g, u)) (hv : VR σ v v') (n : Nat) (w : World) :
    ∃ u', (method (n + 1) t v' name).run P w = .ok (g, u') w ∧ VR σ u u' := by
  unfold methodA at h
  split at h
  · rename_i i ti hi hti
    rw [hE.prog] at hi
    obtain ⟨hu, _⟩ := hE.types t ti hti
    split at h
    · rename_i mt hm
      have hm' : i.methods.find? (fun m => m.name == name) = some mt := by simpa using hm
      split at h
      · rename_i f ptr hp hf
        have hp' : mt.path = #[] := Array.ext' hp
        split at h
        · rename_i e hd
          cases h
          rw [hd] at hu
          exact ⟨v', by simp [method, typeInfo, hi, hm', hp', follow, hf, receiverAt, run_underlying hu, Place.get], hv⟩
        · cases h
        · rename_i hd
          cases h
          refine ⟨v', ?_, hv⟩
          generalize ti.desc = d at hu hd
          cases d <;> first | exact absurd rfl (hd _) | simp [method, typeInfo, hi, hm', hp', follow, hf, receiverAt, run_underlying hu, Place.get]
        · cases h
      · rename_i st f hp hf
        have hp' : mt.path = #[st] := Array.ext' hp
        split at h
        · rename_i ts a hdf hts
          obtain ⟨hus, _⟩ := hE.types _ _ hts
          split at h
          · rename_i fs hd
            split at h
            · rename_i fd hfd
              split at h
              · rename_i tf htf
                obtain ⟨huf, j, z, hj, hsz, _⟩ := hE.types _ _ htf
                split at h
                · rename_i hne hnp
                  cases h
                  cases hv with
                  | refl hs => simp [AE.simple] at hs
                  | ptr hσ =>
                    refine ⟨_, ?_, .ptr hσ⟩
                    have hn : ¬ j.size = 0 := by rw [hsz]; exact Nat.ne_of_beq_eq_false hne
                    rw [hd] at hus
                    generalize tf.desc = dd at huf hnp
                    cases dd <;> first | (cases hnp; done) | simp [method, typeInfo, hi, hm', hp', follow, hf, receiverAt, run_underlying hus, run_underlying huf, Place.get, hfd, hdf, asAddr, fieldPlace, sizeOf_run hj, hn, addr_add, Nat.add_assoc]
                · cases h
              · cases h
            · cases h
          · cases h
        · cases h
      · cases h
    · cases h
  · cases h
theorem callA_sound (hE : EOK E P) (h : MR E w0 σ m w) {ρ ρ' : Operand → Value} (hρ : ∀ x, VR σ (ρ x) (ρ' x)) (c : Call) (ty : TypeId) (hne : callA E ρ c m ≠ []) :
    ∃ out ∈ callA E ρ c m, OutOK E P w0 σ m w (do let d ← resolve ρ' c ty; invoke d.target d.args) out := by
  generalize hL : callA E ρ c m = L at hne ⊢
  unfold callA at hL
  have hbi : ∀ {b : Builtin} {s : Sem Value}, c.callee = .builtin b → (∀ cs, builtin b c.argTypes ty cs (c.args.map ρ') = (do pure (.value (← s)))) →
      (do let d ← resolve ρ' c ty; invoke d.target d.args : Sem Next).run P w = (do pure (.value (← s)) : Sem Next).run P w := by
    intro b s hc hs
    simp only [resolve, hc, Sem.run_bind, Sem.run_pure, Result.andThen_ok, invoke]
    rw [hs]
    simp
  split at hL
  · rename_i hc
    split at hL
    · rename_i t x ht hx
      subst hL
      have ha := arr1 hx
      refine valO_mem hne (fun v hv => ?_)
      obtain ⟨v', h1, h2⟩ := len_sound (ty := ty) hE h hv (hρ x)
      refine (out_val rfl h1 h2).congr (hbi hc (fun cs => ?_))
      rw [ha, arr1 ht, map1]; rfl
    · exact absurd hL.symm hne
  · rename_i hc
    split at hL
    · rename_i t u s x ht hx
      split at hL
      · rename_i hb
        obtain rfl := Nat.eq_of_beq_eq_true hb
        subst hL
        refine ofO_mem hne (fun o ho => ?_)
        refine (append_sound (ty := ty) hE h ho (hρ s) (hρ x)).congr (hbi hc (fun cs => ?_))
        rw [arr2 hx, arr2 ht, map2]; rfl
      · exact absurd hL.symm hne
    · exact absurd hL.symm hne
  · rename_i hc
    split at hL
    · rename_i t u s x ht hx
      subst hL
      refine ofO_mem hne (fun o ho => ?_)
      refine (copy_sound (u := u) (ty := ty) hE h ho (hρ s) (hρ x)).congr (hbi hc (fun cs => ?_))
      rw [arr2 hx, arr2 ht, map2]; rfl
    · exact absurd hL.symm hne
  · rename_i hc
    split at hL
    · rename_i t ts x k ht hx
      split at hL
      · rename_i m' hd
        subst hL
        have hts : c.argTypes[0]? = some t := by
          have : c.argTypes.toList[0]? = some t := by rw [ht]; rfl
          simpa using this
        obtain ⟨w', h1, h2, h3⟩ := delete_sound (ty := ty) hE h hts hd (hρ x) (hρ k)
        refine ⟨_, List.mem_singleton.2 rfl, (out_eff (σ' := σ) rfl h1 (VR.undef σ) h2 h3).congr (hbi hc (fun cs => ?_))⟩
        rw [arr2 hx, map2]; rfl
      · exact absurd hL.symm hne
    · exact absurd hL.symm hne
  · rename_i hc
    split at hL
    · rename_i x y hx
      subst hL
      refine valO_mem hne (fun v hv => ?_)
      obtain ⟨h1, h2⟩ := minmax_sound (P := P) (ts := c.argTypes) (ty := ty) hv (hρ x) (hρ y) w
      refine (out_val rfl h1 (.refl h2)).congr (hbi hc (fun cs => ?_))
      rw [arr2 hx, map2]; rfl
    · exact absurd hL.symm hne
  · rename_i hc
    split at hL
    · rename_i x y hx
      subst hL
      refine valO_mem hne (fun v hv => ?_)
      obtain ⟨h1, h2⟩ := minmax_sound (P := P) (ts := c.argTypes) (ty := ty) hv (hρ x) (hρ y) w
      refine (out_val rfl h1 (.refl h2)).congr (hbi hc (fun cs => ?_))
      rw [arr2 hx, map2]; rfl
    · exact absurd hL.symm hne
  · rename_i f hc
    split at hL
    · rename_i g first cap hf
      split at hL
      · rename_i fn hfn
        subst hL
        refine ⟨_, List.mem_singleton.2 rfl, ?_⟩
        obtain ⟨hP, hname, body, hbody⟩ := hE.funcs g fn hfn
        have hv := hρ f
        rw [hf] at hv
        obtain ⟨first', cap', hv', hfst, hcap⟩ := hv.func_inv
        refine ⟨first' ++ c.args.map ρ' ++ cap', ?_, ?_⟩
        · have hb : ¬ fn.body = none := by rw [hbody]; simp
          have hnm : ¬ fn.name = "runtime.NumGoroutine" := by simpa using hname
          simp [resolve, hc, hv', Deferred.ofValue, invoke, callFunc, hP, hnm, hb]
        · simp only [Array.toList_append, Array.toList_map]
          exact (hfst.append (VRL.map hρ _)).append hcap
      · rename_i hfn
        split at hL
        · rename_i x hx
          subst hL
          refine ofO_mem hne (fun out ho => ?_)
          obtain ⟨fn, hP, hname, hbody, hnx, hfind⟩ := hE.exts g x hx
          have hv := hρ f
          rw [hf] at hv
          obtain ⟨first', cap', hv', hfst, hcap⟩ := hv.func_inv
          refine (extA_sound (P := P) (args' := first' ++ c.args.map ρ' ++ cap') h ho ?_).congr ?_
          · simp only [Array.toList_append, Array.toList_map]
            exact (hfst.append (VRL.map hρ _)).append hcap
          · have hnm : ¬ fn.name = "runtime.NumGoroutine" := by simpa using hname
            simp [resolve, hc, hv', Deferred.ofValue, invoke, callFunc, hP, hnm, hbody, hnx, hfind]
        · exact absurd hL.symm hne
    · exact absurd hL.symm hne
  · rename_i r name hc
    split at hL
    · rename_i t v hr
      split at hL
      · rename_i g u hg
        split at hL
        · rename_i fn hfn
          subst hL
          refine ⟨_, List.mem_singleton.2 rfl, ?_⟩
          obtain ⟨hP, hname, body, hbody⟩ := hE.funcs g fn hfn
          have hv := hρ r
          rw [hr] at hv
          obtain ⟨v', hv', hvv⟩ := hv.iface_inv
          obtain ⟨u', hm, huu⟩ := methodA_sound (w := w) hE hg hvv (P.types.size + 99)
          refine ⟨#[u'] ++ c.args.map ρ', ?_, ?_⟩
          · have hb : ¬ fn.body = none := by rw [hbody]; simp
            have hnm : ¬ fn.name = "runtime.NumGoroutine" := by simpa using hname
            have hex : (#[Value.iface t v'] ++ c.args.map ρ').extract 1 (#[Value.iface t v'] ++ c.args.map ρ').size = c.args.map ρ' := by
              apply Array.ext'
              simp [List.extract]
              exact List.take_of_length_le (by simp)
            have hz : (#[Value.iface t v'] ++ c.args.map ρ')[0]? = some (.iface t v') := by rw [Array.getElem?_append_left (by simp)]; rfl
            have e1 : P.types.size + Made.depth = P.types.size + 99 + 1 := rfl
            have hr' : resolve ρ' c ty = pure { target := .fn (.method name) #[], args := #[ρ' r] ++ c.args.map ρ' } := by simp only [resolve, hc]
            have hi : invoke (.fn (.method name) #[]) (#[Value.iface t v'] ++ c.args.map ρ') = callMethod (.iface t v') name (c.args.map ρ') := by
              unfold invoke
              simp only [hz]
              rw [hex]
            rw [hr', hv']
            simp only [Sem.run_bind, Sem.run_pure, Result.andThen_ok]
            rw [hi]
            simp [callMethod, e1, hm, callFunc, hP, hnm, hb]
          · simp only [Array.toList_append, Array.toList_map]
            exact (VRL.cons huu (VRL.nil σ)).append (VRL.map hρ _)
        · exact absurd hL.symm hne
      · exact absurd hL.symm hne
    · exact absurd hL.symm hne
  · exact absurd hL.symm hne
theorem evOp_sound (hE : EOK E P) (h : MR E w0 σ m w) {ρ ρ' : Operand → Value} (hρ : ∀ x, VR σ (ρ x) (ρ' x)) (o : Oper) (hne : evOp E ρ o m ≠ []) : ∃ out ∈ evOp E ρ o m, OutOK E P w0 σ m w (execOp ρ' o) out := by
  generalize hL : evOp E ρ o m = L at hne ⊢
  unfold evOp at hL
  have one : ∀ {out : Out}, L = [out] → OutOK E P w0 σ m w (execOp ρ' o) out → ∃ out ∈ L, OutOK E P w0 σ m w (execOp ρ' o) out := fun h1 h2 => ⟨_, by rw [h1]; simp, h2⟩
  split at hL
  · rename_i x ho
    exact one hL.symm ⟨.value (ρ' x), ρ' x, by simp [execOp, ho], rfl, hρ x⟩
  · rename_i x ho
    exact one hL.symm ⟨.value (ρ' x), ρ' x, by simp [execOp, ho], rfl, hρ x⟩
  · rename_i c a b ho
    split at hL
    · rename_i t hc
      have hv := hρ c
      rw [hc] at hv
      have hc' := hv.simple_inv rfl
      refine one hL.symm ⟨.value (if t then ρ' a else ρ' b), _, by simp [execOp, ho, hc', asBool], rfl, ?_⟩
      cases t
      · exact hρ b
      · exact hρ a
    · rename_i hc
      have hv := hρ c
      rw [hc] at hv
      generalize hvc : ρ' c = vc at hv
      cases hv with
      | refl hs => simp [AE.simple] at hs
      | topB t =>
        cases t with
        | true => exact ⟨.val (ρ a), by rw [← hL]; simp, .value (ρ' a), _, by simp [execOp, ho, hvc, asBool], rfl, hρ a⟩
        | false => exact ⟨.val (ρ b), by rw [← hL]; simp, .value (ρ' b), _, by simp [execOp, ho, hvc, asBool], rfl, hρ b⟩
    · exact absurd hL.symm hne
  · rename_i t ho
    split at hL
    · rename_i ti hti
      obtain ⟨hu, i, z, hi, hsz, hby, hz, hzc, hzl, hzs, _⟩ := hE.types t ti hti
      have hor := OR.newRow (w := w) (e := t) hti (VRL.simple (σ := σ) hzs)
      have hza : ti.zero.toArray = z.cells := by rw [← hzc]
      rw [hza] at hor
      exact one hL.symm ⟨_, _, _, by simp [execOp, ho, Instr.alloc, zeroValue_run hi hz, newVar, Go.newRow], rfl, rfl, hor, fun σ' id hx => .ptr hx⟩
    · exact absurd hL.symm hne
  · rename_i t x ho
    split at hL
    · rename_i ti hti hb
      have hnb : ρ x ≠ bad := by intro e; rw [e] at hb; simp [isBad, bad] at hb
      have hor := OR.newRow (w := w) (e := t) hti ((hρ x).cells hnb)
      have hza : (ρ' x).cells.toList.toArray = (ρ' x).cells := by simp
      rw [hza] at hor
      exact one hL.symm ⟨_, _, _, by simp [execOp, ho, Instr.box, newVar, Go.newRow], rfl, rfl, hor, fun σ' id hx => .ptr hx⟩
    · exact absurd hL.symm hne
  · rename_i t parts ho
    subst hL
    refine valO_mem hne (fun v hv => ?_)
    obtain ⟨v', h1, h2⟩ := build_sound hE hv (VRP.map hρ parts) w
    exact (out_val rfl h1 h2).congr (by simp [execOp, ho])
  · rename_i t len parts ho
    subst hL
    refine ofO_mem hne (fun v hv => ?_)
    exact (buildSlice_sound hE hv (VRP.map hρ parts)).congr (by simp [execOp, ho])
  · rename_i t a ho
    split at hL
    · rename_i ad ha
      subst hL
      refine valO_mem hne (fun v hv => ?_)
      obtain ⟨v', h1, h2⟩ := loadAt_sound hE h hv (ha ▸ hρ a)
      exact (out_val rfl h1 h2).congr (by simp [execOp, ho])
    · exact absurd hL.symm hne
  · rename_i t a x ho
    split at hL
    · rename_i m' hs
      obtain ⟨w', h1, h2, h3⟩ := store_sound hE h hs (hρ a) (hρ x)
      exact one hL.symm ⟨.skip, und, w', σ, by simp [execOp, ho, h1], rfl, VR.undef σ, h2, h3⟩
    · exact absurd hL.symm hne
  · rename_i x ho
    have hv := hρ x
    split at hL
    · rename_i a hx
      rw [hx] at hv
      generalize hvc : ρ' x = vc at hv
      refine one hL.symm ⟨.value vc, vc, ?_, rfl, hv⟩
      cases hv with
      | refl hs => simp [AE.simple] at hs
      | ptr hy => simp [execOp, ho, hvc]
    · rename_i g a b hx
      rw [hx] at hv
      obtain ⟨a', b', hvc, _, _⟩ := hv.func_inv
      refine one hL.symm ⟨.value (ρ' x), ρ' x, ?_, rfl, hv⟩
      simp [execOp, ho, hvc]
    · rename_i t v hx
      rw [hx] at hv
      obtain ⟨v', hvc, _⟩ := hv.iface_inv
      refine one hL.symm ⟨.value (ρ' x), ρ' x, ?_, rfl, hv⟩
      simp [execOp, ho, hvc]
    · exact absurd hL.symm hne
  · rename_i op t x y yt ho
    subst hL
    refine valO_mem hne (fun v hv => ?_)
    obtain ⟨v', h1, h2⟩ := binopC_sound (P := P) (ox := x) (oy := y) hE hv (hρ x) (hρ y) w
    exact (out_val rfl h1 h2).congr (by simp [execOp, ho])
  · rename_i op t x ho
    have hv := hρ x
    split at hL
    · rename_i b hx
      rw [hx] at hv
      have hc' := hv.simple_inv rfl
      exact one hL.symm (out_val (s0 := Op.unary .not (ρ' x)) (by simp [execOp, ho]) (by rw [hc']; rfl) (.refl rfl))
    · rename_i hx
      rw [hx] at hv
      generalize hvc : ρ' x = vc at hv
      cases hv with
      | refl hs => simp [AE.simple] at hs
      | topB b => exact one hL.symm (out_val (s0 := Op.unary .not (ρ' x)) (by simp [execOp, ho]) (by rw [hvc]; rfl) (.topB _))
    · rename_i k n hx
      rw [hx] at hv
      have hc' := hv.simple_inv rfl
      exact one hL.symm (out_val (s0 := Op.unary .neg (ρ' x)) (by simp [execOp, ho]) (by rw [hc']; rfl) (.refl rfl))
    · rename_i k n hx
      rw [hx] at hv
      have hc' := hv.simple_inv rfl
      subst hL
      refine valO_mem hne (fun v hv => ?_)
      simp only [intBin, Option.some.injEq] at hv
      subst hv
      exact out_val (s0 := Op.unary .xor (ρ' x)) (by simp [execOp, ho]) (by rw [hc']; rfl) (.refl rfl)
    · exact absurd hL.symm hne
  · rename_i src dst x ho
    subst hL
    refine ofO_mem hne (fun v hv => ?_)
    exact (convert_sound hE h hv (hρ x)).congr (by simp [execOp, ho])
  · rename_i t x ho
    split at hL
    · rename_i ti hti
      obtain ⟨hu, _⟩ := hE.types t ti hti
      split at hL
      · rename_i hif
        refine one hL.symm (out_val (s0 := Instr.makeInterface t (ρ' x)) (by simp [execOp, ho]) (v' := .iface t (ρ' x)) ?_ (.iface (hρ x)))
        simp only [Instr.makeInterface, Sem.run_bind, run_underlying hu, Result.andThen_ok]
        cases hd : ti.desc <;> first | (rw [hd] at hif; cases hif; done) | rfl
      · exact absurd hL.symm hne
    · exact absurd hL.symm hne
  · rename_i fn first captured ho
    refine one hL.symm (out_val (s0 := Instr.makeFunc fn (first.map ρ') (captured.map ρ')) (by simp [execOp, ho]) rfl ?_)
    have h1 := VRL.map hρ first.toList
    have h2 := VRL.map hρ captured.toList
    rw [← Array.toList_map, ← Array.toList_map] at h1 h2
    exact .func h1.arr_size h1.arr_get h2.arr_size h2.arr_get
  · rename_i t ho
    exact one hL.symm ⟨_, .map #[] 0, ⟨w.heap.size, 0, 0, 0⟩, by simp [execOp, ho, Instr.makeMap], rfl, rfl, ⟨rfl, rfl, fun i a b ha => by simp at ha⟩, fun σ' id hx => .map hx⟩
  · rename_i t l c ho
    subst hL
    refine ofO_mem hne (fun v hv => ?_)
    exact (makeSlice_sound hE hv (hρ l) (hρ c)).congr (by simp [execOp, ho])
  · rename_i t x lo hi mx ho
    subst hL
    obtain ⟨out, h1, h2⟩ := sliceA_sound hE h hne (hρ x) (VRO.map hρ lo) (VRO.map hρ hi) (VRO.map hρ mx)
    exact ⟨out, h1, h2.congr (by simp [execOp, ho])⟩
  · rename_i t x f ho
    subst hL
    refine valO_mem hne (fun v hv => ?_)
    obtain ⟨v', h1, h2⟩ := fieldAddr_sound (P := P) hE hv (hρ x) w
    exact (out_val rfl h1 h2).congr (by simp [execOp, ho])
  · rename_i t x f ho
    subst hL
    refine valO_mem hne (fun v hv => ?_)
    obtain ⟨v', h1, h2⟩ := field_sound (P := P) hE hv (hρ x) w
    exact (out_val rfl h1 h2).congr (by simp [execOp, ho])
  · rename_i t x i ho
    subst hL
    refine valO_mem hne (fun v hv => ?_)
    obtain ⟨v', h1, h2⟩ := indexAddr_sound (P := P) hE hv (hρ x) (hρ i) w
    exact (out_val rfl h1 h2).congr (by simp [execOp, ho])
  · rename_i t x i ho
    subst hL
    refine valO_mem hne (fun v hv => ?_)
    obtain ⟨v', h1, h2⟩ := index_sound (P := P) hE hv (hρ x) (hρ i) w
    exact (out_val rfl h1 h2).congr (by simp [execOp, ho])
  · rename_i t x k ok ho
    subst hL
    refine valO_mem hne (fun v hv => ?_)
    obtain ⟨v', h1, h2⟩ := lookup_sound hE h hv (hρ x) (hρ k)
    exact (out_val rfl h1 h2).congr (by simp [execOp, ho])
  · rename_i t x k v ho
    split at hL
    · rename_i m' hs
      obtain ⟨w', h1, h2, h3⟩ := mapUpdate_sound hE h hs (hρ x) (hρ k) (hρ v)
      exact one hL.symm ⟨.skip, und, w', σ, by simp [execOp, ho, h1], rfl, VR.undef σ, h2, h3⟩
    · exact absurd hL.symm hne
  · rename_i t x k v ho
    split at hL
    · rename_i m' hs
      obtain ⟨w', h1, h2, h3⟩ := mapUpdate_sound hE h hs (hρ x) (hρ k) (hρ v)
      exact one hL.symm ⟨.skip, und, w', σ, by simp [execOp, ho, h1], rfl, VR.undef σ, h2, h3⟩
    · exact absurd hL.symm hne
  · rename_i t i ho
    split at hL
    · rename_i vs ht
      split at hL
      · rename_i v hv
        have hr := hρ t
        rw [ht] at hr
        obtain ⟨vs', hvs, hl⟩ := hr.tuple_inv
        obtain ⟨v', h1, h2⟩ := hl.getElem? hv
        have h1' : vs'[i]? = some v' := by simpa using h1
        exact one hL.symm (out_val (s0 := Instr.extract (ρ' t) i) (by simp [execOp, ho]) (by simp [hvs, Instr.extract, h1']) h2)
      · exact absurd hL.symm hne
    · exact absurd hL.symm hne
  · rename_i c ho
    subst hL
    obtain ⟨out, h1, h2⟩ := callA_sound hE h hρ c o.type hne
    exact ⟨out, h1, h2.congr (by simp [execOp, ho])⟩
  · exact absurd hL.symm hne
end Go.AE
