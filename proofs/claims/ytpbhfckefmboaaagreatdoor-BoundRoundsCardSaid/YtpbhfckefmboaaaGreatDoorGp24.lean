/- A writer is made: one act more is laid aside. -/
import Derived.Test.YtpbhfckefmboaaaGreatDoorGp23
set_option linter.unusedVariables false
set_option linter.unusedSimpArgs false
set_option linter.unusedSectionVars false
namespace Go.Proofs.YtpbhfckefmboaaaGreatDoor.Sy
open Go Go.RowKit Go.Lib Go.AS Go.Base Go.Pr Go.Proofs.YtpbhfckefmboaaaGreatDoor.Ba
theorem Tryz_info53 : (Tryz.prog.info? 53).map (fun i => (i.zero, i.size, i.bytes)) = some (some (.agg #[.int .i64 0, .slice none 0 0]), 2, 32) := by kernel_rfl
theorem arT {j n : Nat} (h : n ≤ 64) (hj : j ≤ n) : wrap64 ((j : Int) + 1) = (j : Int) + 1 := IntWalk.wrap64_in _ (by omega)
theorem arM {j n : Nat} (h : n ≤ 64) (hj : j ≤ n) : j + 1 ≤ maxLen := by unfold maxLen; omega
theorem arB {j n : Nat} (h : n ≤ 64) (hj : j ≤ n) : (j + 1) * 32 ≤ 140737488355328 := by omega
theorem arS {X Y : Nat} {wr w5 : World} {ob : Obj} (hY : wr.heap.size = Y) (sz : X + 2 ≤ wr.heap.size) (hb : Below Y wr w5) : X + 2 ≤ (w5.alloc ob).heap.size := by have := hb.size; simp; omega
theorem arO {kd : Int} {pa : Option Addr} {len pc : Nat} : ∀ u ∈ [Value.int .i64 kd, .slice pa len pc], u.oneCell' = true := by intro u hu; simp at hu; rcases hu with rfl | rfl <;> rfl
theorem arE {j n : Nat} (h : j < n) : j + 1 ≤ n := h
theorem arN {j n : Nat} (h : n ≤ 64) (hj : j < n) : (1000 - ((j : Int) + 1)).toNat < (1000 - (j : Int)).toNat := by omega
theorem arU {j n : Nat} (h : j < n) : (j : Int) < (n : Int) := by omega
theorem write_D {wr w5 : World} {S n len : Nat} {v : Value} {xs : List Value} (hb5 : Below wr.heap.size wr w5) (hown : wr.ownsRow S 53 2 v n xs) (kd : Int) (pa : Option Addr) (pc : Nat) : (w5.alloc (.cells #[.int .i64 kd, .slice pa len pc] 53)).ownsRow S 53 2 v n xs ∧ ∀ (i : Nat) u, [Value.int .i64 kd, .slice pa len pc][i]? = some u → (w5.alloc (.cells #[.int .i64 kd, .slice pa len pc] 53)).cell? ((⟨w5.heap.size, 0, none⟩ : Addr).add i) = some u := by
  have hb : Below wr.heap.size wr (w5.alloc (.cells #[.int .i64 kd, .slice pa len pc] 53)) := hb5.alloc hb5.size _
  refine ⟨own_atS hown fun g hg => hb.block g (hown.lt g hg).2, fun i u hi => ?_⟩
  have hr : (w5.alloc (.cells #[.int .i64 kd, .slice pa len pc] 53)).heap[w5.heap.size]? = some (.cells #[.int .i64 kd, .slice pa len pc] 53) := heap_new _ _
  rw [Addr.add_lit, Nat.zero_add]
  simp only [World.cell?, hr]
  rcases i with _ | _ | i <;> first | exact hi | (cases hi)
/-- a loop's state: what is laid aside so far -/
structure LS (W : World) (X : Nat) (l : Lg) (tr : Int) (acts : List OpN) (wr : World) (j : Nat) : Prop where
  bl : Below X W wr
  sz : X + 2 ≤ wr.heap.size
  ex : ∃ v, wr.heap[X + 1]? = some (.cells (wr0C l v tr) 142) ∧ LeftK (X + 2) wr v (acts.take j)
/-- one act more -/
theorem LeftK.more2 {ps : List (Option Addr × Nat)} {S : Nat} {w D w' : World} {v v' : Value} {os : List OpN} {o : OpN} {pa : Option Addr} {pc : Nat} (hl : ps.length = os.length) (hown : w.ownsRow S 53 2 v os.length (opC os ps)) (hrow : ∀ (j : Nat) (o : OpN) (p : Option Addr × Nat), os[j]? = some o → ps[j]? = some p → RowK w [] noTau (fun k => S ≤ k ∧ v.ownBlock ≠ some k) p.1 o.data) (hD : Below w.heap.size w D) (hr : RowK D [] noTau (fun k => w.heap.size ≤ k) pa o.data) (hS : S ≤ w.heap.size)
    (r1 : w'.ownsRow S 53 2 v' (os.length + 1) (opC os ps ++ [.int .i64 o.kind, .slice pa o.data.length pc])) (r2 : D.grownBy w' v.ownBlock) (r3 : v'.ownBlock = v.ownBlock ∨ v'.ownBlock = some D.heap.size) : LeftK S w' v' (os ++ [o]) := by
  have hDs := hD.size
  refine ⟨ps ++ [(pa, pc)], by simp [hl], ?_, fun j o' p h1 h2 i x hx => ?_⟩
  · rw [opC_append os ps o (pa, pc) hl, List.length_append]
    exact r1
  · by_cases hj : j < os.length
    · rw [List.getElem?_append_left hj] at h1
      rw [List.getElem?_append_left (by omega)] at h2
      obtain ⟨bb, bo, e2, hn', ⟨hb, hv⟩, hc⟩ := hrow j o' p h1 h2 i x hx
      have hlt : bb < w.heap.size := World.block_lt_of_cell? w _ hc
      refine ⟨bb, bo, e2, hn', ⟨hb, fun e => ?_⟩, (cell_same ((r2.block bb (by omega) fun e => hv e.symm).trans (hD.block bb hlt))).trans hc⟩
      rcases r3 with r3 | r3
      · exact hv (r3 ▸ e)
      · rw [r3] at e; injection e with e; omega
    · have hj2 : j = os.length := by
        have := (List.getElem?_eq_some_iff.1 h1).1
        simp at this; omega
      subst hj2
      rw [List.getElem?_append_right (Nat.le_refl _), Nat.sub_self] at h1
      rw [List.getElem?_append_right (by omega), hl, Nat.sub_self] at h2
      injection h1 with h1; injection h2 with h2
      subst h1 h2
      obtain ⟨bb, bo, e2, hn', hb, hc⟩ := hr i x hx
      have hlt : bb < D.heap.size := World.block_lt_of_cell? D _ hc
      have hne : v.ownBlock ≠ some bb := fun e => by have := (hown.lt bb e).2; omega
      refine ⟨bb, bo, e2, hn', ⟨by omega, fun e => ?_⟩, (cell_same (r2.block bb hlt fun e => hne e.symm)).trans hc⟩
      rcases r3 with r3 | r3
      · exact hne (r3 ▸ e)
      · rw [r3] at e; injection e with e; omega
theorem write_T {X Y : Nat} {wr w5 w6 : World} {ob : Obj} {C : Obj} {n : Nat} {v : Value} {xs : List Value} (hY : wr.heap.size = Y) (sz : X + 2 ≤ wr.heap.size) (hb5 : Below Y wr w5) (hT : wr.heap[X + 1]? = some C) (hown : wr.ownsRow (X + 2) 53 2 v n xs) (r2 : (w5.alloc ob).grownBy w6 v.ownBlock) : w6.heap[X + 1]? = some C := by
  have hb : Below Y wr (w5.alloc ob) := hb5.alloc (by have := hb5.size; omega) _
  have hs := hb.size
  exact (r2.block (X + 1) (by omega) fun e => by have := (hown.lt _ e.symm).1; omega).trans ((hb.block (X + 1) (by omega)).trans hT)
/-- the round's end -/
theorem write_end {W wr w5 w6 : World} {X Y j : Nat} {l : Lg} {tr : Int} {acts : List OpN} {o : OpN} {v v6 : Value} {ps : List (Option Addr × Nat)} {pa : Option Addr} {pc : Nat} {kd : Int} (hX : W.heap.size = X) (hY : wr.heap.size = Y) (bl : Below X W wr) (sz : X + 2 ≤ wr.heap.size) (ho : acts[j]? = some o) (hkd : o.kind = kd)
    (hT : wr.heap[X + 1]? = some (.cells (wr0C l v tr) 142)) (hps : ps.length = (acts.take j).length) (hlen : (acts.take j).length = j) (hown : wr.ownsRow (X + 2) 53 2 v j (opC (acts.take j) ps)) (hrow : ∀ (i : Nat) (o : OpN) (p : Option Addr × Nat), (acts.take j)[i]? = some o → ps[i]? = some p → RowK wr [] noTau (fun k => X + 2 ≤ k ∧ v.ownBlock ≠ some k) p.1 o.data)
    (hb5 : Below Y wr w5) (hr5 : RowK w5 [] noTau (fun k => Y ≤ k) pa o.data) (r1 : w6.ownsRow (X + 2) 53 2 v6 (j + 1) (opC (acts.take j) ps ++ [.int .i64 kd, .slice pa o.data.length pc])) (r2 : (w5.alloc (.cells #[.int .i64 kd, .slice pa o.data.length pc] 53)).grownBy w6 v.ownBlock)
    (r3 : v6.ownBlock = v.ownBlock ∨ v6.ownBlock = some (w5.alloc (.cells #[.int .i64 kd, .slice pa o.data.length pc] 53)).heap.size) : LS W X l tr acts (w6.setCell ⟨X + 1, 11, none⟩ v6) (j + 1) := by
  subst hkd
  have hD : Below wr.heap.size wr (w5.alloc (.cells #[.int .i64 o.kind, .slice pa o.data.length pc] 53)) := (hY.symm ▸ hb5).alloc (by have := hb5.size; omega) _
  have hs := hD.size
  have hs6 := r2.size
  have h6 := write_T hY sz hb5 hT hown r2
  have hr : RowK (w5.alloc (.cells #[.int .i64 o.kind, .slice pa o.data.length pc] 53)) [] noTau (fun k => wr.heap.size ≤ k) pa o.data := fun i x hx => by
    obtain ⟨bb, bo, e, hn, hk, hc⟩ := hr5 i x hx
    have hl : bb < w5.heap.size := World.block_lt_of_cell? w5 _ hc
    exact ⟨bb, bo, e, hn, by omega, (cell_same (((Below.refl w5.heap.size w5).alloc (Nat.le_refl _) _).block bb hl)).trans hc⟩
  have hL := LeftK.more2 hps (by rw [hlen]; exact hown) hrow hD hr sz (by rw [hlen]; exact r1) r2 r3
  rw [show acts.take j ++ [o] = acts.take (j + 1) by rw [List.take_add_one, ho]; rfl] at hL
  have o7 : Only (X + 1) w6 (w6.setCell ⟨X + 1, 11, none⟩ v6) := Only.set _ _ _
  have s7 := o7.size
  have hk : ∀ k, k < X → (w6.setCell ⟨X + 1, 11, none⟩ v6).heap[k]? = W.heap[k]? := fun k hk => (o7.block k (by omega) (by omega)).trans ((r2.block k (by omega) fun e => by have := (hown.lt _ e.symm).1; omega).trans ((hD.block k (by omega)).trans (bl.block k hk)))
  refine ⟨⟨?_, ?_, ?_, by have := bl.size; omega, hk⟩, by omega, v6, setc h6 11 v6, hL.move fun k h1 h2 => o7.block k h2 (by omega)⟩
  · exact o7.os.trans (r2.os.trans (hD.os.trans bl.os))
  · exact o7.tape.trans (r2.tape.trans (hD.tape.trans bl.tape))
  · exact o7.output.trans (r2.output.trans (hD.output.trans bl.output))
/-- a post that nothing but a plain end meets -/
def OnlyN (K : Act → World → Prop) : Exit → Act → World → Prop
  | .normal, a, w => K a w
  | _, _, _ => False
theorem onlyN_of {P : Program} {c : Code} {Q : Exit → Act → World → Prop} {a : Act} {w : World} (h : c.wp P (OnlyN (fun a w => Q .normal a w)) a w) : c.wp P Q a w :=
  Code.wp_mono (fun e a w h => by cases e <;> first | exact h | exact (h : False).elim) h
set_option maxHeartbeats 6400000 in
set_option maxRecDepth 1000000 in
theorem region5 {l : Lg} {tries : Int} {acts : List OpN} {o : OpN} {W wr W1 : World} {X Y j : Nat} {ca : Option Addr} {cc : Nat} {kd : Int} {ba : Option Addr} {bc : Nat} {ps0 : List (Option Addr × Nat)} {v0 v1 v2 v3 v4 v5 v6 v8 v10 v11 v12 v13 v14 v15 v16 v17 v18 v19 v20 v21 v22 v23 v24 v25 v26 v27 v28 v29 v30 v31 v32 v33 v34 v35 v36 v37 v38 v39 v40 v41 v42 v43 v44 v45 v46 v47 v48 v49 v50 v51 v52 v53 v54 v55 v56 v57 : Value} {i0 : TypeInfo} (hi67 : Tryz.prog.info? 53 = some i0) (iz0 : i0.zero = some (.agg #[.int .i64 0, .slice none 0 0])) (iz1 : i0.size = 2) (iz2 : i0.bytes = 32)
    (hX : W.heap.size = X) (hY : wr.heap.size = Y) (hlt : j < acts.length) (hj : j ≤ acts.length) (hlen : acts.length ≤ 64) (ho : acts[j]? = some o) (hkd : o.kind = kd) (hps0 : ps0.length = (acts.take j).length) (hlen2 : (acts.take j).length = j)
    (cC : ∀ V', Below W1.heap.size W1 V' → Calls Tryz.prog 62 #[.slice ba o.data.length bc] V' fun e w' => ∃ pa pc, e = .returned (.slice pa o.data.length pc) ∧ Below Y wr w' ∧ Below W1.heap.size W1 w' ∧ RowK w' [] noTau (fun k => Y ≤ k) pa o.data)
    (HB : Hid (W1.heap[X + 1]? = some (.cells (wr0C l (.slice ca j cc) tries) 142) ∧ W1.heap[Y]? = some (.cells #[.int .i64 kd, .slice ba o.data.length bc] 53))) (HW : Hid (wr.ownsRow (X + 2) 53 2 (.slice ca j cc) j (opC (acts.take j) ps0))) (HQ : Hid (∀ (i : Nat) (o : OpN) (p : Option Addr × Nat), (acts.take j)[i]? = some o → ps0[i]? = some p → RowK wr [] noTau (fun k => X + 2 ≤ k ∧ (Value.slice ca j cc).ownBlock ≠ some k) p.1 o.data))
    (HR : Hid (Below X W wr ∧ X + 2 ≤ wr.heap.size ∧ wr.heap[X + 1]? = some (.cells (wr0C l (.slice ca j cc) tries) 142)))
    (K : Act → World → Prop) (hK : ∀ x25 x26 x27 x28 x29 x30 x31 x32 x33 x34 x35 x36 x37 x38 x39 w', LS W X l tries acts w' (j + 1) → K { tmps := List.toArray (v0 :: v1 :: v2 :: v3 :: v4 :: v5 :: v6 :: (.pointer (some ⟨X + 1, 0, none⟩)) :: v8 :: (.pointer (some ⟨Y, 0, none⟩)) :: v10 :: v11 :: v12 :: v13 :: v14 :: v15 :: v16 :: v17 :: v18 :: v19 :: v20 :: v21 :: v22 :: v23 :: v24 :: x25 :: x26 :: x27 :: x28 :: x29 :: x30 :: x31 :: x32 :: x33 :: x34 :: x35 :: x36 :: x37 :: x38 :: x39 :: v40 :: v41 :: v42 :: v43 :: v44 :: v45 :: v46 :: v47 :: v48 :: v49 :: v50 :: v51 :: v52 :: v53 :: v54 :: v55 :: v56 :: v57 :: []), defers := [] } w') :
    (Code.region 5 (List.toArray ({ dst := some 25, op := Op.move (Operand.tmp 7), type := 90, pos := "actor.go:43", after := #[], guard := none } :: { dst := some 26, op := Op.move (Operand.tmp 7), type := 90, pos := "actor.go:43", after := #[], guard := none } :: { dst := some 27, op := Op.nilCheck (Operand.tmp 26), type := 0, pos := "actor.go:43", after := #[{ on := 1, ground := Ground.data }], guard := none } :: { dst := some 28, op := Op.fieldAddr 142 (Operand.tmp 27) 2, type := 0, pos := "actor.go:43", after := #[{ on := 2, ground := Ground.data }], guard := none } :: { dst := some 29, op := Op.load 51 (Operand.tmp 28), type := 51, pos := "actor.go:43", after := #[{ on := 3, ground := Ground.data }], guard := none } :: { dst := some 30, op := Op.fieldAddr 53 (Operand.tmp 9) 0, type := 0, pos := "actor.go:43", after := #[], guard := none } :: { dst := some 31, op := Op.load 3 (Operand.tmp 30), type := 3, pos := "actor.go:43", after := #[{ on := 5, ground := Ground.data }], guard := none } :: { dst := some 32, op := Op.fieldAddr 53 (Operand.tmp 9) 1, type := 0, pos := "actor.go:43", after := #[], guard := none } :: { dst := some 33, op := Op.load 38 (Operand.tmp 32), type := 38, pos := "actor.go:43", after := #[{ on := 7, ground := Ground.data }], guard := none } :: { dst := some 34, op := Op.call { callee := Callee.value (Operand.func 62), args := #[Operand.tmp 33], argTypes := #[38] }, type := 38, pos := "actor.go:43", after := #[{ on := 8, ground := Ground.data }], guard := none } :: { dst := some 35, op := Op.build 53 #[(0, Operand.tmp 31), (1, Operand.tmp 34)], type := 53, pos := "actor.go:43", after := #[{ on := 6, ground := Ground.data }, { on := 9, ground := Ground.data }], guard := none } :: { dst := some 36, op := Op.buildSlice 51 1 #[(0, Operand.tmp 35)], type := 51, pos := "actor.go:43", after := #[{ on := 10, ground := Ground.data }], guard := none } :: { dst := some 37, op := Op.call { callee := Callee.builtin Builtin.append, args := #[Operand.tmp 29, Operand.tmp 36], argTypes := #[51, 51] }, type := 51, pos := "actor.go:43", after := #[{ on := 4, ground := Ground.data }, { on := 11, ground := Ground.data }, { on := 9, ground := Ground.chain }], guard := none } :: { dst := some 38, op := Op.nilCheck (Operand.tmp 25), type := 0, pos := "actor.go:43", after := #[{ on := 0, ground := Ground.data }, { on := 0, ground := Ground.phase }, { on := 1, ground := Ground.phase }, { on := 2, ground := Ground.phase }, { on := 3, ground := Ground.phase }, { on := 4, ground := Ground.phase }, { on := 5, ground := Ground.phase }, { on := 6, ground := Ground.phase }, { on := 7, ground := Ground.phase }, { on := 8, ground := Ground.phase }, { on := 9, ground := Ground.phase }, { on := 10, ground := Ground.phase }, { on := 11, ground := Ground.phase }, { on := 12, ground := Ground.phase }], guard := none } :: { dst := some 39, op := Op.fieldAddr 142 (Operand.tmp 38) 2, type := 0, pos := "actor.go:43", after := #[{ on := 13, ground := Ground.data }, { on := 0, ground := Ground.phase }, { on := 1, ground := Ground.phase }, { on := 2, ground := Ground.phase }, { on := 3, ground := Ground.phase }, { on := 4, ground := Ground.phase }, { on := 5, ground := Ground.phase }, { on := 6, ground := Ground.phase }, { on := 7, ground := Ground.phase }, { on := 8, ground := Ground.phase }, { on := 9, ground := Ground.phase }, { on := 10, ground := Ground.phase }, { on := 11, ground := Ground.phase }, { on := 12, ground := Ground.phase }], guard := none } :: { dst := none, op := Op.store 51 (Operand.tmp 39) (Operand.tmp 37), type := 0, pos := "actor.go:43", after := #[{ on := 14, ground := Ground.data }, { on := 12, ground := Ground.data }, { on := 12, ground := Ground.chain }, { on := 0, ground := Ground.phase }, { on := 1, ground := Ground.phase }, { on := 2, ground := Ground.phase }, { on := 3, ground := Ground.phase }, { on := 4, ground := Ground.phase }, { on := 5, ground := Ground.phase }, { on := 6, ground := Ground.phase }, { on := 7, ground := Ground.phase }, { on := 8, ground := Ground.phase }, { on := 9, ground := Ground.phase }, { on := 10, ground := Ground.phase }, { on := 11, ground := Ground.phase }, { on := 12, ground := Ground.phase }], guard := none } :: [])) true).wp Tryz.prog (OnlyN K) { tmps := List.toArray (v0 :: v1 :: v2 :: v3 :: v4 :: v5 :: v6 :: (.pointer (some ⟨X + 1, 0, none⟩)) :: v8 :: (.pointer (some ⟨Y, 0, none⟩)) :: v10 :: v11 :: v12 :: v13 :: v14 :: v15 :: v16 :: v17 :: v18 :: v19 :: v20 :: v21 :: v22 :: v23 :: v24 :: v25 :: v26 :: v27 :: v28 :: v29 :: v30 :: v31 :: v32 :: v33 :: v34 :: v35 :: v36 :: v37 :: v38 :: v39 :: v40 :: v41 :: v42 :: v43 :: v44 :: v45 :: v46 :: v47 :: v48 :: v49 :: v50 :: v51 :: v52 :: v53 :: v54 :: v55 :: v56 :: v57 :: []), defers := [] } W1 := by
  have k0 : W1.cell? ⟨Y, 0, none⟩ = some (.int .i64 kd) := by simp [World.cell?, HB.out.2]
  have k1 : W1.cell? ⟨Y, 1, none⟩ = some (.slice ba o.data.length bc) := by simp [World.cell?, HB.out.2]
  have hTu := HB.out.1
  unfold wr0C at hTu
  obtain ⟨f0, f1, f2, f3, f4, f5, f6, f7, f8, f9, f10, f11, f12, f13, f14, z0, z3, z11, -⟩ := blk15 hTu
  clear hTu
  have hm50 := arM hlen hj
  have hb50 := arB hlen hj
  go_region_law (first
    | (refine step_append_own rfl (.tmp 29) (.tmp 36) 51 rfl (X + 2) 53 i0 _ 2 32 Tryz.underlying51 hi67 iz0 iz1 iz2 rfl (by decide) (.slice ca j cc) j (opC (acts.take j) ps0) (by simp [Act.eval, Act.put]) (write_D (hY.symm ▸ H5.out.1) HW.out kd pa pc).1 ⟨w5.heap.size, 0, none⟩ 1 1 [.int .i64 kd, .slice pa o.data.length pc] (by simp [Act.eval, Act.put]) rfl (write_D (hY.symm ▸ H5.out.1) HW.out kd pa pc).2 arO hm50 hb50 (arS hY HR.out.2.1 H5.out.1) ?_; intro v6 w6 r1 r2 r3; obtain ⟨ca6, cc6, rfl⟩ := own_slice r1; have hT6 := write_T hY HR.out.2.1 H5.out.1 HR.out.2.2 HW.out r2; unfold wr0C at hT6; obtain ⟨-, -, -, -, -, -, -, -, -, -, -, y11, -, -, -, -, -, x11, -⟩ := blk15 hT6; clear hT6; have H6 := Lib.hid (And.intro r1 (And.intro r2 r3)); clear r1 r2 r3)
    | (go_simp; go_at_call 62; refine (cC _ (Below.drew (Below.refl _ _))).mono ?_; clear cC; rintro e w5 ⟨pa, pc, rfl, hb5, hs5, hr5⟩; have m0 : w5.cell? ⟨Y, 0, none⟩ = some (.int .i64 kd) := (cell_same (hs5.block Y (Array.getElem?_eq_some_iff.1 HB.out.2).1)).trans k0; have m1 : w5.cell? ⟨Y, 1, none⟩ = some (.slice ba o.data.length bc) := (cell_same (hs5.block Y (Array.getElem?_eq_some_iff.1 HB.out.2).1)).trans k1; have m11 : w5.cell? ⟨X + 1, 11, none⟩ = some (.slice ca j cc) := (cell_same (hs5.block (X + 1) (Array.getElem?_eq_some_iff.1 HB.out.1).1)).trans f11; have m12 : (w5.alloc (.cells #[.int .i64 kd, .slice pa o.data.length pc] 53)).cell? ⟨X + 1, 11, none⟩ = some (.slice ca j cc) := (cell_same (((Below.refl w5.heap.size w5).alloc (Nat.le_refl _) _).block (X + 1) (World.block_lt_of_cell? w5 _ m11))).trans m11; have H5 := Lib.hid (And.intro hb5 (And.intro hs5 hr5)); clear hb5 hs5 hr5))
  all_goals (
    exact hK (.pointer (some ⟨X + 1, 0, none⟩)) (.pointer (some ⟨X + 1, 0, none⟩)) (.pointer (some ⟨X + 1, 0, none⟩)) (.pointer (some ⟨X + 1, 11, none⟩)) (.slice ca j cc) (.pointer (some ⟨Y, 0, none⟩)) (.int .i64 kd) (.pointer (some ⟨Y, 1, none⟩)) (.slice ba o.data.length bc) (.slice pa o.data.length pc) (.agg #[.int .i64 kd, .slice pa o.data.length pc]) (.slice (some ⟨w5.heap.size, 0, none⟩) 1 1) (.slice ca6 (j + 1) cc6) (.pointer (some ⟨X + 1, 0, none⟩)) (.pointer (some ⟨X + 1, 11, none⟩)) _ (write_end hX hY HR.out.1 HR.out.2.1 ho hkd HR.out.2.2 hps0 hlen2 HW.out HQ.out H5.out.1 H5.out.2.2 H6.out.1 H6.out.2.1 H6.out.2.2))
end Go.Proofs.YtpbhfckefmboaaaGreatDoor.Sy
