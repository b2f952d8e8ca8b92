/- The evaluator, made fast for the kernel: code, calls, the environment. -/
import Derived.Test.YtpbhfckefmboaaaGreatDoorGp42
set_option linter.unusedVariables false
set_option linter.unusedSimpArgs false
set_option linter.unusedSectionVars false
namespace Go.AE
open Go.RowKit
noncomputable section
/-! ### regions whose order is open -/
def readsAsF (E : Env) (o : Oper) (t : T Value) (v : Value) (m : Mem) : Bool :=
  match evOpF E o t m with
  | [.val x] => veq 30 x v
  | _ => false
theorem readsAsF_eq (E : Env) (o : Oper) (t : T Value) (v : Value) (m : Mem) : readsAsF E o t v m = readsAs E o t v m := by
  unfold readsAsF readsAs; rw [evOpF_eq]; rfl
def checkBackF (E : Env) (M0 : Mem) (o : Oper) (t : T Value) (v : Value) (b : Nat) : List (Nat × Mem) → Bool
  | [] => readsAsF E o t v M0
  | (e, c) :: l => cond (readsAsF E o t v c) (cond (Nat.testBit b e) true (checkBackF E M0 o t v b l)) false
theorem checkBackF_eq (E : Env) (M0 : Mem) (o : Oper) (t : T Value) (v : Value) (b : Nat) : ∀ l, checkBackF E M0 o t v b l = checkBack E M0 o t v b l
  | [] => readsAsF_eq ..
  | (e, c) :: l => by simp only [checkBackF, checkBack, readsAsF_eq, checkBackF_eq E M0 o t v b l]
def checkReadsF (E : Env) (b : Nat) (m : Mem) : List (Nat × Oper × T Value × Value) → Bool
  | [] => true
  | (j, o, t, v) :: l => cond (cond (Nat.testBit b j) true (readsAsF E o t v m)) (checkReadsF E b m l) false
theorem checkReadsF_eq (E : Env) (b : Nat) (m : Mem) : ∀ l, checkReadsF E b m l = checkReads E b m l
  | [] => rfl
  | (j, o, t, v) :: l => by simp only [checkReadsF, checkReads, readsAsF_eq, checkReadsF_eq E b m l]
def effOKF (E : Env) (n N0 : Nat) (S : DS) (b : Nat) (m : Mem) : Bool :=
  cond (allBits b S.effs) (cond (freshIds N0 (S.mask ||| b) m.t n) (checkReadsF E b m S.reads) false) false
theorem effOKF_eq (E : Env) (n N0 : Nat) (S : DS) (b : Nat) (m : Mem) : effOKF E n N0 S b m = effOK E n N0 S b m := by unfold effOKF effOK; rw [checkReadsF_eq]
def clsDF (E : Env) (call : CallF) (ops : Array Oper) (n N0 : Nat) (M0 : Mem) (S : DS) (o : Oper) (b : Nat) : Option Cl :=
  match wanted ops o S.t with
  | none => none
  | some false => some .skip
  | some true => match memFree o.op with
    | true => match evOpF E o S.t M0 with
      | [.val v] => some (.pure v)
      | [.new ob mk] => some (.alloc ob mk)
      | _ => none
    | false => match evOpF E o S.t ⟨S.chain.n, addAllocs N0 b S.allocs S.chain.t⟩ with
      | [.val v] => match checkBackF E M0 o S.t v b S.effs with
        | true => some (.read v)
        | false => none
      | [.eff v m] => match effOKF E n N0 S b m with
        | true => some (.eff v m)
        | false => none
      | [.enter f args] => match call f args ⟨S.chain.n, addAllocs N0 b S.allocs S.chain.t⟩ with
        | [(v, m)] => match effOKF E n N0 S b m with
          | true => some (.eff v m)
          | false => none
        | _ => none
      | _ => none
theorem clsDF_eq (E : Env) (call : CallF) (ops : Array Oper) (n N0 : Nat) (M0 : Mem) (S : DS) (o : Oper) (b : Nat) : clsDF E call ops n N0 M0 S o b = clsD E call ops n N0 M0 S o b := by
  unfold clsDF clsD
  simp only [evOpF_eq, checkBackF_eq, effOKF_eq]
  rfl
def runDF (E : Env) (call : CallF) (ops : Array Oper) (B : List Nat) (n N N0 : Nat) (M0 : Mem) : List Oper → Nat → DS → Option DS
  | [], _, S => some S
  | o :: l, i, S => match clsDF E call ops n N0 M0 S o (B.getD i 0) with
    | none => none
    | some c => runDF E call ops B n N N0 M0 l (i + 1) (applyD N N0 S i o (B.getD i 0) c)
theorem runDF_eq (E : Env) (call : CallF) (ops : Array Oper) (B : List Nat) (n N N0 : Nat) (M0 : Mem) : ∀ l i S, runDF E call ops B n N N0 M0 l i S = runD E call ops B n N N0 M0 l i S
  | [], _, _ => rfl
  | o :: l, i, S => by
    rw [runDF, runD, clsDF_eq]
    cases clsD E call ops n N0 M0 S o (B.getD i 0) with
    | none => rfl
    | some c => exact runDF_eq E call ops B n N N0 M0 l (i + 1) _
def evDrawF (E : Env) (call : CallF) (N : Nat) (ops : Array Oper) (t : T Value) (m : Mem) : List (T Value × Mem) :=
  match edgesOK ops.toList 0, tmpsOK ops (masks ops.toList []) ops.toList 0 with
  | true, true => match runDF E call ops (masks ops.toList []) ops.toList.length N m.n ⟨m.n + ops.toList.length, m.t⟩ ops.toList 0 ⟨t, ⟨m.n + ops.toList.length, m.t⟩, [], [], [], 0⟩ with
    | some S => [(S.t, ⟨S.chain.n, addAll m.n S.allocs S.chain.t⟩)]
    | none => []
  | _, _ => []
theorem evDrawF_eq (E : Env) (call : CallF) (N : Nat) (ops : Array Oper) (t : T Value) (m : Mem) : evDrawF E call N ops t m = evDraw E call N ops t m := by
  unfold evDrawF evDraw; simp only [runDF_eq]; rfl
/-! ### code -/
inductive FC where
  | skip
  | ops (l : List Ins)
  | draw (ops : Array Oper)
  | seq (a b : FC)
  | cond (c : Opd) (a b : FC)
  | block (id : Nat) (b : FC)
  | loop (b : FC)
  | exit (id : Nat)
  | ret
  | rng (g : Operand) (ps : Array Tmp) (assign body : Code)
  | bad
def mapL {α γ : Type} (f : α → γ) (l : List α) : List γ := List.rec [] (fun x _ ih => f x :: ih) l
theorem mapL_eq {α γ : Type} (f : α → γ) : ∀ l, mapL f l = l.map f
  | [] => rfl
  | x :: l => congrArg (f x :: ·) (mapL_eq f l)
def compC (E : Env) (N : Nat) (c : Code) : FC :=
  Code.rec (motive := fun _ => FC) .skip (fun _ ops d => Bool.rec (.ops (mapL (comp E N ops) ops.toList)) (.draw ops) d) (fun _ _ a b => .seq a b) (fun c _ _ a b => .cond (opdOf c) a b) (fun id _ b => .block id b) (fun _ b => .loop b)
    (fun g ps as bd _ _ => .rng g ps as bd) (fun id => .exit id) (fun _ _ => .bad) (fun _ => .bad) (fun _ => .bad) .ret (fun _ => .bad) c
abbrev RX := List (Ex × T Value × Mem)
abbrev KX := T Value → Mem → RX
def xN (t : T Value) (m : Mem) (f : KX) : RX := f t m
def xE (i : Nat) (t : T Value) (m : Mem) (_ : KX) : RX := [(.exit i, t, m)]
def xR (t : T Value) (m : Mem) (_ : KX) : RX := [(.ret, t, m)]
def tn2 (t : T Value) (m : Mem) (e : Ex) (f : KX) : RX := @Ex.rec (fun _ => T Value → Mem → KX → RX) xN xE xR e t m f
def tn1 (e : Ex) (q : T Value × Mem) (f : KX) : RX := @Prod.rec (T Value) Mem (fun _ => Ex → KX → RX) tn2 q e f
def thenN (f : KX) (r : Ex × T Value × Mem) : RX := @Prod.rec Ex (T Value × Mem) (fun _ => KX → RX) tn1 r f
theorem thenN_eq (f : KX) (r : Ex × T Value × Mem) : thenN f r = match r with | (.normal, t, m) => f t m | r => [r] := by
  obtain ⟨e, t, m⟩ := r
  cases e <;> rfl
def yN (t : T Value) (m : Mem) (_ : Nat) : RX := [(.normal, t, m)]
def yE (i : Nat) (t : T Value) (m : Mem) (id : Nat) : RX := [(cond (Nat.beq id i) .normal (.exit i), t, m)]
def yR (t : T Value) (m : Mem) (_ : Nat) : RX := [(.ret, t, m)]
def bk2 (t : T Value) (m : Mem) (e : Ex) (id : Nat) : RX := @Ex.rec (fun _ => T Value → Mem → Nat → RX) yN yE yR e t m id
def bk3 (e : Ex) (q : T Value × Mem) (id : Nat) : RX := @Prod.rec (T Value) Mem (fun _ => Ex → Nat → RX) bk2 q e id
def blkF (id : Nat) (r : Ex × T Value × Mem) : RX := @Prod.rec Ex (T Value × Mem) (fun _ => Nat → RX) bk3 r id
def nm1 (t : T Value) (m : Mem) : RX := [(.normal, t, m)]
def norm1 (r : T Value × Mem) : RX := @Prod.rec (T Value) Mem (fun _ => RX) nm1 r
def lz (_ : KX) (_ : T Value) (_ : Mem) : RX := []
def ls (_ : Nat) (ih : KX → KX) (round : KX) (t : T Value) (m : Mem) : RX := bindF (round t m) (thenN (ih round))
def loopF (round : KX) (n : Nat) (t : T Value) (m : Mem) : RX := @Nat.rec (fun _ => KX → KX) lz ls n round t m
theorem loopF_eq (round : KX) : ∀ n t m, loopF round n t m = evLoop round n t m := by
  intro n
  induction n with
  | zero => intro t m; rfl
  | succ n ih =>
    intro t m
    show bindF (round t m) (thenN (loopF round n)) = _
    rw [bindF_eq, evLoop]
    congr 1
    funext r
    rw [thenN_eq]
    obtain ⟨e, t, m⟩ := r
    cases e with
    | normal => exact ih t m
    | _ => rfl
def condTop (v : Value) (a b : RX) : RX :=
  match v with
  | .complex .f32 1 0 => both a b
  | _ => []
def cd0 (_ b : RX) : RX := b
def cd1 (a _ : RX) : RX := a
def cdB (c : Bool) (_ : Value) (a b : RX) : RX := @Bool.rec (fun _ => RX → RX → RX) cd0 cd1 c a b
def condF (v : Value) (a b : RX) : RX := @Option.rec Bool (fun _ => Value → RX → RX → RX) condTop cdB (asBool v) v a b
theorem condF_eq (v : Value) (a b : RX) : condF v a b = match v with | .bool true => a | .bool false => b | .complex .f32 1 0 => both a b | _ => [] := by
  cases v with
  | bool c => cases c <;> rfl
  | complex k x y =>
    show condTop _ a b = _
    unfold condTop
    split
    · rename_i h; cases h; rfl
    · rename_i h
      split
      · rename_i h2; cases h2
      · rename_i h2; cases h2
      · rename_i h2; cases h2; exact absurd rfl h
      · rfl
  | _ => rfl
abbrev CF := Env → CallF → Bool → Nat → Nat → KX
def cSkip : CF := fun _ _ _ _ _ t m => [(.normal, t, m)]
def cOps (l : List Ins) : CF := fun E call _ _ _ t m => bindF (runL l E call t m) norm1
def cDraw (ops : Array Oper) : CF := fun E call _ N _ t m => bindF (evDrawF E call N ops t m) norm1
def cSeq (_ _ : FC) (a b : CF) : CF := fun E call rd N fuel t m => bindF (a E call rd N fuel t m) (thenN (b E call rd N fuel))
def cCond (c : Opd) (_ _ : FC) (a b : CF) : CF := fun E call rd N fuel t m => condF (c.ev t) (a E call rd N fuel t m) (b E call rd N fuel t m)
def cBlock (id : Nat) (_ : FC) (b : CF) : CF := fun E call rd N fuel t m => bindF (b E call rd N fuel t m) (blkF id)
def cLoop (_ : FC) (b : CF) : CF := fun E call rd N fuel t m => loopF (b E call rd N fuel) fuel t m
def cExit (id : Nat) : CF := fun _ _ _ _ _ t m => [(.exit id, t, m)]
def cRet : CF := fun _ _ _ _ _ t m => [(.ret, t, m)]
def cRng (g : Operand) (ps : Array Tmp) (as bd : Code) : CF := fun E call rd N _ t m => @Bool.rec (fun _ => RX) (evRange E call N g ps as bd t m) [] rd
def cBad : CF := fun _ _ _ _ _ _ _ => []
def FC.run (c : FC) : CF := @FC.rec (fun _ => CF) cSkip cOps cDraw cSeq cCond cBlock cLoop cExit cRet cRng cBad c
def evCodeF (E : Env) (call : CallF) (rd : Bool) (N fuel : Nat) (c : FC) (t : T Value) (m : Mem) : RX := c.run E call rd N fuel t m
theorem evCodeF_eq (E : Env) (call : CallF) (rd : Bool) (N fuel : Nat) : ∀ (c : Code) (t : T Value) (m : Mem), evCodeF E call rd N fuel (compC E N c) t m = evCode E call rd N fuel c t m := by
  intro c
  induction c with
  | skip => intro t m; rfl
  | region id ops d =>
    intro t m
    cases d with
    | false =>
      show bindF (runL (mapL (comp E N ops) ops.toList) E call t m) norm1 = _
      rw [bindF_eq, mapL_eq, runL_eq]; rfl
    | true =>
      show bindF (evDrawF E call N ops t m) norm1 = _
      rw [bindF_eq, evDrawF_eq]; rfl
  | seq a b iha ihb =>
    intro t m
    show bindF (evCodeF E call rd N fuel (compC E N a) t m) (thenN (evCodeF E call rd N fuel (compC E N b))) = _
    rw [bindF_eq, iha, evCode]
    congr 1
    funext r
    rw [thenN_eq]
    obtain ⟨e, t, m⟩ := r
    cases e with
    | normal => exact ihb t m
    | _ => rfl
  | cond x a b iha ihb =>
    intro t m
    show condF ((opdOf x).ev t) (evCodeF E call rd N fuel (compC E N a) t m) (evCodeF E call rd N fuel (compC E N b) t m) = _
    rw [opdOf_ev, condF_eq, iha, ihb, evCode]
    generalize evalT t x = v
    cases v with
    | bool b => cases b <;> rfl
    | complex k x y =>
      split
      · rename_i h; cases h
      · rename_i h; cases h
      · rename_i h; cases h; rfl
      · rename_i h
        split
        · rename_i h2; cases h2
        · rename_i h2; cases h2
        · rename_i h2; cases h2; exact absurd rfl h
        · rfl
    | _ => rfl
  | block id b ih =>
    intro t m
    show bindF (evCodeF E call rd N fuel (compC E N b) t m) (blkF id) = _
    rw [bindF_eq, ih, evCode]
    congr 1
    funext r
    obtain ⟨e, t, m⟩ := r
    cases e <;> rfl
  | loop b ih =>
    intro t m
    show loopF (evCodeF E call rd N fuel (compC E N b)) fuel t m = _
    rw [loopF_eq, evCode]
    congr 1
    funext t m
    exact ih t m
  | rangeFunc g ps as bd _ _ => intro t m; cases rd <;> rfl
  | exit id => intro t m; rfl
  | ret => intro t m; rfl
  | _ => intro t m; rfl
abbrev VM0 := List (Value × Mem)
def fe0 (_ : Mem) : VM0 := []
def fe1 (l : List Value) (m : Mem) : VM0 := [(tupled l, m)]
def feN (t : T Value) (m : Mem) (E : Env) (fn : Func) : VM0 := @Option.rec (List Value) (fun _ => Mem → VM0) fe0 fe1 (resultsA E t m fn.results.toList) m
def feE (_ : Nat) (_ : T Value) (_ : Mem) (_ : Env) (_ : Func) : VM0 := []
def fe2 (t : T Value) (m : Mem) (e : Ex) (E : Env) (fn : Func) : VM0 := @Ex.rec (fun _ => T Value → Mem → Env → Func → VM0) feN feE feN e t m E fn
def fe3 (e : Ex) (q : T Value × Mem) (E : Env) (fn : Func) : VM0 := @Prod.rec (T Value) Mem (fun _ => Ex → Env → Func → VM0) fe2 q e E fn
def fnEnd (E : Env) (fn : Func) (r : Ex × T Value × Mem) : VM0 := @Prod.rec Ex (T Value × Mem) (fun _ => Env → Func → VM0) fe3 r E fn
abbrev QF := Func → List Value → Mem → Env → CallF → Nat → VM0
def fb0 : QF := fun _ _ _ _ _ _ => []
def fbT (c : Code) : QF := fun fn args m E call fuel => bindF (evCodeF E call false fn.ntmps fuel (compC E fn.ntmps c) (T.ofList args) m) (fnEnd E fn)
def fbF (_ : Code) : QF := fb0
def fb1 (c : Code) : QF := fun fn args m E call fuel => @Bool.rec (fun _ => Code → QF) fbF fbT (Nat.ble args.length fn.ntmps) c fn args m E call fuel
def ff0 (_ : List Value) (_ : Mem) (_ : Env) (_ : CallF) (_ : Nat) : VM0 := []
def ff1 (fn : Func) (args : List Value) (m : Mem) (E : Env) (call : CallF) (fuel : Nat) : VM0 := @Option.rec Code (fun _ => QF) fb0 fb1 fn.body fn args m E call fuel
def evFnF (E : Env) (call : CallF) (fuel : Nat) (f : FuncId) (args : List Value) (m : Mem) : VM0 := @Option.rec Func (fun _ => List Value → Mem → Env → CallF → Nat → VM0) ff0 ff1 (E.funcs.getP (posOf f)) args m E call fuel
theorem evFnF_eq (E : Env) (call : CallF) (fuel : Nat) (f : FuncId) (args : List Value) (m : Mem) : evFnF E call fuel f args m = evFn E call fuel f args m := by
  unfold evFnF evFn
  rw [T.getP_of]
  cases E.funcs.get f with
  | none => rfl
  | some fn =>
    show @Option.rec Code (fun _ => QF) fb0 fb1 fn.body fn args m E call fuel = _
    cases hb : fn.body with
    | none => simp only [hb]; rfl
    | some c =>
      simp only [hb]
      show @Bool.rec (fun _ => Code → QF) fbF fbT (Nat.ble args.length fn.ntmps) c fn args m E call fuel = _
      cases hl : Nat.ble args.length fn.ntmps with
      | false => rfl
      | true =>
        show bindF (evCodeF E call false fn.ntmps fuel (compC E fn.ntmps c) (T.ofList args) m) (fnEnd E fn) = _
        rw [bindF_eq, evCodeF_eq]
        congr 1
        funext r
        obtain ⟨e, t, m⟩ := r
        cases e with
        | exit i => rfl
        | normal =>
          show @Option.rec (List Value) (fun _ => Mem → VM0) fe0 fe1 (resultsA E t m fn.results.toList) m = (match resultsA E t m fn.results.toList with | some l => [(tupled l, m)] | none => [])
          cases resultsA E t m fn.results.toList <;> rfl
        | ret =>
          show @Option.rec (List Value) (fun _ => Mem → VM0) fe0 fe1 (resultsA E t m fn.results.toList) m = (match resultsA E t m fn.results.toList with | some l => [(tupled l, m)] | none => [])
          cases resultsA E t m fn.results.toList <;> rfl
def evYieldF (E : Env) (call : CallF) (fuel i : Nat) (args : List Value) (m : Mem) : List (Value × Mem) :=
  match m.t.getP (posOf i) with
  | some (.loop t N ps assign body) => match Nat.beq args.length ps.size with
    | true => bindF (evCodeF E call true N fuel (compC E N assign) (setTs N t ps.toList args) m) (roundMid (evCodeF E call true N fuel (compC E N body)) i)
    | false => []
  | _ => []
theorem evYieldF_eq (E : Env) (call : CallF) (fuel i : Nat) (args : List Value) (m : Mem) : evYieldF E call fuel i args m = evYield E call fuel i args m := by
  unfold evYieldF evYield
  rw [T.getP_of]
  cases m.t.get i with
  | none => rfl
  | some o =>
    cases o with
    | loop t N ps as bd =>
      have he : evCodeF E call true N fuel (compC E N bd) = evCode E call true N fuel bd := funext fun t => funext fun m => evCodeF_eq E call true N fuel bd t m
      show (match Nat.beq args.length ps.size with | true => bindF (evCodeF E call true N fuel (compC E N as) (setTs N t ps.toList args) m) (roundMid (evCodeF E call true N fuel (compC E N bd)) i) | false => []) = (match Nat.beq args.length ps.size with | true => bindL (evCode E call true N fuel as (setTs N t ps.toList args) m) (roundMid (evCode E call true N fuel bd) i) | false => [])
      rw [bindF_eq, evCodeF_eq, he]
    | _ => rfl
abbrev VM := List (Value × Mem)
def sm0 (f : FuncId) (args : List Value) (m : Mem) (E : Env) (fuel : Nat) (ih : CallF) : VM := evFnF E ih fuel f args m
def sm1 (l : VM) (_ : FuncId) (_ : List Value) (_ : Mem) (_ : Env) (_ : Nat) (_ : CallF) : VM := l
def tgF (f : FuncId) (args : List Value) (m : Mem) (E : Env) (S : Sums) (fuel : Nat) (ih : CallF) : VM := @Option.rec VM (fun _ => FuncId → List Value → Mem → Env → Nat → CallF → VM) sm0 sm1 (S f args m) f args m E fuel ih
def tgY (i : Nat) (args : List Value) (m : Mem) (E : Env) (_ : Sums) (fuel : Nat) (ih : CallF) : VM := evYieldF E ih fuel i args m
def ec0 (_ : Env) (_ : Sums) (_ : Nat) (_ : Tgt) (_ : List Value) (_ : Mem) : VM := []
def ecS (_ : Nat) (ih : Env → Sums → Nat → CallF) (E : Env) (S : Sums) (fuel : Nat) (g : Tgt) (args : List Value) (m : Mem) : VM := @Tgt.rec (fun _ => List Value → Mem → Env → Sums → Nat → CallF → VM) tgF tgY g args m E S fuel (ih E S fuel)
def evCallF (E : Env) (S : Sums) (fuel d : Nat) : CallF := @Nat.rec (fun _ => Env → Sums → Nat → CallF) ec0 ecS d E S fuel
theorem evCallF_eq (E : Env) (S : Sums) (fuel : Nat) : ∀ d, evCallF E S fuel d = evCall E S fuel d := by
  intro d
  induction d with
  | zero => funext g args m; rfl
  | succ d ih =>
    funext g args m
    cases g with
    | fn f =>
      show @Option.rec VM (fun _ => FuncId → List Value → Mem → Env → Nat → CallF → VM) sm0 sm1 (S f args m) f args m E fuel (evCallF E S fuel d) = _
      simp only [evCall]
      rw [ih]
      cases S f args m with
      | none => exact evFnF_eq E _ fuel f args m
      | some l => rfl
    | yld i =>
      show evYieldF E (evCallF E S fuel d) fuel i args m = _
      rw [ih, evYieldF_eq]
      rfl
/-! ### an environment whose entries are laid out where they are asked for -/
namespace T
variable {α : Type}
def singleO (v : Option α) (p : Pos) : T α := Pos.rec (.node v .nil .nil) (fun _ ih => .node none ih .nil) (fun _ ih => .node none .nil ih) p
def setO (t : T α) : Pos → Option α → T α :=
  T.rec (fun p v => singleO v p) (fun x l r ihl ihr p v => Pos.rec (.node v l r) (fun q _ => .node x (ihl q v) r) (fun q _ => .node x l (ihr q v)) p) t
theorem posOf_inj_aux : ∀ (f g a b : Nat), a ≤ f → b ≤ g → posF f a = posF g b → a = b := by
  intro f
  induction f with
  | zero =>
    intro g a b ha hb h
    obtain rfl : a = 0 := by omega
    cases b with
    | zero => rfl
    | succ m =>
      obtain ⟨g, rfl⟩ : ∃ g', g = g' + 1 := ⟨g - 1, by omega⟩
      rw [posF_zero, posF_succ] at h
      cases hq : Nat.beq (Nat.mod m 2) 0 <;> rw [hq] at h <;> cases h
  | succ f ih =>
    intro g a b ha hb h
    cases a with
    | zero =>
      cases b with
      | zero => rfl
      | succ m =>
        obtain ⟨g, rfl⟩ : ∃ g', g = g' + 1 := ⟨g - 1, by omega⟩
        rw [posF_zero, posF_succ] at h
        cases hq : Nat.beq (Nat.mod m 2) 0 <;> rw [hq] at h <;> cases h
    | succ k =>
      cases b with
      | zero =>
        rw [posF_zero, posF_succ] at h
        cases hq : Nat.beq (Nat.mod k 2) 0 <;> rw [hq] at h <;> cases h
      | succ m =>
        obtain ⟨g, rfl⟩ : ∃ g', g = g' + 1 := ⟨g - 1, by omega⟩
        rw [posF_succ, posF_succ] at h
        cases hq : Nat.beq (Nat.mod k 2) 0 <;> cases hr : Nat.beq (Nat.mod m 2) 0 <;> rw [hq, hr] at h <;> first | (cases h; done) | skip
        · have h2 := ih g _ _ (half_le ha) (half_le hb) (Pos.o.inj h)
          rw [half_inj hq hr h2]
        · have h2 := ih g _ _ (half_le ha) (half_le hb) (Pos.z.inj h)
          rw [half_inj hq hr h2]
theorem getP_singleO (v : Option α) : ∀ (p q : Pos) (x : α), (singleO v p).getP q = some x → p = q ∧ v = some x := by
  intro p
  induction p with
  | e => intro q x h; cases q <;> first | exact ⟨rfl, h⟩ | (cases h; done)
  | z p ih => intro q x h; cases q with
    | z q => obtain ⟨h1, h2⟩ := ih q x h; exact ⟨congrArg _ h1, h2⟩
    | e => cases h
    | o q => cases h
  | o p ih => intro q x h; cases q with
    | o q => obtain ⟨h1, h2⟩ := ih q x h; exact ⟨congrArg _ h1, h2⟩
    | e => cases h
    | z q => cases h
theorem getP_setO : ∀ (t : T α) (v : Option α) (p q : Pos) (x : α), (t.setO p v).getP q = some x → (p = q ∧ v = some x) ∨ t.getP q = some x := by
  intro t
  induction t with
  | nil => intro v p q x h; exact .inl (getP_singleO v p q x h)
  | node y l r ihl ihr =>
    intro v p q x h
    cases p with
    | e => cases q with
      | e => exact .inl ⟨rfl, h⟩
      | _ => exact .inr h
    | z p => cases q with
      | z q => rcases ihl v p q x h with ⟨h1, h2⟩ | h1
               · exact .inl ⟨congrArg _ h1, h2⟩
               · exact .inr h1
      | _ => exact .inr h
    | o p => cases q with
      | o q => rcases ihr v p q x h with ⟨h1, h2⟩ | h1
               · exact .inl ⟨congrArg _ h1, h2⟩
               · exact .inr h1
      | _ => exact .inr h
end T
def fillO {α : Type} (f : Nat → Option α) (n : Nat) : T α := Nat.rec .nil (fun i t => forceN i fun i => t.setO (posOf i) (f i)) n
theorem fillO_inv {α : Type} (f : Nat → Option α) : ∀ n j x, (fillO f n).get j = some x → f j = some x := by
  intro n
  induction n with
  | zero => intro j x h; rw [show fillO f 0 = .nil from rfl, T.get_nil] at h; cases h
  | succ n ih =>
    intro j x h
    have e : fillO f (n + 1) = (fillO f n).setO (posOf n) (f n) := forceN_eq n fun i => (fillO f n).setO (posOf i) (f i)
    rw [e, ← T.getP_of] at h
    rcases T.getP_setO _ _ _ _ _ h with ⟨h1, h2⟩ | h1
    · have : n = j := T.posOf_inj_aux n j n j (Nat.le_refl _) (Nat.le_refl _) h1
      rw [← this]; exact h2
    · exact ih j x (by rw [← T.getP_of]; exact h1)
def mkEnvL (P : Program) : Env := ⟨P, fillO (mkTI P) P.types.size, fillO (mkFn P) P.funcs.size, fillO (mkExt P) P.funcs.size⟩
theorem mkEnvL_ok (P : Program) : EOK (mkEnvL P) P where
  prog := rfl
  types := fun t ti h => by
    have h1 : mkTI P t = some ti := fillO_inv (mkTI P) _ t ti h
    unfold mkTI at h1
    split at h1
    · rename_i i d hi hd
      split at h1
      · rename_i z hz
        split at h1
        · rename_i a1 a2 a3
          cases h1
          have e1 := Nat.eq_of_beq_eq_true a1
          refine ⟨hd, i, z, hi, rfl, rfl, hz, rfl, e1, allSimple_spec a2, fun hg => ?_, fun hg => ?_⟩
          · simp only at hg
            cases z with
            | agg vs => simp only at a3; rw [a3] at hg; cases hg
            | _ => simp only [Value.cells]
          · simp only at hg
            cases z with
            | agg vs => simp [Value.cells]
            | _ => simp only at a3; rw [hg] at a3; cases a3
        · cases h1
      · cases h1
    · cases h1
  funcs := fun f fn h => by
    have h1 : mkFn P f = some fn := fillO_inv (mkFn P) _ f fn h
    unfold mkFn at h1
    split at h1
    · rename_i fn' hf
      split at h1
      · rename_i c hc hn
        cases h1
        exact ⟨hf, hn, c, hc⟩
      · cases h1
    · cases h1
  exts := fun f x h => by
    have h1 : mkExt P f = some x := fillO_inv (mkExt P) _ f x h
    unfold mkExt at h1
    split at h1
    · rename_i fn hf
      split at h1
      · rename_i hb hx hn
        exact ⟨fn, hf, hn, hb, by simpa using hx, extNamed_find h1⟩
      · cases h1
    · cases h1
/-- what an evaluation from nothing says of every world -/
theorem ae_fast_with {P : Program} (hP : P.follows .mixedOrders = true) {S : Sums} {fuel d : Nat} {f : FuncId} {args : List Value} {args' : Array Value} (hargs : VRL (fun _ => none) args args'.toList) (h : isTrue (evCallF (mkEnvL P) S fuel d (.fn f) args ⟨0, .nil⟩) = true) (w : World) (hS : SOK (mkEnvL P) P w S) :
    Calls P f args' w fun e w' => e = .returned (.bool true) ∧ Below w.heap.size w w' := by
  rw [evCallF_eq] at h
  have hne : evCall (mkEnvL P) S fuel d (.fn f) args ⟨0, .nil⟩ ≠ [] := fun e => by rw [e] at h; cases h
  refine ((evCall_ok (w0 := w) (mkEnvL_ok P) hP hS fuel d).fn f args ⟨0, .nil⟩ hne _ w args' hargs (MR.start _ w)).mono ?_
  rintro e w' ⟨r, hr, σ', v', rfl, hf, hv, hm⟩
  have ht : r.1 = .bool true := by
    cases hl : evCall (mkEnvL P) S fuel d (.fn f) args ⟨0, .nil⟩ with
    | nil => exact absurd hl hne
    | cons x l => rw [hl] at h hr; exact allTrue_spec h r hr
  rw [ht] at hv
  exact ⟨congrArg _ (hv.simple_inv rfl), hm.below⟩
theorem ae_fast {P : Program} (hP : P.follows .mixedOrders = true) {fuel d : Nat} {f : FuncId} {args : List Value} {args' : Array Value} (hargs : VRL (fun _ => none) args args'.toList) (h : isTrue (evCallF (mkEnvL P) noSums fuel d (.fn f) args ⟨0, .nil⟩) = true) (w : World) :
    Calls P f args' w fun e w' => e = .returned (.bool true) ∧ Below w.heap.size w w' := ae_fast_with hP hargs h w (noSums_ok _ _ _)
end
end Go.AE
