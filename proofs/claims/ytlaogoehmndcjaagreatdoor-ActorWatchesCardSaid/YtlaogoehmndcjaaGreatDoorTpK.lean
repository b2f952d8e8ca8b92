/- The document's Unstick, path by path: what it stores where nothing was begun. -/
import Derived.Test.YtlaogoehmndcjaaGreatDoorTpF
set_option linter.unusedVariables false
namespace Go.Proofs.YtlaogoehmndcjaaGreatDoor.Sy
open Go Go.RowKit Go.Lib Go.Base Go.Pr Go.Proofs.YtlaogoehmndcjaaGreatDoor.Ba
set_option maxRecDepth 1000000 in
set_option maxHeartbeats 3200000 in
theorem uns_f3 (base term mtu subs ini ses str : Int) (hl : LogOk base term mtu subs) (hni : -2147483648 ≤ ini ∧ ini < 2147483648) (hns : -2147483648 ≤ ses ∧ ses < 2147483648) (hnt : -2147483648 ≤ str ∧ str < 2147483648) (pos : Int) (q off p3 trm part tat : Int) (hq : pos / term = q) (ho : pos % term = off) (h3 : q % 3 = p3) (htr : s32 (ini + q) = trm) (hpa : base + term * p3 = part) (hta : base + 3 * term + 8 * p3 = tat) (w : World) (tb : Nat) (ga : Option Addr) (cap : Nat) (L : List Tld) (a : Nat) (h : TpS w tb ga cap L a none) (hpos : 0 ≤ pos ∧ pos < term * 2147483648) (x : Tld) (m : List Tld) (hd : L.drop a = x :: m) (xv tl fin : Int) (hxv : x.v = xv) (hsv : s32 (xv / 4294967296) = trm) (htl : xv % 4294967296 = tl) (hfin : min tl term = fin) (hlt : off < fin) (y : Tld) (m2 : List Tld) (hd2 : L.drop (a + 1) = y :: m2) (yv : Int) (hyv : y.v = yv) (hlen : s32 yv = 0) (nn to : Int) (hn0 : 0 < nn ∧ nn ≤ 10000) (bb : Nat) (c74 : ∀ W, TpS W tb ga cap L (a + 1 + 1) none → Calls Tryz.prog 74 #[.pointer (some ⟨tb, 0, none⟩), .int .i64 part, .int .i64 off, .int .i64 fin] W fun e w' => e = .returned (.tuple #[.int .i64 nn, .bool true]) ∧ TpK W w' tb ga cap L bb none) (QQ : Pr Tld UO) (l0 l1 : List Tld) (hto : q * term + fin = to) (hA : bb ≤ L.length ∧ bb ≤ L.length ∧ L.drop bb = l1 ∧ at2 QQ l0 (padT ⟨⟨base, term, mtu, subs, ini, ses, str⟩, part, off, fin, to, trm⟩ nn) l1) : Calls Tryz.prog 41 #[.pointer (some ⟨tb, 0, none⟩), .agg #[.int .i64 base, .int .i64 term, .int .i64 mtu, .int .i64 subs, .int .i32 ini, .int .i32 ses, .int .i32 str], .int .i64 pos] w fun e w' => ∃ v, e = .returned v ∧ unsV (QQ.run l0) v ∧ TpK w w' tb ga cap L (L.length - (QQ.left l0).length) (QQ.run l0).want := by
  have hb : 256 ≤ term ∧ term ≤ 8192 ∧ 0 ≤ base ∧ base ≤ 131072 := by obtain ⟨h1, h2⟩ := hl; rcases h1 with h1 | h1 | h1 | h1 | h1 | h1 <;> omega
  have hb2 : 0 ≤ mtu ∧ mtu ≤ 100000 ∧ 0 ≤ subs ∧ subs ≤ 8 := by obtain ⟨h1, h2⟩ := hl; omega
  have c38 := fun W => rightR_any ⟨base, term, mtu, subs, ini, ses, str⟩ ⟨by show _ ≤ base; omega, by show base ≤ _; omega, by show _ ≤ term; omega, by show term ≤ _; omega, by show _ ≤ mtu; omega, by show mtu ≤ _; omega, by show _ ≤ subs; omega, by show subs ≤ _; omega⟩ W
  have c67 := fun W => maxPosR term hl.1 W
  unfold Lg.val at c38
  dsimp only at c38
  rw [decide_eq_true (show Lg.ok ⟨base, term, mtu, subs, ini, ses, str⟩ from hl)] at c38
  obtain ⟨hq1, ho1, h31, hpos2, hpa1, hta1, htr1, c68, c69, c70, r1, r2, r1', r2', r3, r4, r5, r6, r7, r8, r9, r10⟩ := uns_nums base term mtu subs ini ses str hl hni pos hpos q off p3 trm part tat hq ho h3 htr hpa hta
  have c39 : ∀ W, TpS W tb ga cap L a none → _ := fun W hW => load_cons tat 8 hW hd
  have hxb := (h.row a x (drop_cons hd).1).1
  rw [hxv] at c39 hxb
  have c71 := fun W => unpackR xv hxb W
  rw [hsv, htl] at c71
  have htl1 : 0 ≤ tl ∧ tl < 4294967296 := by omega
  have hmin : (if term < tl then term else tl) = fin := by rw [← hfin]; split <;> omega
  have hfin1 : 0 ≤ fin ∧ fin ≤ term := by omega
  have w1 : IntKind.i64.wrap tl = tl := by rw [IntKind.wrap_i64]; omega
  have w2 : IntKind.i64.wrap fin = fin := by rw [IntKind.wrap_i64]; omega
  clear hxv hd hsv htl hfin hxb
  have c39b : ∀ W, TpS W tb ga cap L (a + 1) none → _ := fun W hW => load_cons (part + off) 8 hW hd2
  have hyb := (h.row (a + 1) y (drop_cons hd2).1).1
  rw [hyv] at c39b hyb
  have hge : ¬ off ≥ fin := by omega
  have c72 := fun W => frameR yv hyb W
  rw [show s32 (yv % 4294967296) = 0 by rw [← hlen]; unfold s32; omega] at c72
  have hlen1 : -2147483648 ≤ 0 ∧ 0 < 2147483648 := by rw [← hlen]; unfold s32; omega
  obtain ⟨g1, hg1⟩ : ∃ g, yv / 4294967296 % 256 = g := ⟨_, rfl⟩
  obtain ⟨g2, hg2⟩ : ∃ g, yv / 1099511627776 % 256 = g := ⟨_, rfl⟩
  obtain ⟨g3, hg3⟩ : ∃ g, yv / 281474976710656 = g := ⟨_, rfl⟩
  rw [hg1, hg2, hg3] at c72
  have w3 : IntKind.i64.wrap 0 = 0 := by rw [IntKind.wrap_i64]; omega
  have w4 : IntKind.i64.wrap (off - term) = off - term := by rw [IntKind.wrap_i64]; omega
  have hfd : ∀ W : World, Sem.run Tryz.prog (Instr.field 160 (.agg #[.int .i32 0, .int .u8 g1, .int .u8 g2, .int .u16 g3, .int .i32 0, .int .i32 0, .int .i32 0, .int .i32 0, .int .u64 0]) 0) W = .ok (.int .i32 0) W := fun W => by kernel_rfl
  clear hyv hd2 hlen hg1 hg2 hg3 hyb
  have c73 := fun W => alignR32 0 (by omega) W
  rw [show ((0 : Int) + 31) / 32 * 32 = 0 by omega] at c73
  have c75 := fun W => wordsU nn off ses str trm (by omega) (by omega) hns hnt htr1 W
  have w6 : IntKind.i32.wrap nn = nn := by rw [IntKind.wrap_i32]; omega
  have w7 : IntKind.i32.wrap off = off := by rw [IntKind.wrap_i32]; omega
  have w8 : IntKind.i64.wrap (q * term) = q * term := by
    have : q * term ≤ 2147483648 * 8192 := Int.mul_le_mul (by omega) (by omega) (by omega) (by omega)
    have : 0 ≤ q * term := Int.mul_nonneg (by omega) (by omega)
    rw [IntKind.wrap_i64]; omega
  have w9 : IntKind.i64.wrap (q * term + fin) = q * term + fin := by
    have : q * term ≤ 2147483648 * 8192 := Int.mul_le_mul (by omega) (by omega) (by omega) (by omega)
    have : 0 ≤ q * term := Int.mul_nonneg (by omega) (by omega)
    rw [IntKind.wrap_i64]; omega
  have HA := Lib.hid hA
  rw [hto] at w9
  obtain ⟨A1, hA1⟩ : ∃ A, u32 nn = A := ⟨_, rfl⟩
  obtain ⟨A2, hA2⟩ : ∃ A, u32 off + 4294967296 * u32 ses = A := ⟨_, rfl⟩
  obtain ⟨A3, hA3⟩ : ∃ A, u32 str + 4294967296 * u32 trm = A := ⟨_, rfl⟩
  rw [hA1, hA2, hA3] at c75
  clear hA
  have hle2 : ¬ (0 : Int) > 0 := by omega
  have hle3 : ¬ (0 : Int) < off - term := by omega
  have hnz : ¬ nn = 0 := by omega
  obtain ⟨X, hX⟩ : ∃ X, w.heap.size = X := ⟨_, rfl⟩
  obtain ⟨W1, hW1⟩ : ∃ W1, w.alloc (.cells #[.int .i64 base, .int .i64 term, .int .i64 mtu, .int .i64 subs, .int .i32 ini, .int .i32 ses, .int .i32 str] 23) = W1 := ⟨_, rfl⟩
  have HX := Lib.hid (hW1 ▸ UB.new (base := base) (term := term) (mtu := mtu) (subs := subs) (ini := ini) (ses := ses) (str := str) h hX)
  obtain ⟨m0, m1, m2, m3, m4, m5, m6⟩ := HX.out.cells
  have hs1 : W1.heap.size = X + 1 := by rw [← hW1, ← hX]; simp
  clear hl h hq ho h3 htr hpa hta
  go_enter Tryz.func41, Tryz.ntmps41
  go_wp2_with (first | (go_at_call 38; refine (c38 _).mono ?_; clear c38; rintro e v38 ⟨rfl, hB⟩; replace HX := Lib.hid (HX.out.below hB); clear hB; clear m0 m1 m2 m3 m4 m5 m6; obtain ⟨m0, m1, m2, m3, m4, m5, m6⟩ := HX.out.cells) | (go_at_call 67; refine (c67 _).mono ?_; clear c67; rintro e v67 ⟨rfl, hw⟩; subst v67))
  go_quiet (fail)
  replace HX := Lib.hid (HX.out.drew nq)
  clear m0 m1 m2 m3 m4 m5 m6
  obtain ⟨m0, m1, m2, m3, m4, m5, m6⟩ := HX.out.cells
  obtain ⟨V, hV⟩ : ∃ V, v38.drewN nq = V := ⟨_, rfl⟩
  rw [hV] at HX m0 m1 m2 m3 m4 m5 m6 ⊢
  go_wp2_with (first | (go_at_call 69; refine (c69 _).mono ?_; clear c69; rintro e v69 ⟨rfl, hB⟩; replace HX := Lib.hid (HX.out.below hB); clear hB; clear m0 m1 m2 m3 m4 m5 m6; obtain ⟨m0, m1, m2, m3, m4, m5, m6⟩ := HX.out.cells) | (go_at_call 70; refine (c70 _).mono ?_; clear c70; rintro e v70 ⟨rfl, hB⟩; replace HX := Lib.hid (HX.out.below hB); clear hB; clear m0 m1 m2 m3 m4 m5 m6; obtain ⟨m0, m1, m2, m3, m4, m5, m6⟩ := HX.out.cells) | (go_at_call 68; refine (c68 _).mono ?_; clear c68; rintro e v68 ⟨rfl, hw⟩; subst v68) | (go_at_call 39; refine (c39 _ HX.out.tp.1).mono ?_; clear c39; rintro e vc39 ⟨rfl, hK⟩; replace HX := Lib.hid (HX.out.step hK); clear hK; clear m0 m1 m2 m3 m4 m5 m6; obtain ⟨m0, m1, m2, m3, m4, m5, m6⟩ := HX.out.cells) | (go_at_call 71; refine (c71 _).mono ?_; clear c71; rintro e v71 ⟨rfl, hw⟩; subst v71) | (go_at_call 39; refine (c39b _ HX.out.tp.1).mono ?_; clear c39b; rintro e vc39b ⟨rfl, hK⟩; replace HX := Lib.hid (HX.out.step hK); clear hK; clear m0 m1 m2 m3 m4 m5 m6; obtain ⟨m0, m1, m2, m3, m4, m5, m6⟩ := HX.out.cells) | (go_at_call 72; refine (c72 _).mono ?_; clear c72; rintro e v72 ⟨rfl, hB⟩; replace HX := Lib.hid (HX.out.below hB); clear hB; clear m0 m1 m2 m3 m4 m5 m6; obtain ⟨m0, m1, m2, m3, m4, m5, m6⟩ := HX.out.cells) | (go_at_call 73; refine (c73 _).mono ?_; clear c73; rintro e v73 ⟨rfl, hw⟩; subst v73) | (go_at_call 74; refine (c74 _ HX.out.tp.1).mono ?_; clear c74; rintro e vc74 ⟨rfl, hK⟩; replace HX := Lib.hid (HX.out.step hK); clear hK; clear m0 m1 m2 m3 m4 m5 m6; obtain ⟨m0, m1, m2, m3, m4, m5, m6⟩ := HX.out.cells) | (go_at_call 75; refine (c75 _).mono ?_; clear c75; rintro e v75 ⟨rfl, hB⟩; replace HX := Lib.hid (HX.out.below hB); clear hB; clear m0 m1 m2 m3 m4 m5 m6; obtain ⟨m0, m1, m2, m3, m4, m5, m6⟩ := HX.out.cells))
  obtain ⟨Y, hY⟩ : ∃ Y, v75.heap.size = Y := ⟨_, rfl⟩
  obtain ⟨Z, hZ⟩ : ∃ Z, (v75.alloc (.cells #[.int .u64 A1, .int .u64 A2, .int .u64 A3, .int .u64 0] 162)).alloc (.cells #[.int .i64 1, .int .i64 2, .int .i64 3, .int .i64 0] 3) = Z := ⟨_, rfl⟩
  rw [hZ, hY]
  have HL := Lib.hid (hZ ▸ UL.new (A1 := A1) (A2 := A2) (A3 := A3) HX.out hY)
  have z1 : IntKind.i64.wrap (part + off + 8) = part + off + 8 := by rw [IntKind.wrap_i64]; omega
  have z2 : IntKind.i64.wrap (part + off + 16) = part + off + 16 := by rw [IntKind.wrap_i64]; omega
  have z3 : IntKind.i64.wrap (part + off + 24) = part + off + 24 := by rw [IntKind.wrap_i64]; omega
  clear HX hZ hY hW1 hs1 hX m0 m1 m2 m3 m4 m5 m6
  go_loopw [27, 153] (fun _ y wr => ∃ (j b : Nat) (l : List Tld), y = .int .i64 (j : Int) ∧ j ≤ 4 ∧ b ≤ L.length ∧ Hid (UL w wr X Y A1 A2 A3 base term mtu subs ini ses str tb ga cap L b none ∧ L.drop b = l ∧ at2 QQ l0 (padJ ⟨⟨base, term, mtu, subs, ini, ses, str⟩, part, off, fin, to, trm⟩ nn j) l)) (fun _ y _ => (4 - intOf y).toNat)
  case atStart => exact ⟨0, _, _, rfl, by omega, HA.out.2.1, Lib.hid ⟨HL.out, HA.out.2.2.1, HA.out.2.2.2⟩⟩
  case round =>
    obtain ⟨j, b, l, rfl, hj, hbl, H⟩ := hrel
    have hj5 : j = 0 ∨ j = 1 ∨ j = 2 ∨ j = 3 ∨ j = 4 := by omega
    obtain ⟨n0, n1, n2, n3⟩ := blk4 H.out.1.wd
    obtain ⟨n4, n5, n6, n7⟩ := blk4 H.out.1.row
    rcases hj5 with rfl | rfl | rfl | rfl | rfl
    · rcases l with _ | ⟨x1, l⟩
      · have c76 := store_nil (part + off + 8) 8 (A2) H.out.1.ub.tp.1 H.out.2.1
        go_wp2_with (go_at_call 76; refine c76.mono ?_; clear c76; rintro e v76 ⟨rfl, hK⟩; replace H := Lib.hid (And.intro (H.out.1.step hK) H.out.2); clear hK)
        refine bodyPost_ret (v := .tuple #[.int .i64 0, .int .i64 to, .int .i64 10]) (by simp [results, Tryz.results41, go_sem]) rfl ⟨_, rfl, ?_⟩
        have hat := H.out.2.2
        rw [hat.1, hat.2]
        have hd := drop_nil H.out.2.1
        obtain rfl : b = L.length := by omega
        subst hA1 hA2 hA3
        exact ⟨rfl, H.out.1.ub.tp⟩
      · have c76 := store_cons (part + off + 8) 8 (A2) H.out.1.ub.tp.1 H.out.2.1
        obtain ⟨-, hlt2, hdr⟩ := drop_cons H.out.2.1
        have HD := Lib.hid hdr
        clear hdr
        go_wp2_with (go_at_call 76; refine c76.mono ?_; clear c76; rintro e v76 ⟨rfl, hK⟩; replace H := Lib.hid (And.intro (H.out.1.step hK) H.out.2); clear hK)
        go_roundw
        case rel => first | exact ⟨1, b + 1, l, rfl, by omega, by omega, Lib.hid ⟨H.out.1, HD.out, at2_ask H.out.2.2⟩⟩ | exact ⟨_, _, ⟨1, rfl, by omega, b + 1, by omega, l, Lib.hid ⟨H.out.1, HD.out, at2_ask H.out.2.2⟩⟩, rfl, rfl⟩
        case measure => simp [intOf]
    · rcases l with _ | ⟨x1, l⟩
      · have c76 := store_nil (part + off + 16) 8 (A3) H.out.1.ub.tp.1 H.out.2.1
        go_wp2_with (go_at_call 76; refine c76.mono ?_; clear c76; rintro e v76 ⟨rfl, hK⟩; replace H := Lib.hid (And.intro (H.out.1.step hK) H.out.2); clear hK)
        refine bodyPost_ret (v := .tuple #[.int .i64 0, .int .i64 to, .int .i64 10]) (by simp [results, Tryz.results41, go_sem]) rfl ⟨_, rfl, ?_⟩
        have hat := H.out.2.2
        rw [hat.1, hat.2]
        have hd := drop_nil H.out.2.1
        obtain rfl : b = L.length := by omega
        subst hA1 hA2 hA3
        exact ⟨rfl, H.out.1.ub.tp⟩
      · have c76 := store_cons (part + off + 16) 8 (A3) H.out.1.ub.tp.1 H.out.2.1
        obtain ⟨-, hlt2, hdr⟩ := drop_cons H.out.2.1
        have HD := Lib.hid hdr
        clear hdr
        go_wp2_with (go_at_call 76; refine c76.mono ?_; clear c76; rintro e v76 ⟨rfl, hK⟩; replace H := Lib.hid (And.intro (H.out.1.step hK) H.out.2); clear hK)
        go_roundw
        case rel => first | exact ⟨2, b + 1, l, rfl, by omega, by omega, Lib.hid ⟨H.out.1, HD.out, at2_ask H.out.2.2⟩⟩ | exact ⟨_, _, ⟨2, rfl, by omega, b + 1, by omega, l, Lib.hid ⟨H.out.1, HD.out, at2_ask H.out.2.2⟩⟩, rfl, rfl⟩
        case measure => simp [intOf]
    · rcases l with _ | ⟨x1, l⟩
      · have c76 := store_nil (part + off + 24) 8 (0) H.out.1.ub.tp.1 H.out.2.1
        go_wp2_with (go_at_call 76; refine c76.mono ?_; clear c76; rintro e v76 ⟨rfl, hK⟩; replace H := Lib.hid (And.intro (H.out.1.step hK) H.out.2); clear hK)
        refine bodyPost_ret (v := .tuple #[.int .i64 0, .int .i64 to, .int .i64 10]) (by simp [results, Tryz.results41, go_sem]) rfl ⟨_, rfl, ?_⟩
        have hat := H.out.2.2
        rw [hat.1, hat.2]
        have hd := drop_nil H.out.2.1
        obtain rfl : b = L.length := by omega
        subst hA1 hA2 hA3
        exact ⟨rfl, H.out.1.ub.tp⟩
      · have c76 := store_cons (part + off + 24) 8 (0) H.out.1.ub.tp.1 H.out.2.1
        obtain ⟨-, hlt2, hdr⟩ := drop_cons H.out.2.1
        have HD := Lib.hid hdr
        clear hdr
        go_wp2_with (go_at_call 76; refine c76.mono ?_; clear c76; rintro e v76 ⟨rfl, hK⟩; replace H := Lib.hid (And.intro (H.out.1.step hK) H.out.2); clear hK)
        go_roundw
        case rel => first | exact ⟨3, b + 1, l, rfl, by omega, by omega, Lib.hid ⟨H.out.1, HD.out, at2_ask H.out.2.2⟩⟩ | exact ⟨_, _, ⟨3, rfl, by omega, b + 1, by omega, l, Lib.hid ⟨H.out.1, HD.out, at2_ask H.out.2.2⟩⟩, rfl, rfl⟩
        case measure => simp [intOf]
    · rcases l with _ | ⟨x1, l⟩
      · have c76 := store_nil (part + off) 8 (A1) H.out.1.ub.tp.1 H.out.2.1
        go_wp2_with (go_at_call 76; refine c76.mono ?_; clear c76; rintro e v76 ⟨rfl, hK⟩; replace H := Lib.hid (And.intro (H.out.1.step hK) H.out.2); clear hK)
        refine bodyPost_ret (v := .tuple #[.int .i64 0, .int .i64 to, .int .i64 10]) (by simp [results, Tryz.results41, go_sem]) rfl ⟨_, rfl, ?_⟩
        have hat := H.out.2.2
        rw [hat.1, hat.2]
        have hd := drop_nil H.out.2.1
        obtain rfl : b = L.length := by omega
        subst hA1 hA2 hA3
        exact ⟨rfl, H.out.1.ub.tp⟩
      · have c76 := store_cons (part + off) 8 (A1) H.out.1.ub.tp.1 H.out.2.1
        obtain ⟨-, hlt2, hdr⟩ := drop_cons H.out.2.1
        have HD := Lib.hid hdr
        clear hdr
        go_wp2_with (go_at_call 76; refine c76.mono ?_; clear c76; rintro e v76 ⟨rfl, hK⟩; replace H := Lib.hid (And.intro (H.out.1.step hK) H.out.2); clear hK)
        go_roundw
        case rel => first | exact ⟨4, b + 1, l, rfl, by omega, by omega, Lib.hid ⟨H.out.1, HD.out, at2_ask H.out.2.2⟩⟩ | exact ⟨_, _, ⟨4, rfl, by omega, b + 1, by omega, l, Lib.hid ⟨H.out.1, HD.out, at2_ask H.out.2.2⟩⟩, rfl, rfl⟩
        case measure => simp [intOf]
    · go_wp2
      refine bodyPost_ret (v := .tuple #[.int .i64 nn, .int .i64 to, .int .i64 0]) (by simp [results, Tryz.results41, go_sem]) rfl ⟨_, rfl, ?_⟩
      have hat := H.out.2.2
      have e1 : QQ.run l0 = .done (nn, to) := by rw [hat.1]; exact Pr.run_done _ _
      have e2 : QQ.left l0 = l := by rw [hat.2]; cases l <;> rfl
      rw [e1, e2, drop_len H.out.2.1 hbl]
      exact ⟨⟨0, by omega, rfl⟩, H.out.1.ub.tp⟩
end Go.Proofs.YtlaogoehmndcjaaGreatDoor.Sy
