/- The document's Unstick over a tape runs its tree. -/
import Derived.Test.YtlaogoehmndcjaaGreatDoorTpG
import Derived.Test.YtlaogoehmndcjaaGreatDoorTpH
import Derived.Test.YtlaogoehmndcjaaGreatDoorTpI
import Derived.Test.YtlaogoehmndcjaaGreatDoorTpJ
import Derived.Test.YtlaogoehmndcjaaGreatDoorTpK
set_option linter.unusedVariables false
namespace Go.Proofs.YtlaogoehmndcjaaGreatDoor.Sy
open Go Go.RowKit Go.Lib Go.Base Go.Pr Go.Proofs.YtlaogoehmndcjaaGreatDoor.Ba
theorem left_done {A O : Type} (o : O) : ∀ l : List A, (Pr.done o : Pr A O).left l = l
  | [] => rfl
  | _ :: _ => rfl
section
variable {args : Array Value} {w : World} {tb : Nat} {ga : Option Addr} {cap : Nat} {L l0 l1 : List Tld} {a b : Nat} {Q : Pr Tld UO} {x y : Int}
theorem uns_done (hr : Q.run l0 = .done (x, y)) (hlf : Q.left l0 = l1) (hd : L.drop b = l1) (hb : b ≤ L.length) (ev : Int) (hev : ev ≠ 10)
    (c : Calls Tryz.prog 41 args w fun e w' => e = .returned (.tuple #[.int .i64 x, .int .i64 y, .int .i64 ev]) ∧ TpK w w' tb ga cap L b none) :
    Calls Tryz.prog 41 args w fun e w' => ∃ v, e = .returned v ∧ unsV (Q.run l0) v ∧ TpK w w' tb ga cap L (L.length - (Q.left l0).length) (Q.run l0).want := by
  rw [hr, hlf, drop_len hd hb]
  refine c.mono ?_
  rintro e w' ⟨rfl, hK⟩
  exact ⟨_, rfl, ⟨ev, hev, rfl⟩, hK⟩
theorem uns_ask {A : Acc} {K : Tld → Pr Tld UO} (hr : Q.run l0 = .ask (x, y) A K) (hd : L.drop b = []) (hb : b ≤ L.length)
    (c : Calls Tryz.prog 41 args w fun e w' => e = .returned (.tuple #[.int .i64 x, .int .i64 y, .int .i64 10]) ∧ TpK w w' tb ga cap L b (some A)) :
    Calls Tryz.prog 41 args w fun e w' => ∃ v, e = .returned v ∧ unsV (Q.run l0) v ∧ TpK w w' tb ga cap L (L.length - (Q.left l0).length) (Q.run l0).want := by
  rw [ask_left hr, hr]
  have hd := drop_nil hd
  obtain rfl : b = L.length := by omega
  refine c.mono ?_
  rintro e w' ⟨rfl, hK⟩
  exact ⟨_, rfl, rfl, hK⟩
end
set_option maxRecDepth 1000000 in
theorem unstick_any (base term mtu subs ini ses str : Int) (hl : LogOk base term mtu subs) (hni : -2147483648 ≤ ini ∧ ini < 2147483648) (hns : -2147483648 ≤ ses ∧ ses < 2147483648) (hnt : -2147483648 ≤ str ∧ str < 2147483648) (pos : Int) (w : World) (tb : Nat) (ga : Option Addr) (cap : Nat) (L : List Tld) (a : Nat) (ha : a ≤ L.length) (h : TpS w tb ga cap L a none) :
    Calls Tryz.prog 41 #[.pointer (some ⟨tb, 0, none⟩), .agg #[.int .i64 base, .int .i64 term, .int .i64 mtu, .int .i64 subs, .int .i32 ini, .int .i32 ses, .int .i32 str], .int .i64 pos] w fun e w' => ∃ v, e = .returned v ∧ unsV ((unstickT ⟨base, term, mtu, subs, ini, ses, str⟩ pos).run (L.drop a)) v ∧ TpK w w' tb ga cap L (L.length - ((unstickT ⟨base, term, mtu, subs, ini, ses, str⟩ pos).left (L.drop a)).length) ((unstickT ⟨base, term, mtu, subs, ini, ses, str⟩ pos).run (L.drop a)).want := by
  have hb : 256 ≤ term ∧ term ≤ 8192 ∧ 0 ≤ base ∧ base ≤ 131072 := by obtain ⟨h1, h2⟩ := hl; rcases h1 with h1 | h1 | h1 | h1 | h1 | h1 <;> omega
  obtain ⟨ln, hln⟩ : ∃ ln : LogN, (⟨base, term, mtu, subs, ini, ses, str⟩ : LogN) = ln := ⟨_, rfl⟩
  obtain ⟨T, hT⟩ : ∃ T, unstickT ln pos = T := ⟨_, rfl⟩
  have hlt : ln.term = term := by rw [← hln]
  have hok : ln.ok := by rw [← hln]; exact hl
  by_cases hp0 : pos < 0
  · have e : T = .done (0, 0) := by rw [← hT, unstickT, if_pos (.inr (.inl hp0))]
    rw [hln, hT]
    exact uns_done (by rw [e, Pr.run_done]) (by rw [e, left_done]) rfl ha 1 (by omega) (uns_low base term mtu subs ini ses str hl hni hns hnt pos w tb ga cap L a h hp0)
  by_cases hp1 : pos ≥ term * 2147483648
  · have e : T = .done (0, 0) := by rw [← hT, unstickT, if_pos (.inr (.inr (by rw [hlt]; exact hp1)))]
    rw [hln, hT]
    exact uns_done (by rw [e, Pr.run_done]) (by rw [e, left_done]) rfl ha 1 (by omega) (uns_high base term mtu subs ini ses str hl hni hns hnt pos w tb ga cap L a h ⟨by omega, hp1⟩)
  have hpos : 0 ≤ pos ∧ pos < term * 2147483648 := by omega
  obtain ⟨q, hq⟩ : ∃ q, pos / term = q := ⟨_, rfl⟩
  obtain ⟨off, ho⟩ : ∃ o, pos % term = o := ⟨_, rfl⟩
  obtain ⟨p3, h3⟩ : ∃ o, q % 3 = o := ⟨_, rfl⟩
  obtain ⟨trm, htr⟩ : ∃ o, s32 (ini + q) = o := ⟨_, rfl⟩
  obtain ⟨part, hpa⟩ : ∃ o, base + term * p3 = o := ⟨_, rfl⟩
  obtain ⟨tat, hta⟩ : ∃ o, base + 3 * term + 8 * p3 = o := ⟨_, rfl⟩
  have eT : T = .ask (0, 0) (Base.load tat 8) fun x => if s32 (x.v / 4294967296) ≠ trm ∨ off ≥ min (x.v % 4294967296) term then .done (0, 0) else lookT ⟨ln, part, off, min (x.v % 4294967296) term, q * term + min (x.v % 4294967296) term, trm⟩ := by
    rw [← hT, unstickT, if_neg (by rw [hlt]; intro hh; rcases hh with hh | hh | hh; exact hh hok; exact hp0 hh; exact hp1 hh)]
    subst hq ho h3 htr hpa hta hln
    rfl
  rw [hln, hT]
  rcases hd : L.drop a with _ | ⟨x, m⟩
  · exact uns_ask (A := Base.load tat 8) (by rw [eT]; rfl) hd ha (uns_n1 base term mtu subs ini ses str hl hni hns hnt pos q off p3 trm part tat hq ho h3 htr hpa hta w tb ga cap L a h hpos hd)
  obtain ⟨-, hla, hd1⟩ := drop_cons hd
  obtain ⟨xv, hxv⟩ : ∃ o, x.v = o := ⟨_, rfl⟩
  obtain ⟨sv, hsv⟩ : ∃ o, s32 (xv / 4294967296) = o := ⟨_, rfl⟩
  obtain ⟨tl, htl⟩ : ∃ o, xv % 4294967296 = o := ⟨_, rfl⟩
  obtain ⟨fin, hfin⟩ : ∃ o, min tl term = o := ⟨_, rfl⟩
  obtain ⟨to, hto⟩ : ∃ o, q * term + fin = o := ⟨_, rfl⟩
  have a1 : at2 T (x :: m) (if sv ≠ trm ∨ off ≥ fin then .done (0, 0) else lookT ⟨ln, part, off, fin, to, trm⟩) m := by
    rw [eT]
    have := at2_ask (at2_refl (.ask (0, 0) (Base.load tat 8) fun x => if s32 (x.v / 4294967296) ≠ trm ∨ off ≥ min (x.v % 4294967296) term then .done (0, 0) else lookT ⟨ln, part, off, min (x.v % 4294967296) term, q * term + min (x.v % 4294967296) term, trm⟩) (x :: m))
    rw [hxv, hsv, htl, hfin, hto] at this
    exact this
  by_cases hne : sv ≠ trm
  · rw [if_pos (.inl hne)] at a1
    exact uns_done (by rw [a1.1, Pr.run_done]) (by rw [a1.2, left_done]) hd1 (by omega) 0 (by omega) (uns_t1 base term mtu subs ini ses str hl hni hns hnt pos q off p3 trm part tat hq ho h3 htr hpa hta w tb ga cap L a h hpos x m hd xv sv tl fin hxv hsv htl hfin hne)
  obtain rfl : sv = trm := by omega
  by_cases hge : off ≥ fin
  · rw [if_pos (.inr hge)] at a1
    exact uns_done (by rw [a1.1, Pr.run_done]) (by rw [a1.2, left_done]) hd1 (by omega) 0 (by omega) (uns_t2 base term mtu subs ini ses str hl hni hns hnt pos q off p3 sv part tat hq ho h3 htr hpa hta w tb ga cap L a h hpos x m hd xv tl fin hxv hsv htl hfin hge)
  rw [if_neg (by rintro (hh | hh); exact hne hh; exact hge hh), lookT] at a1
  have hlf : off < fin := by omega
  dsimp only at a1
  rw [hlt] at a1
  rcases hd2 : L.drop (a + 1) with _ | ⟨y, m2⟩
  · have hm : m = [] := hd1.symm.trans hd2
    subst hm
    exact uns_ask (A := Base.load (part + off) 8) a1.1 hd2 (by omega) (uns_n2 base term mtu subs ini ses str hl hni hns hnt pos q off p3 sv part tat hq ho h3 htr hpa hta w tb ga cap L a h hpos x [] hd xv tl fin hxv hsv htl hfin hlf hd2)
  have hm : m = y :: m2 := hd1.symm.trans hd2
  subst hm
  obtain ⟨-, hla2, hd3⟩ := drop_cons hd2
  obtain ⟨yv, hyv⟩ : ∃ o, y.v = o := ⟨_, rfl⟩
  obtain ⟨len, hlen⟩ : ∃ o, s32 yv = o := ⟨_, rfl⟩
  have a2 := at2_ask a1
  rw [hyv, hlen] at a2
  clear a1
  by_cases hgt : len > 0
  · rw [if_pos (.inl hgt)] at a2
    exact uns_done (by rw [a2.1, Pr.run_done]) (by rw [a2.2, left_done]) hd3 (by omega) 0 (by omega) (uns_l1 base term mtu subs ini ses str hl hni hns hnt pos q off p3 sv part tat hq ho h3 htr hpa hta w tb ga cap L a h hpos x _ hd xv tl fin hxv hsv htl hfin hlf y m2 hd2 yv len hyv hlen hgt)
  by_cases hle : len < off - term
  · rw [if_pos (.inr hle)] at a2
    exact uns_done (by rw [a2.1, Pr.run_done]) (by rw [a2.2, left_done]) hd3 (by omega) 0 (by omega) (uns_l2 base term mtu subs ini ses str hl hni hns hnt pos q off p3 sv part tat hq ho h3 htr hpa hta w tb ga cap L a h hpos x _ hd xv tl fin hxv hsv htl hfin hlf y m2 hd2 yv len hyv hlen hle)
  rw [if_neg (by rintro (hh | hh); exact hgt hh; exact hle hh)] at a2
  by_cases hneg : len < 0
  · rw [if_pos hneg] at a2
    subst hln
    exact uns_s1 base term mtu subs ini ses str hl hni hns hnt pos q off p3 sv part tat hq ho h3 htr hpa hta w tb ga cap L a h hpos x _ hd xv tl fin hxv hsv htl hfin hlf y m2 hd2 yv len hyv hlen hneg (by omega) _ to rfl T (x :: y :: m2) m2 hto ⟨by omega, by omega, hd3, a2⟩
  rw [if_neg hneg] at a2
  obtain rfl : len = 0 := by omega
  have hfin1 : fin ≤ term := by omega
  have ho1 : 0 ≤ off := by rw [← ho]; exact Int.emod_nonneg _ (by omega)
  have hpa1 : 0 ≤ part ∧ part ≤ 200000 := by
    have : p3 = 0 ∨ p3 = 1 ∨ p3 = 2 := by omega
    rcases this with h | h | h <;> subst h <;> omega
  rw [aheadT_bind _ hlf _ _ (by show off < off + 32; omega)] at a2
  have cf := fun W hW => find_any ⟨ln, part, off, fin, to, sv⟩ ⟨hpa1.1, by show part ≤ _; omega⟩ ⟨ho1, by show off ≤ _; omega⟩ ⟨hlf, by show fin ≤ _; omega⟩ W tb ga cap L (a + 1 + 1) (by omega) hW
  rw [hd3] at cf
  dsimp only at cf
  obtain ⟨F, hF⟩ : ∃ F, aheadF ⟨ln, part, off, fin, to, sv⟩ 300 (off + 32) = F := ⟨_, rfl⟩
  have hbd := fun n hn => aheadF_bd ⟨ln, part, off, fin, to, sv⟩ hlf 300 (off + 32) m2 n (by show off < off + 32; omega) hn
  rw [hF] at cf a2 hbd
  rcases hFr : F.run m2 with n | ⟨o, A, K⟩
  · obtain ⟨b1, b2⟩ := bind_done (f := fun _ => (0, to)) (g := afterF ⟨ln, part, off, fin, to, sv⟩) hFr
    have hdl := left_at (p := F) hd3
    have hbl : L.length - (F.left m2).length ≤ L.length := Nat.sub_le _ _
    rw [hFr] at cf
    by_cases hn : n = 0
    · subst hn
      rw [afterF, if_pos rfl] at b1 b2
      exact uns_done (by rw [a2.1, b1, Pr.run_done]) (by rw [a2.2, b2, left_done]) hdl hbl 0 (by omega) (uns_f2 base term mtu subs ini ses str hl hni hns hnt pos q off p3 sv part tat hq ho h3 htr hpa hta w tb ga cap L a h hpos x _ hd xv tl fin hxv hsv htl hfin hlf y m2 hd2 yv hyv hlen to hto _ _ cf)
    · rw [afterF, if_neg hn] at b1 b2
      have hb3 := hbd n hFr
      dsimp only at hb3
      subst hln
      exact uns_f3 base term mtu subs ini ses str hl hni hns hnt pos q off p3 sv part tat hq ho h3 htr hpa hta w tb ga cap L a h hpos x _ hd xv tl fin hxv hsv htl hfin hlf y m2 hd2 yv hyv hlen n to ⟨by omega, by omega⟩ _ cf T (x :: y :: m2) _ hto ⟨hbl, hbl, hdl, by rw [a2.1, b1], by rw [a2.2, b2]⟩
  · obtain ⟨⟨K', b1⟩, b2⟩ := bind_ask (f := fun _ => (0, to)) (g := afterF ⟨ln, part, off, fin, to, sv⟩) hFr
    have hdl := left_at (p := F) hd3
    have hbl : L.length - (F.left m2).length ≤ L.length := Nat.sub_le _ _
    rw [ask_left hFr] at hdl hbl
    rw [hFr, ask_left hFr] at cf
    exact uns_ask (A := A) (a2.1.trans b1) hdl hbl (uns_f1 base term mtu subs ini ses str hl hni hns hnt pos q off p3 sv part tat hq ho h3 htr hpa hta w tb ga cap L a h hpos x _ hd xv tl fin hxv hsv htl hfin hlf y m2 hd2 yv hyv hlen to hto _ _ cf)
end Go.Proofs.YtlaogoehmndcjaaGreatDoor.Sy
