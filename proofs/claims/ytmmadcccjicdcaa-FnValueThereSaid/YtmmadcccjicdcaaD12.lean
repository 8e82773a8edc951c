/- The drawing of forms ends: what the reader says past the code's end does not stay the same. -/
import Derived.Test.YtmmadcccjicdcaaG5c
import Derived.Test.YtmmadcccjicdcaaC4
namespace Go.Proofs.Ytmmadcccjicdcaa.E
set_option linter.unusedVariables false
set_option linter.unusedSimpArgs false
set_option maxRecDepth 100000

/- the checks -/
def run1 (d : Nat) : Nat → Nat → Bool
  | 0, _ => false
  | J + 1, r => !Nat.beq ((r % 8) ^^^ (r / 64 % 8)) 1 || run1 d J (r + d)

theorem run1_all : ((List.range 127).all fun e => (List.range 512).all fun r => run1 (4 * e + 4) 17 r) = true := by decide +kernel

inductive Tr where
  | leaf (n : Nat)
  | node (l r : Tr)
def Tr.get : Tr → Nat → Nat
  | .leaf n, _ => n
  | .node l r, u => cond (Nat.beq (u % 2) 0) (l.get (u / 2)) (r.get (u / 2))

def ptab0 : Tr := .node (.node (.node (.node (.node (.node (.leaf 1190112520884487201) (.leaf 4760450083676496136)) (.node (.leaf 2380170564403806736) (.leaf 9520963724279025796))) (.node (.node (.leaf 9516114950733570436) (.leaf 1171535706104793121)) (.node (.leaf 585894631351521346) (.leaf 2415073175967728656)))) (.node (.node (.node (.leaf 92344133930272786) (.leaf 2594434102510228096)) (.node (.leaf 1333066899660088321) (.leaf 5193252907335549256))) (.node (.node (.leaf 5188569060524429896) (.leaf 82210794854514706)) (.node (.leaf 9228517755874443556) (.leaf 1317304147285002241))))) (.node (.node (.node (.node (.leaf 4621119837190496644) (.leaf 1747433507315090434)) (.node (.leaf 9512235874000312384) (.leaf 2415081965549142049))) (.node (.node (.leaf 2395917768795391009) (.leaf 4618586695695073924)) (.node (.leaf 181306445980057624) (.leaf 9520961559103545664)))) (.node (.node (.node (.leaf 293376230173184584) (.leaf 9296575631314798624)) (.node (.leaf 5197158445648216324) (.leaf 1317444746395780114))) (.node (.node (.leaf 1298198086274861074) (.leaf 324619890596257864)) (.node (.leaf 2326129017135170689) (.leaf 5193218272950489604)))))) (.node (.node (.node (.node (.node (.leaf 2326129018092406802) (.leaf 9304516072835650052)) (.node (.leaf 1298198087408451872) (.leaf 5193355295052800072))) (.node (.node (.leaf 5197158445886804552) (.leaf 2342173382866371602)) (.node (.leaf 293376228315373697) (.leaf 1317338629497047072)))) (.node (.node (.node (.leaf 181306444166104097) (.leaf 1730090484174692672)) (.node (.leaf 2395917769936803842) (.leaf 9520917484664783492))) (.node (.node (.leaf 9512235873473143172) (.leaf 150907440551051297)) (.node (.leaf 4621119837345939992) (.leaf 2415057603355837442))))) (.node (.node (.node (.node (.leaf 9228517756180107848) (.leaf 2630122284979996673)) (.node (.leaf 5188569060812006528) (.leaf 1317343024388341778))) (.node (.node (.leaf 1333066900600801298) (.leaf 9233584378473349448)) (.node (.leaf 92344134535381028) (.leaf 5193354212440281728)))) (.node (.node (.node (.leaf 585894631897047428) (.leaf 4758089857272742928)) (.node (.leaf 9516114951023116808) (.leaf 2415127904520243233))) (.node (.node (.leaf 2380170562325611553) (.leaf 595183378589290628)) (.node (.leaf 1190112521992865858) (.leaf 9520900167075897608))))))
def ptab1 : Tr := .node (.node (.node (.node (.node (.node (.leaf 2380225041768974402) (.leaf 9520900167352992272)) (.node (.leaf 4760341124512646177) (.leaf 595183379143467272))) (.node (.node (.leaf 585767302751076872) (.leaf 2415127902440984642)) (.node (.leaf 1171507792004522372) (.leaf 4758089857409091617)))) (.node (.node (.node (.leaf 1333105077624406052) (.leaf 5193354212729168897)) (.node (.leaf 2594375203457091602) (.leaf 9233584378767020672))) (.node (.node (.leaf 9228439840872735872) (.leaf 1317343025328947492)) (.node (.leaf 82331508609651272) (.leaf 2630122282850484242))))) (.node (.node (.node (.node (.leaf 9512192026679181848) (.leaf 2415057604494628928)) (.node (.leaf 1747541799579689348) (.leaf 150907438743192578))) (.node (.node (.leaf 181340359041816578) (.leaf 9520917484149162008)) (.node (.leaf 4618444184230200353) (.leaf 1730090485207794308)))) (.node (.node (.node (.leaf 5197295824472121473) (.leaf 1317338630638829828)) (.node (.leaf 9296634833621029448) (.leaf 2342173383820855328))) (.node (.node (.leaf 2326114160843325728) (.leaf 5193355295292130433)) (.node (.leaf 324576143923496978) (.leaf 9304516072369627208)))))) (.node (.node (.node (.node (.node (.leaf 1298304568237622401) (.leaf 5193218272711180576)) (.node (.leaf 9304456638612195346) (.leaf 324619892460360196))) (.node (.node (.leaf 293332664462115076) (.leaf 1317444745254019201)) (.node (.leaf 2342157758729818696) (.leaf 9296575631791817746)))) (.node (.node (.node (.leaf 2395941400846876696) (.leaf 9520961559619180546)) (.node (.leaf 1729981766700663841) (.leaf 4618586695540023616))) (.node (.node (.leaf 4620976995323615296) (.leaf 2415081964410307096)) (.node (.leaf 150941098401866116) (.leaf 1747433506274295841))))) (.node (.node (.node (.node (.leaf 5188468378188644644) (.leaf 1317304146344354944)) (.node (.leaf 2630181351535678024) (.leaf 82210794258843649))) (.node (.node (.leaf 92464685677421569) (.leaf 5193252907046699044)) (.node (.leaf 9233506545369696274) (.leaf 2594434104638570824)))) (.node (.node (.node (.leaf 9516178615323332674) (.leaf 2415073178046972424)) (.node (.leaf 4758198210844041604) (.leaf 1171535704997004304))) (.node (.node (.leaf 1190085283310289424) (.leaf 9520963724001937474)) (.node (.leaf 595056260996432929) (.leaf 4760450083537948804))))))
def ptab2 : Tr := .node (.node (.node (.node (.node (.node (.leaf 4760450083537948804) (.leaf 595056260996432929)) (.node (.leaf 9520963724001937474) (.leaf 1190085283310289424))) (.node (.node (.leaf 1171535704997004304) (.leaf 4758198210844041604)) (.node (.leaf 2415073178046972424) (.leaf 9516178615323332674)))) (.node (.node (.node (.leaf 2594434104638570824) (.leaf 9233506545369696274)) (.node (.leaf 5193252907046699044) (.leaf 92464685677421569))) (.node (.node (.leaf 82210794258843649) (.leaf 2630181351535678024)) (.node (.leaf 1317304146344354944) (.leaf 5188468378188644644))))) (.node (.node (.node (.node (.leaf 1747433506274295841) (.leaf 150941098401866116)) (.node (.leaf 2415081964410307096) (.leaf 4620976995323615296))) (.node (.node (.leaf 4618586695540023616) (.leaf 1729981766700663841)) (.node (.leaf 9520961559619180546) (.leaf 2395941400846876696)))) (.node (.node (.node (.leaf 9296575631791817746) (.leaf 2342157758729818696)) (.node (.leaf 1317444745254019201) (.leaf 293332664462115076))) (.node (.node (.leaf 324619892460360196) (.leaf 9304456638612195346)) (.node (.leaf 5193218272711180576) (.leaf 1298304568237622401)))))) (.node (.node (.node (.node (.node (.leaf 9304516072369627208) (.leaf 324576143923496978)) (.node (.leaf 5193355295292130433) (.leaf 2326114160843325728))) (.node (.node (.leaf 2342173383820855328) (.leaf 9296634833621029448)) (.node (.leaf 1317338630638829828) (.leaf 5197295824472121473)))) (.node (.node (.node (.leaf 1730090485207794308) (.leaf 4618444184230200353)) (.node (.leaf 9520917484149162008) (.leaf 181340359041816578))) (.node (.node (.leaf 150907438743192578) (.leaf 1747541799579689348)) (.node (.leaf 2415057604494628928) (.leaf 9512192026679181848))))) (.node (.node (.node (.node (.leaf 2630122282850484242) (.leaf 82331508609651272)) (.node (.leaf 1317343025328947492) (.leaf 9228439840872735872))) (.node (.node (.leaf 9233584378767020672) (.leaf 2594375203457091602)) (.node (.leaf 5193354212729168897) (.leaf 1333105077624406052)))) (.node (.node (.node (.leaf 4758089857409091617) (.leaf 1171507792004522372)) (.node (.leaf 2415127902440984642) (.leaf 585767302751076872))) (.node (.node (.leaf 595183379143467272) (.leaf 4760341124512646177)) (.node (.leaf 9520900167352992272) (.leaf 2380225041768974402))))))
def ptab3 : Tr := .node (.node (.node (.node (.node (.node (.leaf 9520900167075897608) (.leaf 1190112521992865858)) (.node (.leaf 595183378589290628) (.leaf 2380170562325611553))) (.node (.node (.leaf 2415127904520243233) (.leaf 9516114951023116808)) (.node (.leaf 4758089857272742928) (.leaf 585894631897047428)))) (.node (.node (.node (.leaf 5193354212440281728) (.leaf 92344134535381028)) (.node (.leaf 9233584378473349448) (.leaf 1333066900600801298))) (.node (.node (.leaf 1317343024388341778) (.leaf 5188569060812006528)) (.node (.leaf 2630122284979996673) (.leaf 9228517756180107848))))) (.node (.node (.node (.node (.leaf 2415057603355837442) (.leaf 4621119837345939992)) (.node (.leaf 150907440551051297) (.leaf 9512235873473143172))) (.node (.node (.leaf 9520917484664783492) (.leaf 2395917769936803842)) (.node (.leaf 1730090484174692672) (.leaf 181306444166104097)))) (.node (.node (.node (.leaf 1317338629497047072) (.leaf 293376228315373697)) (.node (.leaf 2342173382866371602) (.leaf 5197158445886804552))) (.node (.node (.leaf 5193355295052800072) (.leaf 1298198087408451872)) (.node (.leaf 9304516072835650052) (.leaf 2326129018092406802)))))) (.node (.node (.node (.node (.node (.leaf 5193218272950489604) (.leaf 2326129017135170689)) (.node (.leaf 324619890596257864) (.leaf 1298198086274861074))) (.node (.node (.leaf 1317444746395780114) (.leaf 5197158445648216324)) (.node (.leaf 9296575631314798624) (.leaf 293376230173184584)))) (.node (.node (.node (.leaf 9520961559103545664) (.leaf 181306445980057624)) (.node (.leaf 4618586695695073924) (.leaf 2395917768795391009))) (.node (.node (.leaf 2415081965549142049) (.leaf 9512235874000312384)) (.node (.leaf 1747433507315090434) (.leaf 4621119837190496644))))) (.node (.node (.node (.node (.leaf 1317304147285002241) (.leaf 9228517755874443556)) (.node (.leaf 82210794854514706) (.leaf 5188569060524429896))) (.node (.node (.leaf 5193252907335549256) (.leaf 1333066899660088321)) (.node (.leaf 2594434102510228096) (.leaf 92344133930272786)))) (.node (.node (.node (.leaf 2415073175967728656) (.leaf 585894631351521346)) (.node (.leaf 1171535706104793121) (.leaf 9516114950733570436))) (.node (.node (.leaf 9520963724279025796) (.leaf 2380170564403806736)) (.node (.leaf 4760450083676496136) (.leaf 1190112520884487201))))))
def ptab4 : Tr := .node (.node (.node (.node (.node (.node (.leaf 595056260442243600) (.leaf 2380225039690764420)) (.node (.leaf 1190085282201870600) (.leaf 4760341124651157570))) (.node (.node (.leaf 4758198210707656770) (.leaf 585767303296615440)) (.node (.leaf 9516178615033792545) (.leaf 1171507793112351240)))) (.node (.node (.node (.leaf 9233506545076020225) (.leaf 1333105078565077320)) (.node (.leaf 92464685072323200) (.leaf 2594375201328758820))) (.node (.node (.leaf 2630181353665200420) (.leaf 9228439841178404865)) (.node (.leaf 5188468377901105170) (.leaf 82331509205312640))))) (.node (.node (.node (.node (.leaf 150941100209739840) (.leaf 9512192026152026145)) (.node (.leaf 4620976995168191490) (.leaf 1747541800620458520))) (.node (.node (.leaf 1729981765667536920) (.leaf 181340357227848000)) (.node (.leaf 2395941399705420420) (.leaf 4618444184385230850)))) (.node (.node (.node (.leaf 2342157757775380740) (.leaf 5197295824710730770)) (.node (.leaf 293332666319915040) (.leaf 9296634833143996545))) (.node (.node (.leaf 9304456639078204545) (.leaf 2326114161800516100)) (.node (.leaf 1298304567104053320) (.leaf 324576142059405600)))))) (.node (.node (.node (.node (.node (.leaf 324576142059405600) (.leaf 1298304567104053320)) (.node (.leaf 2326114161800516100) (.leaf 9304456639078204545))) (.node (.node (.leaf 9296634833143996545) (.leaf 293332666319915040)) (.node (.leaf 5197295824710730770) (.leaf 2342157757775380740)))) (.node (.node (.node (.leaf 4618444184385230850) (.leaf 2395941399705420420)) (.node (.leaf 181340357227848000) (.leaf 1729981765667536920))) (.node (.node (.leaf 1747541800620458520) (.leaf 4620976995168191490)) (.node (.leaf 9512192026152026145) (.leaf 150941100209739840))))) (.node (.node (.node (.node (.leaf 82331509205312640) (.leaf 5188468377901105170)) (.node (.leaf 9228439841178404865) (.leaf 2630181353665200420))) (.node (.node (.leaf 2594375201328758820) (.leaf 92464685072323200)) (.node (.leaf 1333105078565077320) (.leaf 9233506545076020225)))) (.node (.node (.node (.leaf 1171507793112351240) (.leaf 9516178615033792545)) (.node (.leaf 585767303296615440) (.leaf 4758198210707656770))) (.node (.node (.leaf 4760341124651157570) (.leaf 1190085282201870600)) (.node (.leaf 2380225039690764420) (.leaf 595056260442243600))))))
def mk (c u : Nat) : Nat := cond (Nat.beq c 0) (ptab0.get u) (cond (Nat.beq c 1) (ptab1.get u) (cond (Nat.beq c 2) (ptab2.get u) (cond (Nat.beq c 3) (ptab3.get u) (ptab4.get u))))

theorem mk_all : ((List.range 5).all fun c => (List.range 64).all fun u => (List.range 64).all fun r => (mk c u).testBit r == Nat.beq ((r ^^^ u) % 5) c) = true := by decide +kernel

def run2 (q : Nat) : Nat → Nat → Nat → Bool
  | 0, _, m => Nat.beq m 0
  | J + 1, h, m => Nat.beq m 0 || run2 q J (h + q) (Nat.land m (mk ((h ^^^ (h / 64)) % 5) (h % 64)))

def JJ (L : Nat) : Nat := if L = 7 then 80 else if (116 * L + 212) % 512 = 0 then 12 else 17
def rows2 : List (Nat × Nat) := [(7, 8), (135, 12), (263, 18), (391, 24), (519, 30), (647, 36), (775, 43), (903, 49), (1031, 55), (1159, 61), (1287, 67), (1415, 73), (1543, 79), (1671, 85), (1799, 91), (1927, 98)]
def chkR (L A : Nat) : Bool := (List.range A).all fun a => (List.range 128).all fun b => run2 ((116 * L + 212) / 512) (JJ L) (128 * a + b) 18446744073709551615

theorem row_7 : chkR 7 8 = true := by decide +kernel
theorem row_135 : chkR 135 12 = true := by decide +kernel
theorem row_263 : chkR 263 18 = true := by decide +kernel
theorem row_391 : chkR 391 24 = true := by decide +kernel
theorem row_519 : chkR 519 30 = true := by decide +kernel
theorem row_647 : chkR 647 36 = true := by decide +kernel
theorem row_775 : chkR 775 43 = true := by decide +kernel
theorem row_903 : chkR 903 49 = true := by decide +kernel
theorem row_1031 : chkR 1031 55 = true := by decide +kernel
theorem row_1159 : chkR 1159 61 = true := by decide +kernel
theorem row_1287 : chkR 1287 67 = true := by decide +kernel
theorem row_1415 : chkR 1415 73 = true := by decide +kernel
theorem row_1543 : chkR 1543 79 = true := by decide +kernel
theorem row_1671 : chkR 1671 85 = true := by decide +kernel
theorem row_1799 : chkR 1799 91 = true := by decide +kernel
theorem row_1927 : chkR 1927 98 = true := by decide +kernel
theorem rows2_all : (rows2.all fun p => chkR p.1 p.2) = true := by
  unfold rows2
  simp only [List.all_cons, List.all_nil, row_7, row_135, row_263, row_391, row_519, row_647, row_775, row_903, row_1031, row_1159, row_1287, row_1415, row_1543, row_1671, row_1799, row_1927, Bool.and_self]
def PB (L : Nat) : Nat := 2 * (4 * L * (1 + JJ L)) + 100
theorem rows2_has : ((List.range 2001).all fun L => Nat.beq L 0 || (!Nat.beq ((116 * L + 212) % 512) 0 || rows2.any fun p => Nat.beq p.1 L && Nat.blt ((255 * 1248 + 29 * (PB L + 4 * L + 3) + 53 * ((PB L + 4 * L + 3) / L)) / 512) (128 * p.2))) = true := by decide +kernel

/- what they say -/
theorem run1_spec {d : Nat} : ∀ (J r : Nat), run1 d J r = true → ∃ j, j < J ∧ ((r + j * d) % 8) ^^^ ((r + j * d) / 64 % 8) ≠ 1
  | 0, r, h => by cases h
  | J + 1, r, h => by
    unfold run1 at h
    rw [Bool.or_eq_true] at h
    rcases h with h | h
    · refine ⟨0, by omega, fun e => ?_⟩
      rw [Nat.zero_mul, Nat.add_zero] at e
      rw [e] at h
      cases h
    · obtain ⟨j, h1, h2⟩ := run1_spec J (r + d) h
      refine ⟨j + 1, by omega, ?_⟩
      rw [show r + (j + 1) * d = r + d + j * d by rw [Nat.add_mul, Nat.one_mul]; omega]
      exact h2

theorem mk_bit {c u r : Nat} (hc : c < 5) (hu : u < 64) (hr : r < 64) : (mk c u).testBit r = Nat.beq ((r ^^^ u) % 5) c := by
  have h := mk_all
  rw [List.all_eq_true] at h
  have h := h c (List.mem_range.2 hc)
  rw [List.all_eq_true] at h
  have h := h u (List.mem_range.2 hu)
  rw [List.all_eq_true] at h
  exact beq_iff_eq.1 (h r (List.mem_range.2 hr))

theorem run2_spec {q r : Nat} (hr : r < 64) : ∀ (J h m : Nat), run2 q J h m = true → m.testBit r = true → ∃ j, j < J ∧ (r ^^^ ((h + j * q) % 64)) % 5 ≠ ((h + j * q) ^^^ ((h + j * q) / 64)) % 5
  | 0, h, m, hrun, hm => by
    have := Nat.eq_of_beq_eq_true hrun
    subst this
    rw [Nat.zero_testBit] at hm
    cases hm
  | J + 1, h, m, hrun, hm => by
    unfold run2 at hrun
    rw [Bool.or_eq_true] at hrun
    rcases hrun with h0 | h0
    · have := Nat.eq_of_beq_eq_true h0
      subst this
      rw [Nat.zero_testBit] at hm
      cases hm
    · by_cases hb : (r ^^^ (h % 64)) % 5 = (h ^^^ (h / 64)) % 5
      · have hbit : (Nat.land m (mk ((h ^^^ (h / 64)) % 5) (h % 64))).testBit r = true := by
          show (m &&& mk ((h ^^^ (h / 64)) % 5) (h % 64)).testBit r = true
          rw [Nat.testBit_and, hm, mk_bit (Nat.mod_lt _ (by decide)) (Nat.mod_lt _ (by decide)) hr, hb, Nat.beq_refl]
          rfl
        obtain ⟨j, h1, h2⟩ := run2_spec hr J (h + q) _ h0 hbit
        refine ⟨j + 1, by omega, ?_⟩
        rw [show h + (j + 1) * q = h + q + j * q by rw [Nat.add_mul, Nat.one_mul]; omega]
        exact h2
      · exact ⟨0, by omega, by rw [Nat.zero_mul, Nat.add_zero]; exact hb⟩

theorem y_mod8 (x : Nat) : (x ^^^ (x / 64)) % 8 = (x % 8) ^^^ (x / 64 % 8) := Nat.xor_mod_two_pow (n := 3)

theorem y_split (x : Nat) : x ^^^ (x / 64) = 512 * ((x / 512) ^^^ (x / 512 / 64)) + 8 * ((x / 8 % 64) ^^^ (x / 512 % 64)) + (x ^^^ (x / 64)) % 8 := by
  have e1 : (x ^^^ (x / 64)) / 8 = (x / 8) ^^^ (x / 512) := by
    have := Nat.xor_div_two_pow (a := x) (b := x / 64) (n := 3)
    rw [show (2 : Nat) ^ 3 = 8 from rfl, Nat.div_div_eq_div_mul x 64 8] at this
    exact this
  have e2 : (x ^^^ (x / 64)) / 512 = (x / 512) ^^^ (x / 512 / 64) := by
    have := Nat.xor_div_two_pow (a := x) (b := x / 64) (n := 9)
    rw [show (2 : Nat) ^ 9 = 512 from rfl, Nat.div_div_eq_div_mul x 64 512] at this
    rw [Nat.div_div_eq_div_mul x 512 64]
    exact this
  have e3 : (x ^^^ (x / 64)) / 8 % 64 = (x / 8 % 64) ^^^ (x / 512 % 64) := by
    rw [e1]
    exact Nat.xor_mod_two_pow (n := 6)
  rw [← e2, ← e3]
  omega

/-- Past the code's end the numbers do not stay 1. -/
theorem not_stay {L x : Nat} (hL : 1 ≤ L) (hL2 : L ≤ 2000) (hx : x ≤ 255 * 1248 + 29 * (PB L + 4 * L + 3) + 53 * ((PB L + 4 * L + 3) / L)) : ∃ j, j ≤ JJ L ∧ ((x + j * (116 * L + 212)) ^^^ ((x + j * (116 * L + 212)) / 64)) % 40 ≠ 1 := by
  by_cases hd : (116 * L + 212) % 512 = 0
  · have hh := rows2_has
    rw [List.all_eq_true] at hh
    have hh := hh L (List.mem_range.2 (by omega))
    rw [hd, show Nat.beq L 0 = false by cases L with | zero => omega | succ n => rfl] at hh
    simp only [Bool.false_or, Nat.beq_refl, Bool.not_true, List.any_eq_true, Bool.and_eq_true] at hh
    obtain ⟨p, hp, hp1, hp2⟩ := hh
    have hp1 := Nat.eq_of_beq_eq_true hp1
    have hp2 : (255 * 1248 + 29 * (PB L + 4 * L + 3) + 53 * ((PB L + 4 * L + 3) / L)) / 512 < 128 * p.2 := Nat.le_of_ble_eq_true hp2
    have hall := rows2_all
    rw [List.all_eq_true] at hall
    have hc := hall p hp
    rw [hp1] at hc
    unfold chkR at hc
    have hxh : x / 512 < 128 * p.2 := Nat.lt_of_le_of_lt (Nat.div_le_div_right hx) hp2
    rw [List.all_eq_true] at hc
    have hc := hc (x / 512 / 128) (List.mem_range.2 (by omega))
    rw [List.all_eq_true] at hc
    have hc := hc (x / 512 % 128) (List.mem_range.2 (Nat.mod_lt _ (by decide)))
    rw [Nat.div_add_mod] at hc
    obtain ⟨j, h1, h2⟩ := run2_spec (r := x / 8 % 64) (Nat.mod_lt _ (by decide)) _ _ _ hc (by
      have := Nat.testBit_two_pow_sub_one 64 (x / 8 % 64)
      rw [show (2 : Nat) ^ 64 - 1 = 18446744073709551615 from rfl] at this
      rw [this]
      exact decide_eq_true (Nat.mod_lt _ (by decide)))
    refine ⟨j, by omega, fun e => h2 ?_⟩
    have hD : 116 * L + 212 = 512 * ((116 * L + 212) / 512) := by omega
    generalize (116 * L + 212) / 512 = q at *
    rw [hD] at e
    have hs := y_split (x + j * (512 * q))
    have hxq : x + j * (512 * q) = x + 512 * (j * q) := by rw [Nat.mul_left_comm]
    have e1 : (x + j * (512 * q)) / 512 = x / 512 + j * q := by rw [hxq]; omega
    have e2 : (x + j * (512 * q)) / 8 % 64 = x / 8 % 64 := by rw [hxq]; omega
    rw [e1, e2] at hs
    generalize (x + j * (512 * q)) ^^^ ((x + j * (512 * q)) / 64) = y at *
    generalize (x / 512 + j * q) ^^^ ((x / 512 + j * q) / 64) = c at *
    generalize (x / 8 % 64) ^^^ ((x / 512 + j * q) % 64) = d at *
    omega
  · have hall := run1_all
    rw [List.all_eq_true] at hall
    have h4 : (116 * L + 212) % 512 % 4 = 0 := by omega
    have hall := hall ((116 * L + 212) % 512 / 4 - 1) (List.mem_range.2 (by omega))
    rw [List.all_eq_true] at hall
    have hall := hall (x % 512) (List.mem_range.2 (Nat.mod_lt _ (by decide)))
    rw [show 4 * ((116 * L + 212) % 512 / 4 - 1) + 4 = (116 * L + 212) % 512 by omega] at hall
    obtain ⟨j, h1, h2⟩ := run1_spec _ _ hall
    have hJ : JJ L = 17 ∨ JJ L = 80 := by
      unfold JJ
      by_cases h7 : L = 7
      · right; rw [if_pos h7]
      · left; rw [if_neg h7, if_neg hd]
    refine ⟨j, by omega, fun e => h2 ?_⟩
    have e8 := y_mod8 (x + j * (116 * L + 212))
    have hm : (x + j * (116 * L + 212)) % 512 = (x % 512 + j * ((116 * L + 212) % 512)) % 512 := by
      have hD := Nat.div_add_mod (116 * L + 212) 512
      generalize (116 * L + 212) / 512 = Q at *
      generalize (116 * L + 212) % 512 = d at *
      rw [← hD, Nat.mul_add, Nat.mul_left_comm]
      omega
    generalize x + j * (116 * L + 212) = z at *
    generalize x % 512 + j * ((116 * L + 212) % 512) = w at *
    have a1 : z % 8 = w % 8 := by omega
    have a2 : z / 64 % 8 = w / 64 % 8 := by omega
    rw [a1, a2] at e8
    rw [← e8]
    omega

end Go.Proofs.Ytmmadcccjicdcaa.E

