/- Proved: what small functions of the reference and of the statements return: whether rows are square, whether lists are short. Conditions: the lists lie in memory. -/
import Derived.Test.YtleenbfldkmcaaaK4
namespace Go.Proofs.Ytleenbfldkmcaaa
open Go.RowKit Go.Sort Go.BigFrame
set_option linter.unusedVariables false
set_option linter.unusedSimpArgs false
attribute [local go_sem] cell_alloc_old

/-- Whether the first rows have this length. -/
def rowsTo (H : List (List Bool)) (n : Nat) : Nat → Bool
  | 0 => true
  | k + 1 => rowsTo H n k && ((H.getD k []).length == n)
theorem rowsTo_iff {H : List (List Bool)} {n : Nat} : ∀ {k : Nat}, rowsTo H n k = true ↔ ∀ j, j < k → (H.getD j []).length = n
  | 0 => by simp [rowsTo]
  | k + 1 => by
    rw [rowsTo, Bool.and_eq_true, rowsTo_iff, beq_iff_eq]
    constructor
    · rintro ⟨h1, h2⟩ j hj
      by_cases e : j = k
      · rw [e]; exact h2
      · exact h1 j (by omega)
    · exact fun h => ⟨fun j hj => h j (by omega), h k (by omega)⟩
theorem square_iff {H : List (List Bool)} {n : Nat} : squareB H n = true ↔ H.length = n ∧ ∀ j, j < H.length → (H.getD j []).length = n := by
  unfold squareB
  rw [Bool.and_eq_true, beq_iff_eq, List.all_eq_true]
  constructor
  · rintro ⟨h1, h2⟩
    refine ⟨h1, fun j hj => ?_⟩
    rw [List.getD_eq_getElem?_getD, List.getElem?_eq_getElem hj]
    simpa using h2 _ (List.getElem_mem hj)
  · rintro ⟨h1, h2⟩
    refine ⟨h1, fun r hr => ?_⟩
    obtain ⟨j, hj, e⟩ := List.mem_iff_getElem.1 hr
    have := h2 j hj
    rw [List.getD_eq_getElem?_getD, List.getElem?_eq_getElem hj, Option.getD_some, e] at this
    simp [this]
theorem square_rows {H : List (List Bool)} {n : Nat} (h : H.length = n) : squareB H n = rowsTo H n n := by
  rw [Bool.eq_iff_iff, square_iff, rowsTo_iff, h]
  exact ⟨fun h => h.2, fun h' => ⟨rfl, h'⟩⟩

set_option maxRecDepth 100000 in
set_option maxHeartbeats 4000000 in
theorem square_at (H : List (List Bool)) (m n : Nat) (a : Option Addr) (cap : Nat) (w : World) (hm : Hid (m = H.length)) (hl : TabAt w a H) (hm2 : m ≤ maxLen) (y : Bool) (hy : Hid (squareB H n = y)) :
    Calls Try.prog 23 #[.slice a m cap, .int .i64 n] w (Yes y w) := by
  unfold maxLen at hm2
  by_cases hmn : m = n
  · have HR : Hid (rowsTo H n n = y) := Lib.hid (by rw [← hy.out, square_rows (by rw [← hm.out, hmn])])
    subst hmn
    have g1 : ((m : Int) != (m : Int)) = false := by simp
    go_enter Try.func23, Try.ntmps23
    go_wp2_with fail
    go_loopw [5] (fun i wr => ∃ j : Nat, j ≤ m ∧ i = .int .i64 j ∧ Hid (rowsTo H m j = true) ∧ Below w.heap.size w wr) (fun i _ => m - (intOf i).toNat)
    case atStart => exact ⟨0, Nat.zero_le _, rfl, Lib.hid rfl, Below.refl _ _⟩
    case round =>
      obtain ⟨j, hj, rfl, hlk, BB⟩ := hrel
      by_cases hlt : j < m
      · have hlt' : (j : Int) < (m : Int) := by omega
        have hj0 : (0 : Int) ≤ (j : Int) := by omega
        obtain ⟨b, off, ra, rc, rfl, c0, -, -, -⟩ := hl.at BB (i := j) (by rw [← hm.out]; exact hlt)
        obtain ⟨q, hq⟩ : ∃ q, (H.getD j []).length = q := ⟨_, rfl⟩
        rw [hq] at c0
        have HS : Hid (rowsTo H m (j + 1) = (q == m)) := Lib.hid (by rw [rowsTo, hlk.out, hq]; rfl)
        clear hq
        by_cases hqm : q = m
        · have g2 : ((q : Int) != (m : Int)) = false := by simp [hqm]
          have HS2 : Hid (rowsTo H m (j + 1) = true) := Lib.hid (by rw [HS.out]; simp [hqm])
          clear hqm
          go_wp2_with fail
          go_roundw
          case rel => exact ⟨j + 1, by omega, by go_num, HS2, BB⟩
          case measure => simp [intOf]; omega
        · have g2 : ((q : Int) != (m : Int)) = true := by simp; omega
          have hres : y = false := by
            rw [← HR.out, Bool.eq_false_iff]
            intro h
            have h1 := rowsTo_iff.2 fun i (hi : i < j + 1) => rowsTo_iff.1 h i (by omega)
            rw [HS.out] at h1; simp at h1; exact hqm h1
          subst hres
          clear hqm
          go_wp2_with fail
          go_ret
          exact ⟨rfl, BB⟩
      · obtain rfl : m = j := by omega
        have hlt' : ¬ (m : Int) < (m : Int) := by omega
        have hres : y = true := by rw [← HR.out, hlk.out]
        subst hres
        go_wp2_with fail
        go_ret
        exact ⟨rfl, BB⟩
  · have g1 : ((m : Int) != (n : Int)) = true := by simp; omega
    have hres : y = false := by
      rw [← hy.out, Bool.eq_false_iff]
      intro h
      exact hmn (hm.out.trans (square_iff.1 h).1)
    subst hres
    go_enter Try.func23, Try.ntmps23
    go_wp2_with fail
    go_ret
    exact ⟨rfl, Below.refl _ _⟩
/-- Short lists of what was heard. -/
def nearTo (N : List Nv) : Nat → Bool
  | 0 => true
  | k + 1 => nearTo N k && (decide (((N.getD k default).nu : Int) ≤ 40) && decide (((N.getD k default).ng : Int) ≤ 40))
theorem nearTo_iff {N : List Nv} : ∀ {k : Nat}, nearTo N k = true ↔ ∀ j, j < k → (N.getD j default).nu ≤ 40 ∧ (N.getD j default).ng ≤ 40
  | 0 => by simp [nearTo]
  | k + 1 => by
    rw [nearTo, Bool.and_eq_true, nearTo_iff, Bool.and_eq_true, decide_eq_true_eq, decide_eq_true_eq]
    constructor
    · rintro ⟨h1, h2⟩ j hj
      by_cases e : j = k
      · rw [e]; omega
      · exact h1 j (by omega)
    · exact fun h => ⟨fun j hj => h j (by omega), by have := h k (by omega); omega⟩
theorem nearTo_le {N : List Nv} {k n : Nat} (h : k ≤ n) (hf : nearTo N k = false) : nearTo N n = false := by
  rw [Bool.eq_false_iff] at *
  exact fun hn => hf (nearTo_iff.2 fun j hj => nearTo_iff.1 hn j (by omega))
def fewNB (N : List Nv) : Bool := nearTo N N.length && decide ((N.length : Int) ≤ 70)
set_option maxRecDepth 100000 in
set_option maxHeartbeats 4000000 in
theorem fewnear_at (N : List Nv) (n : Nat) (a : Option Addr) (cap : Nat) (w : World) (hn : Hid (n = N.length)) (hl : NsAt w a N) (hm : n ≤ maxLen) (y : Bool) (hy : Hid (fewNB N = y)) :
    Calls Try.prog 12 #[.slice a n cap] w (Yes y w) := by
  unfold maxLen at hm
  have HR : Hid ((nearTo N n && decide ((n : Int) ≤ 70)) = y) := Lib.hid (by rw [← hy.out, fewNB, hn.out])
  go_enter Try.func12, Try.ntmps12
  go_wp2_with fail
  go_loopw [3] (fun i wr => ∃ j : Nat, j ≤ n ∧ i = .int .i64 j ∧ Hid (nearTo N j = true) ∧ Below w.heap.size w wr) (fun i _ => n - (intOf i).toNat)
  case atStart => exact ⟨0, Nat.zero_le _, rfl, Lib.hid rfl, Below.refl _ _⟩
  case round =>
    obtain ⟨j, hj, rfl, hlk, BB⟩ := hrel
    by_cases hlt : j < n
    · have hlt' : (j : Int) < (n : Int) := by omega
      have hj0 : (0 : Int) ≤ (j : Int) := by omega
      obtain ⟨b, off, rfl, ho, hc⟩ := hl.at BB (i := j) (by rw [← hn.out]; exact hlt)
      have HS : Hid (nearTo N (j + 1) = (decide (((N.getD j default).nu : Int) ≤ 40) && decide (((N.getD j default).ng : Int) ≤ 40))) := Lib.hid (by rw [nearTo, hlk.out]; rfl)
      obtain ⟨x, hx⟩ : ∃ x, N.getD j default = x := ⟨_, rfl⟩
      rw [hx] at hc HS
      have c11 := hc 12 _ rfl
      have c12 := hc 13 _ rfl
      clear hc ho hx
      obtain ⟨nu, hnu⟩ : ∃ nu, x.nu = nu := ⟨_, rfl⟩
      obtain ⟨ng, hng⟩ : ∃ ng, x.ng = ng := ⟨_, rfl⟩
      rw [hnu] at c11 HS
      rw [hng] at c12 HS
      clear hnu hng
      by_cases h1 : 40 < nu
      · have g1 : (40 : Int) < (nu : Int) := by omega
        have hres : y = false := by rw [← HR.out, nearTo_le (k := j + 1) (by omega) (by rw [HS.out]; simp; omega)]; rfl
        subst hres
        go_wp2_with fail
        go_ret
        exact ⟨rfl, BB⟩
      · have g1 : ¬ (40 : Int) < (nu : Int) := by omega
        by_cases h2 : 40 < ng
        · have g2 : (40 : Int) < (ng : Int) := by omega
          have hres : y = false := by rw [← HR.out, nearTo_le (k := j + 1) (by omega) (by rw [HS.out]; simp; omega)]; rfl
          subst hres
          go_wp2_with fail
          go_ret
          exact ⟨rfl, BB⟩
        · have g2 : ¬ (40 : Int) < (ng : Int) := by omega
          have HS2 : Hid (nearTo N (j + 1) = true) := Lib.hid (by rw [HS.out]; simp; omega)
          go_wp2_with fail
          go_roundw
          case rel => exact ⟨j + 1, by omega, by go_num, HS2, BB⟩
          case measure => simp [intOf]; omega
    · obtain rfl : n = j := by omega
      have hlt' : ¬ (n : Int) < (n : Int) := by omega
      have hres : y = decide ((n : Int) ≤ 70) := by rw [← HR.out, hlk.out]; rfl
      by_cases h70 : (n : Int) ≤ 70
      · have hres' : y = true := by rw [hres]; simpa using h70
        clear hres
        subst hres'
        go_wp2_with fail
        go_ret
        exact ⟨rfl, BB⟩
      · have hres' : y = false := by rw [hres]; simpa using h70
        clear hres
        subst hres'
        go_wp2_with fail
        go_ret
        exact ⟨rfl, BB⟩
/-- Short tables and rows. -/
def tabsTo (T : List Tv) : Nat → Bool
  | 0 => true
  | k + 1 => tabsTo T k && fewB (T.getD k default)
theorem tabsTo_iff {T : List Tv} : ∀ {k : Nat}, tabsTo T k = true ↔ ∀ j, j < k → fewB (T.getD j default) = true
  | 0 => by simp [tabsTo]
  | k + 1 => by
    rw [tabsTo, Bool.and_eq_true, tabsTo_iff]
    constructor
    · rintro ⟨h1, h2⟩ j hj
      by_cases e : j = k
      · rw [e]; exact h2
      · exact h1 j (by omega)
    · exact fun h => ⟨fun j hj => h j (by omega), h k (by omega)⟩
def shortTo (H : List (List Bool)) : Nat → Bool
  | 0 => true
  | k + 1 => shortTo H k && decide (((H.getD k []).length : Int) ≤ 20)
theorem shortTo_iff {H : List (List Bool)} : ∀ {k : Nat}, shortTo H k = true ↔ ∀ j, j < k → (H.getD j []).length ≤ 20
  | 0 => by simp [shortTo]
  | k + 1 => by
    rw [shortTo, Bool.and_eq_true, shortTo_iff, decide_eq_true_eq]
    constructor
    · rintro ⟨h1, h2⟩ j hj
      by_cases e : j = k
      · rw [e]; omega
      · exact h1 j (by omega)
    · exact fun h => ⟨fun j hj => h j (by omega), by have := h k (by omega); omega⟩
theorem tabsTo_le {T : List Tv} {k n : Nat} (h : k ≤ n) (hf : tabsTo T k = false) : tabsTo T n = false := by
  rw [Bool.eq_false_iff] at *
  exact fun hn => hf (tabsTo_iff.2 fun j hj => tabsTo_iff.1 hn j (by omega))
theorem shortTo_le {H : List (List Bool)} {k n : Nat} (h : k ≤ n) (hf : shortTo H k = false) : shortTo H n = false := by
  rw [Bool.eq_false_iff] at *
  exact fun hn => hf (shortTo_iff.2 fun j hj => shortTo_iff.1 hn j (by omega))
def fewTB (H : List (List Bool)) (T : List Tv) : Bool := tabsTo T T.length && (shortTo H H.length && (decide ((T.length : Int) ≤ 12) && decide ((H.length : Int) ≤ 20)))
set_option maxRecDepth 100000 in
set_option maxHeartbeats 4000000 in
theorem fewt_at (H : List (List Bool)) (T : List Tv) (m n : Nat) (a b : Option Addr) (ca cb : Nat) (w : World) (hm : Hid (m = H.length)) (hn : Hid (n = T.length)) (hl : TabAt w a H) (ht : TsAt w b T) (hm2 : m ≤ maxLen) (hn2 : n ≤ maxLen) (y : Bool) (hy : Hid (fewTB H T = y)) :
    Calls Try.prog 13 #[.slice a m ca, .slice b n cb] w (Yes y w) := by
  unfold maxLen at hm2 hn2
  have HR : Hid ((tabsTo T n && (shortTo H m && (decide ((n : Int) ≤ 12) && decide ((m : Int) ≤ 20)))) = y) := Lib.hid (by rw [← hy.out, fewTB, hn.out, hm.out])
  go_enter Try.func13, Try.ntmps13
  go_wp2_with fail
  go_loopw [11] (fun i wr => ∃ j : Nat, j ≤ n ∧ i = .int .i64 j ∧ Hid (tabsTo T j = true) ∧ Below w.heap.size w wr) (fun i _ => n - (intOf i).toNat)
  case atStart => exact ⟨0, Nat.zero_le _, rfl, Lib.hid rfl, Below.refl _ _⟩
  case round =>
    obtain ⟨j, hj, rfl, hlk, BB⟩ := hrel
    by_cases hlt : j < n
    · have hlt' : (j : Int) < (n : Int) := by omega
      have hj0 : (0 : Int) ≤ (j : Int) := by omega
      obtain ⟨b1, off, rfl, ho, c0, c1, c2⟩ := ht.at BB (i := j) (by rw [← hn.out]; exact hlt)
      have HS : Hid (tabsTo T (j + 1) = fewB (T.getD j default)) := Lib.hid (by rw [tabsTo, hlk.out]; rfl)
      obtain ⟨x, hx⟩ : ∃ x, T.getD j default = x := ⟨_, rfl⟩
      rw [hx] at c0 c1 c2 HS
      clear ho hx
      obtain ⟨q, hq⟩ : ∃ q, fewB x = q := ⟨_, rfl⟩
      have HQ := Lib.hid hq; clear hq
      go_upto_region 4 with (fail)
      clear c0 c1 c2
      have Tx := CAt.new wr [.slice x.ua x.nu x.uc, .slice x.ga x.ng x.gc, .slice x.aa x.na x.ac] 26
      have BB1 := ball BB (.cells #[.slice x.ua x.nu x.uc, .slice x.ga x.ng x.gc, .slice x.aa x.na x.ac] 26)
      obtain ⟨V1, hV1⟩ : ∃ V1, wr.alloc (.cells #[.slice x.ua x.nu x.uc, .slice x.ga x.ng x.gc, .slice x.aa x.na x.ac] 26) = V1 := ⟨_, rfl⟩
      rw [hV1] at Tx BB1 ⊢
      clear hV1 BB
      have x0 := Tx 0 _ rfl
      have x1 := Tx 1 _ rfl
      have x2 := Tx 2 _ rfl
      go_wp2_with fail
      clear x0 x1 x2 Tx
      refine (few_at x q _ HQ.out).mono ?_
      rintro e w2 ⟨rfl, b2⟩
      have BB := bstep BB1 b2
      clear b2 BB1
      cases q
      · go_wp2_with fail
        go_ret
        have hres : y = false := by rw [← HR.out, tabsTo_le (k := j + 1) (by omega) (by rw [HS.out, HQ.out])]; rfl
        subst hres
        exact ⟨rfl, BB⟩
      · go_wp2_with fail
        go_roundw
        case rel => exact ⟨j + 1, by omega, by go_num, Lib.hid (by rw [HS.out, HQ.out]), BB⟩
        case measure => simp [intOf]; omega
    · obtain rfl : n = j := by omega
      have hlt' : ¬ (n : Int) < (n : Int) := by omega
      have HT := hlk
      clear hlk
      go_wp2_with fail
      go_loopw [21] (fun i wr => ∃ j : Nat, j ≤ m ∧ i = .int .i64 j ∧ Hid (shortTo H j = true) ∧ Below w.heap.size w wr) (fun i _ => m - (intOf i).toNat)
      case atStart => exact ⟨0, Nat.zero_le _, rfl, Lib.hid rfl, BB⟩
      case round =>
        clear BB
        obtain ⟨k, hk, rfl, hlk, BB⟩ := hrel
        by_cases hlt2 : k < m
        · have hlt2' : (k : Int) < (m : Int) := by omega
          have hk0 : (0 : Int) ≤ (k : Int) := by omega
          obtain ⟨b1, off, ra, rc, rfl, c0, -, -, -⟩ := hl.at BB (i := k) (by rw [← hm.out]; exact hlt2)
          obtain ⟨q, hq⟩ : ∃ q, (H.getD k []).length = q := ⟨_, rfl⟩
          rw [hq] at c0
          have HS : Hid (shortTo H (k + 1) = decide ((q : Int) ≤ 20)) := Lib.hid (by rw [shortTo, hlk.out, hq]; rfl)
          clear hq
          by_cases h1 : 20 < q
          · have g1 : (20 : Int) < (q : Int) := by omega
            have hres : y = false := by rw [← HR.out, shortTo_le (k := k + 1) (by omega) (by rw [HS.out]; simp; omega), HT.out]; rfl
            subst hres
            go_wp2_with fail
            go_ret
            exact ⟨rfl, BB⟩
          · have g1 : ¬ (20 : Int) < (q : Int) := by omega
            have HS2 : Hid (shortTo H (k + 1) = true) := Lib.hid (by rw [HS.out]; simp; omega)
            go_wp2_with fail
            go_roundw
            case rel => exact ⟨k + 1, by omega, by go_num, HS2, BB⟩
            case measure => simp [intOf]; omega
        · obtain rfl : m = k := by omega
          have hlt2' : ¬ (m : Int) < (m : Int) := by omega
          have hres : y = (decide ((n : Int) ≤ 12) && decide ((m : Int) ≤ 20)) := by rw [← HR.out, HT.out, hlk.out]; rfl
          by_cases h12 : (n : Int) ≤ 12
          · by_cases h20 : (m : Int) ≤ 20
            · have hres' : y = true := by rw [hres]; simp; omega
              clear hres
              subst hres'
              go_wp2_with fail
              go_ret
              exact ⟨rfl, BB⟩
            · have hres' : y = false := by rw [hres]; simp; omega
              clear hres
              subst hres'
              go_wp2_with fail
              go_ret
              exact ⟨rfl, BB⟩
          · have hres' : y = false := by rw [hres]; simp; omega
            clear hres
            subst hres'
            go_wp2_with fail
            go_ret
            exact ⟨rfl, BB⟩
end Go.Proofs.Ytleenbfldkmcaaa
