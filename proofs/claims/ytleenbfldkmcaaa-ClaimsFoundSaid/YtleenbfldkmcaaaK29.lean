/- Proved: the law that tells which clashes are found, and that none is new where a node hears less or drops its cells. Conditions: what came in lies in memory. -/
import Derived.Test.YtleenbfldkmcaaaK29b
import Derived.Test.YtleenbfldkmcaaaK19
namespace Go.Proofs.Ytleenbfldkmcaaa
open Go.RowKit Go.Sort Go.Maps Go.BigFrame
set_option linter.unusedVariables false
set_option linter.unusedSimpArgs false
attribute [local go_sem] cell_alloc_old
theorem bel_grown {n b : Nat} {w0 w w' : World} (h : Below n w0 w) (hg : w.grownBy w' (some b)) (hb : n ≤ b) (hs : n ≤ w.heap.size) : Below n w0 w' := h.grown hg hs (fun k hk => by cases hk; exact hb)
theorem CSet.cellne {w : World} {b n q j : Nat} {acc : List Cz} {v : Value} (h : CSet w b n acc) (hc : w.cell? ⟨q, j, none⟩ = some v) : q ≠ b := fun e => by
  subst e
  obtain ⟨⟨es, clock, h1, -⟩, -⟩ := h
  simp [World.cell?, h1] at hc
theorem At.map {α : Type} [Inhabited α] {s : Nat} {cs : α → List Value} {w w' : World} {a : Option Addr} {l : List α} {b n : Nat} {acc : List Cz} (h : At s cs w a l) (hC : CSet w b n acc) (hg : w.grownBy w' (some b)) : At s cs w' a l := by
  rcases h with h | ⟨b', off, ha, h⟩
  · exact .inl h
  · exact .inr ⟨b', off, ha, fun i hi j u hj => hg.cell (h i hi j u hj) (fun e => hC.cellne (h i hi j u hj) (by cases e; rfl))⟩
theorem CAt.map {w w' : World} {g b n : Nat} {cs : List Value} {acc : List Cz} (h : CAt w g cs) (hC : CSet w b n acc) (hg : w.grownBy w' (some b)) : CAt w' g cs := fun j v hj => hg.cell (h j v hj) (fun e => hC.cellne (h j v hj) (by cases e; rfl))
def Bnd (q l j c p : Nat) : Prop := q ≤ l * 12000000 + j * 12000 + c * 1000 + p
theorem Bnd.zero : Bnd 0 0 0 0 0 := Nat.le_refl _
theorem Bnd.stay {q l j c p : Nat} (h : Bnd q l j c p) : Bnd q l j c (p + 1) := by unfold Bnd at *; omega
theorem Bnd.put {q l j c p : Nat} (h : Bnd q l j c p) : Bnd (q + 1) l j c (p + 1) := by unfold Bnd at *; omega
theorem Bnd.endU {q l j c p : Nat} (h : Bnd q l j c p) (hp : p ≤ 1000) : Bnd q l j (c + 1) 0 := by
  unfold Bnd at *
  refine Nat.le_trans h ?_
  simp only [Nat.zero_mul, Nat.add_zero, Nat.succ_mul, ← Nat.add_assoc]
  exact Nat.add_le_add_left hp _
theorem Bnd.endC {q l j c : Nat} (h : Bnd q l j c 0) (hc : c ≤ 12) : Bnd q l (j + 1) 0 0 := by
  unfold Bnd at *
  refine Nat.le_trans h ?_
  simp only [Nat.zero_mul, Nat.add_zero, Nat.succ_mul, ← Nat.add_assoc]
  exact Nat.add_le_add_left (Nat.le_trans (Nat.mul_le_mul_right 1000 hc) (by decide)) _
theorem Bnd.endG {q l j : Nat} (h : Bnd q l j 0 0) (hj : j ≤ 1000) : Bnd q (l + 1) 0 0 0 := by
  unfold Bnd at *
  refine Nat.le_trans h ?_
  simp only [Nat.zero_mul, Nat.add_zero, Nat.succ_mul, ← Nat.add_assoc]
  exact Nat.add_le_add_left (Nat.le_trans (Nat.mul_le_mul_right 12000 hj) (by decide)) _
theorem Bnd.lt {q l j c p : Nat} (h : Bnd q l j c p) (hl : l ≤ 12) (hj : j ≤ 1000) (hc : c ≤ 12) (hp : p ≤ 1000) : q < maxLen := by
  unfold Bnd at h
  have h1 : l * 12000000 + j * 12000 + c * 1000 + p ≤ 12 * 12000000 + 1000 * 12000 + 12 * 1000 + 1000 :=
    Nat.add_le_add (Nat.add_le_add (Nat.add_le_add (Nat.mul_le_mul_right _ hl) (Nat.mul_le_mul_right _ hj)) (Nat.mul_le_mul_right _ hc)) hp
  exact Nat.lt_of_le_of_lt (Nat.le_trans h h1) (by decide)
theorem rangeLeft_grown {w w' : World} {b r n : Nat} {acc : List Cz} {row : Option Nat} (h : CRng w b r n acc) (hg : w.grownBy w' row) (hb : some b ≠ row) (hr : some r ≠ row) : w'.rangeLeft b r = w.rangeLeft b r := by
  obtain ⟨left, cnt, h1, -⟩ := h
  rw [h1.left_eq, (h1.kept hg hb hr).left_eq]
theorem wpList_len_cs (w : World) {ops : Array Oper} {rest : List Oper} {o : Oper} {a : Act} {Q : Exit → Act → World → Prop} (hg : o.guard = none) (m : Operand) (hop : o.op = Op.call { callee := Callee.builtin Builtin.len, args := #[m], argTypes := #[73] }) (b n : Nat) (acc : List Cz) (s : Nat)
    (hm : a.eval m = .map (some b)) (h : CSet w b n acc) (hs : Maps.size (czD acc) = s) (hK : wpList Try.prog ops Q rest (a.put o.dst (.int .i64 s)) w) : wpList Try.prog ops Q (o :: rest) a w := by
  subst hs
  exact wpList_len_own w hg m 73 hop 75 4 Try.underlying73 (plainElem Try.prog 4) b n _ hm h.1 hK
theorem row_other {w : World} {base n s : Nat} {ty : TypeId} {v : Value} {xs : List Value} {g : Nat} (h : w.ownsRow base ty s v n xs) (hne : ∀ x, v.ownBlock = some x → x ≠ g) (o : Nat) (u : Value) : (w.setCell ⟨g, o, none⟩ u).ownsRow base ty s v n xs :=
  h.kept (grown_set w g o u) (by
    cases hb : v.ownBlock with
    | none => exact .inl rfl
    | some b => exact .inr fun e => hne b hb (by cases e; rfl))
theorem row_off {w : World} {base n s g o c : Nat} {ty : TypeId} {xs : List Value} (h : w.ownsRow base ty s (.slice (some ⟨g, o, none⟩) n c) n xs) : o = 0 := by
  rcases h.2 with ⟨hv, -⟩ | ⟨g', cap, cur, hv, -⟩
  · cases hv
  · cases hv; rfl
theorem bool_decide_mem {x : Cz} {l : List Cz} (h : x ∈ l) : decide (x ∈ l) = true := by simpa using h

set_option maxRecDepth 100000 in
set_option maxHeartbeats 16000000 in
theorem found_at (H : List (List Bool)) (m : Nat) (a : Option Addr) (ca : Nat) (T : List Tv) (k : Nat) (a2 : Option Addr) (cb : Nat) (fr who : Int) (deaf : Bool) (w : World)
    (hm : Hid (m = H.length)) (hk : Hid (k = T.length)) (hH : TabAt w a H) (hT : TsAt w a2 T) (hm2 : m ≤ maxLen) (hk2 : k ≤ maxLen) (hac : m ≤ ca) (hcm : ca ≤ maxLen) (hbc : k ≤ cb) (hcb : cb ≤ maxLen) (hw0 : 0 ≤ who) (hw1 : who ≤ 255) :
    Calls Try.prog 9 #[.slice a m ca, .slice a2 k cb, .int .i64 fr, .int .u8 who, .bool deaf] w (Yes true w) := by
  obtain ⟨q3, hq3⟩ : ∃ q, fewTB H T = q := ⟨_, rfl⟩
  have HQ3 := Lib.hid hq3
  clear hq3
  go_enter Try.func9, Try.ntmps9
  go_wp2_with fail
  refine (head_any _).mono ?_
  rintro e w1 ⟨rfl, B0⟩
  replace hH := hH.keep B0
  replace hT := hT.keep B0
  go_wp2_with fail
  refine (fewt_at H T m k a a2 ca cb _ hm hk hH hT hm2 hk2 q3 HQ3).mono ?_
  rintro e w2 ⟨rfl, b2⟩
  replace hH := hH.keep b2
  replace hT := hT.keep b2
  replace B0 := bstep B0 b2
  clear b2
  cases q3
  · go_wp2_with fail
    go_ret
    exact ⟨rfl, B0⟩
  · have FEW := Lib.hid (few_tabs HQ3.out)
    have hk12 : k ≤ 12 := by have := FEW.out.1; have := hk.out; omega
    have hm20 : m ≤ 20 := by have := FEW.out.2.1; have := hm.out; omega
    by_cases h0 : k = 0
    · have h0b : ((k : Int) == 0) = true := by simp [h0]
      go_wp2_with fail
      go_ret
      exact ⟨rfl, B0⟩
    · have h0b : ((k : Int) == 0) = false := by simp; omega
      obtain ⟨q4, hq4⟩ : ∃ q, squareB H k = q := ⟨_, rfl⟩
      have HQ4 := Lib.hid hq4
      clear hq4
      go_wp2_with fail
      refine (square_at H m k a ca _ hm hH hm2 q4 HQ4).mono ?_
      rintro e W5 ⟨rfl, b2⟩
      replace hH := hH.keep b2
      replace hT := hT.keep b2
      replace B0 := bstep B0 b2
      clear b2
      cases q4
      · go_wp2_with fail
        go_ret
        exact ⟨rfl, B0⟩
      · have hmk : m = k := by rw [hm.out]; exact (square_iff.1 HQ4.out).1
        subst hmk
        have HSQ : Hid (squareB H T.length = true) := Lib.hid (by rw [← hk.out]; exact HQ4.out)
        have HROW : Hid (∀ j, j < m → (H.getD j []).length = m) := Lib.hid (fun j hj => (square_iff.1 HQ4.out).2 j (by rw [← hm.out]; exact hj))
        have HH := Lib.hid hH; have HT := Lib.hid hT
        clear hH hT
        have hmm := @run_makeMap Try.prog
        go_upto_region 6 with (fail)
        clear hmm
        have C1 := CSet.made W5
        have bA : Below W5.heap.size W5 (W5.alloc (.map #[] 0)) := ball (Below.refl _ _) _
        obtain ⟨V1, hV1⟩ : ∃ V1, W5.alloc (.map #[] 0) = V1 := ⟨_, rfl⟩
        rw [hV1] at C1 bA ⊢
        clear hV1
        obtain ⟨b1, hb1⟩ : ∃ b1, W5.heap.size = b1 := ⟨_, rfl⟩
        rw [hb1] at C1 ⊢
        have HB1 := Lib.hid hb1
        clear hb1
        go_wp2_with fail
        refine (clash_at H T fr m m a a2 ca cb _ hm hk (HH.out.keep bA) (HT.out.keep bA) hk12 (Lib.hid FEW.out.2.2)).mono ?_
        rintro e w6 ⟨r1, r2, r3, rfl, hr1, hr2, hr3, hr4, b6⟩
        replace C1 := C1.keep b6
        replace bA := bstep bA b6
        have HWF : Hid (∀ x ∈ clashV H (tbs T) fr, x.wf) := Lib.hid (clash_wf HT.out.2 (by have := hk.out; omega) HSQ.out)
        obtain ⟨F, hF⟩ : ∃ F, clashV H (tbs T) fr = F := ⟨_, rfl⟩
        rw [hF] at hr1 hr2 HWF
        have HF := Lib.hid hF
        have hr2m : r2 ≤ 9223372036854775807 := Nat.le_trans hr3 hr4
        have HR2 := Lib.hid hr2
        clear hF b6 hr2
        go_wp2_with fail
        go_loopw [55] (fun i wr => ∃ j : Nat, j ≤ r2 ∧ i = .int .i64 j ∧ Below W5.heap.size W5 wr ∧ Hid (At 5 Cz.cs wr r1 F) ∧ Hid (CSet wr b1 j (F.take j))) (fun i _ => r2 - (intOf i).toNat)
        case atStart => exact ⟨0, Nat.zero_le _, rfl, bA, Lib.hid hr1, Lib.hid C1⟩
        case round =>
          clear bA C1 hr1
          obtain ⟨j, hj, rfl, BB, HR1, C1⟩ := hrel
          by_cases hlt : j < r2
          ·
            have hlt' : (j : Int) < (r2 : Int) := by omega
            have hj0 : (0 : Int) ≤ (j : Int) := by omega
            have hlen : j < F.length := by rw [← HR2.out]; exact hlt
            obtain ⟨bb, off, rfl, c0, c1, c2, c3, c4⟩ := HR1.out.cz (Below.refl _ _) (i := j) hlen
            have hxw := HWF.out _ (getD_mem hlen)
            have hft : F.take (j + 1) = F.take j ++ [F.getD j default] := by
              rw [List.take_add_one, List.getElem?_eq_getElem hlen, List.getD_eq_getElem?_getD, List.getElem?_eq_getElem hlen]; rfl
            obtain ⟨x, hx⟩ : ∃ x, F.getD j default = x := ⟨_, rfl⟩
            simp only [hx] at c0 c1 c2 c3 c4 hft hxw
            have HFT := Lib.hid hft; have HXW := Lib.hid hxw
            clear hx hft hxw hlen
            go_upto_region 9 with (fail)
            clear c0 c1 c2 c3 c4
            have Tx := CAt.new wr [.int .i64 x.s, .int .i64 x.o, .int .i64 x.l, .int .i64 x.f, .int .i64 x.c] 75
            have bA : Below wr.heap.size wr (wr.alloc (.cells #[.int .i64 x.s, .int .i64 x.o, .int .i64 x.l, .int .i64 x.f, .int .i64 x.c] 75)) := ball (Below.refl _ _) _
            obtain ⟨V2, hV2⟩ : ∃ V2, wr.alloc (.cells #[.int .i64 x.s, .int .i64 x.o, .int .i64 x.l, .int .i64 x.f, .int .i64 x.c] 75) = V2 := ⟨_, rfl⟩
            rw [hV2] at Tx bA ⊢
            clear hV2
            obtain ⟨xb, hxb⟩ : ∃ xb, wr.heap.size = xb := ⟨_, rfl⟩
            rw [hxb] at Tx ⊢
            clear hxb
            have C2 := C1.out.keep bA
            have R2 := HR1.out.keep bA
            replace BB := bstep BB bA
            clear bA C1 HR1
            obtain ⟨w7, hup, C3, hg7⟩ := C2.put (Nat.lt_of_lt_of_le hlt (Nat.le_trans hr3 hr4)) HXW.out
            have BB7 := bel_grown BB hg7 (by rw [HB1.out]; exact Nat.le_refl _) BB.size
            have R3 := Lib.hid (R2.map C2 hg7)
            have C4 : Hid (CSet w7 b1 (j + 1) (F.take (j + 1))) := Lib.hid (by rw [HFT.out]; exact C3)
            have HUP := Lib.hid hup
            clear hup C2 C3 R2 BB hg7
            have x0 := Tx 0 _ rfl
            have x1 := Tx 1 _ rfl
            have x2 := Tx 2 _ rfl
            have x3 := Tx 3 _ rfl
            have x4 := Tx 4 _ rfl
            go_wp2_with (at_mapUpdate; refine wpList_update rfl _ _ _ 73 rfl _ _ _ rfl rfl rfl HUP.out ?_)
            clear x0 x1 x2 x3 x4
            go_wp2_with fail
            go_roundw
            case rel => exact ⟨j + 1, by omega, by go_num, BB7, R3, C4⟩
            case measure => simp [intOf]; omega
          ·
            obtain rfl : r2 = j := by omega
            have hlt' : ¬ (r2 : Int) < (r2 : Int) := by omega
            replace C1 : Hid (CSet wr b1 r2 F) := Lib.hid (by have := C1.out; rwa [HR2.out, List.take_length, ← HR2.out] at this)
            clear HR1
            have hmm := @run_makeMap Try.prog
            go_upto_region 12 with (fail)
            clear hmm
            have D1 := CSet.made wr
            have bA : Below wr.heap.size wr (wr.alloc (.map #[] 0)) := ball (Below.refl _ _) _
            have hb12 : b1 ≠ wr.heap.size := Nat.ne_of_lt C1.out.lt
            have hws : W5.heap.size ≤ wr.heap.size := BB.size
            replace C1 := Lib.hid (C1.out.keep bA)
            replace BB := bstep BB bA
            obtain ⟨V3, hV3⟩ : ∃ V3, wr.alloc (.map #[] 0) = V3 := ⟨_, rfl⟩
            rw [hV3] at C1 D1 BB ⊢
            clear hV3 bA
            obtain ⟨b2, hb2⟩ : ∃ b2, wr.heap.size = b2 := ⟨_, rfl⟩
            rw [hb2] at D1 hb12 hws ⊢
            clear hb2
            obtain ⟨TT, hTT⟩ : ∃ TT, tbs T = TT := ⟨_, rfl⟩
            have HTT := Lib.hid hTT
            clear hTT
            go_wp2_with fail
            go_loopw [65] (fun i wr => ∃ l q : Nat, l ≤ m ∧ Bnd q l 0 0 0 ∧ i = .int .i64 l ∧ Below W5.heap.size W5 wr ∧ Hid (CSet wr b1 r2 F) ∧ Hid (CSet wr b2 q (wL H TT fr l))) (fun i _ => m - (intOf i).toNat)
            case atStart => exact ⟨0, 0, Nat.zero_le _, Bnd.zero, rfl, BB, C1, Lib.hid D1⟩
            case round =>
              clear BB C1 D1
              obtain ⟨l, q, hl, hq, rfl, BB, C1, D1⟩ := hrel
              by_cases hlt2 : l < m
              ·
                have hlt2' : (l : Int) < (m : Int) := by omega
                have hl0 : (0 : Int) ≤ (l : Int) := by omega
                have hwl : I64 (l : Int) := wf_nat (by omega)
                have HWL := Lib.hid hwl
                clear hwl
                have hlenx : l < T.length := by rw [← hk.out]; exact hlt2
                obtain ⟨btx, ofx, etx, -, t0, t1, t2⟩ := HT.out.at BB (i := l) hlenx
                have hox := HT.out.2 _ (getD_mem hlenx)
                have h40x := FEW.out.2.2 _ (getD_mem hlenx)
                have htxx := tbs_at hlenx
                rw [HTT.out] at htxx
                obtain ⟨x, hxx⟩ : ∃ x, T.getD l default = x := ⟨_, rfl⟩
                rw [hxx] at t0 t1 t2 hox h40x htxx
                obtain ⟨ngx1, nux1⟩ := h40x
                have HOx := Lib.hid hox
                have HTXx := Lib.hid htxx
                cases etx
                clear hox hxx htxx hlenx
                go_upto_region 15 with (fail)
                clear t0 t1 t2
                have Tx := CAt.new wr [.slice x.ua x.nu x.uc, .slice x.ga x.ng x.gc, .slice x.aa x.na x.ac] 26
                have bA : Below wr.heap.size wr (wr.alloc (.cells #[.slice x.ua x.nu x.uc, .slice x.ga x.ng x.gc, .slice x.aa x.na x.ac] 26)) := ball (Below.refl _ _) _
                replace BB := bstep BB bA
                replace C1 := Lib.hid (C1.out.keep bA)
                replace D1 := Lib.hid (D1.out.keep bA)
                obtain ⟨V4, hV4⟩ : ∃ V4, wr.alloc (.cells #[.slice x.ua x.nu x.uc, .slice x.ga x.ng x.gc, .slice x.aa x.na x.ac] 26) = V4 := ⟨_, rfl⟩
                rw [hV4] at Tx BB C1 D1 ⊢
                clear hV4 bA
                obtain ⟨xb, hxb⟩ : ∃ xb, wr.heap.size = xb := ⟨_, rfl⟩
                rw [hxb] at Tx ⊢
                clear hxb
                have x1 := Tx 1 _ rfl
                obtain ⟨A2, hA2⟩ : ∃ A2, wL H TT fr l = A2 := ⟨_, rfl⟩
                rw [hA2] at D1
                have HA2 := Lib.hid hA2
                clear hA2
                have hgm := HOx.out.gm; have hgc := HOx.out.gc
                unfold maxLen at hgm
                obtain ⟨ga, hga⟩ : ∃ ga, x.ga = ga := ⟨_, rfl⟩
                rw [hga] at x1
                have HGA := Lib.hid hga
                clear hga
                go_wp2_with fail
                clear x1 Tx
                go_loopw [73] (fun i wr => ∃ j q : Nat, j ≤ x.ng ∧ Bnd q l j 0 0 ∧ i = .int .i64 j ∧ Below W5.heap.size W5 wr ∧ Hid (CSet wr b1 r2 F) ∧ Hid (CSet wr b2 q (A2 ++ wG H TT fr l (x.T.G.take j)))) (fun i _ => x.ng - (intOf i).toNat)
                case atStart => exact ⟨0, q, Nat.zero_le _, hq, rfl, BB, C1, Lib.hid (by rw [show x.T.G.take 0 = [] from rfl, show wG H TT fr l [] = [] from rfl, List.append_nil]; exact D1.out)⟩
                case round =>
                  clear BB C1 D1 hq
                  obtain ⟨j, q, hj, hq, rfl, BB, C1, D1⟩ := hrel
                  by_cases hlt3 : j < x.ng
                  ·
                    have hlt3' : (j : Int) < (x.ng : Int) := by omega
                    have hj0 : (0 : Int) ≤ (j : Int) := by omega
                    have hlen : j < x.T.G.length := by rw [← HOx.out.gn]; exact hlt3
                    obtain ⟨bg, og, eg, d0, d1, d2, d3, d4⟩ := HOx.out.g.gr BB (i := j) hlen
                    have hgs := wG_succ (H := H) (T := TT) (fr := fr) (l := l) hlen
                    have hgw := HOx.out.gw _ (getD_mem hlen)
                    obtain ⟨g, hg⟩ : ∃ g, x.T.G.getD j default = g := ⟨_, rfl⟩
                    simp only [hg] at d0 d1 d2 d3 d4 hgs hgw
                    have HGS := Lib.hid hgs; have HGW := Lib.hid hgw
                    clear hg hgs hgw hlen
                    obtain rfl : ga = some ⟨bg, og, none⟩ := HGA.out.symm.trans eg
                    clear eg
                    go_upto_region 18 with (fail)
                    clear d0 d1 d2 d3 d4
                    have Tg := CAt.new wr [.int .i64 g.s, .int .i64 g.o, .int .i64 g.p, .int .i64 g.t, .int .i64 g.u] 63
                    have bA : Below wr.heap.size wr (wr.alloc (.cells #[.int .i64 g.s, .int .i64 g.o, .int .i64 g.p, .int .i64 g.t, .int .i64 g.u] 63)) := ball (Below.refl _ _) _
                    replace BB := bstep BB bA
                    replace C1 := Lib.hid (C1.out.keep bA)
                    replace D1 := Lib.hid (D1.out.keep bA)
                    obtain ⟨V5, hV5⟩ : ∃ V5, wr.alloc (.cells #[.int .i64 g.s, .int .i64 g.o, .int .i64 g.p, .int .i64 g.t, .int .i64 g.u] 63) = V5 := ⟨_, rfl⟩
                    rw [hV5] at Tg BB C1 D1 ⊢
                    clear hV5 bA
                    obtain ⟨gb, hgb⟩ : ∃ gb, wr.heap.size = gb := ⟨_, rfl⟩
                    rw [hgb] at Tg ⊢
                    clear hgb
                    obtain ⟨A3, hA3⟩ : ∃ A3, A2 ++ wG H TT fr l (x.T.G.take j) = A3 := ⟨_, rfl⟩
                    rw [hA3] at D1
                    have HA3 := Lib.hid hA3
                    clear hA3
                    go_wp2_with fail
                    go_loopw [79] (fun i wr => ∃ c q : Nat, c ≤ m ∧ Bnd q l j c 0 ∧ i = .int .i64 c ∧ Below W5.heap.size W5 wr ∧ CAt wr gb [.int .i64 g.s, .int .i64 g.o, .int .i64 g.p, .int .i64 g.t, .int .i64 g.u] ∧ Hid (CSet wr b1 r2 F) ∧ Hid (CSet wr b2 q (A3 ++ wC H TT fr l g c))) (fun i _ => m - (intOf i).toNat)
                    case atStart => exact ⟨0, q, Nat.zero_le _, hq, rfl, BB, Tg, C1, Lib.hid (by rw [show wC H TT fr l g 0 = [] from rfl, List.append_nil]; exact D1.out)⟩
                    case round =>
                      clear BB C1 D1 hq Tg
                      obtain ⟨c, q, hc, hq, rfl, BB, Tg, C1, D1⟩ := hrel
                      by_cases hlt4 : c < m
                      ·
                        have hlt4' : (c : Int) < (m : Int) := by omega
                        have hc0 : (0 : Int) ≤ (c : Int) := by omega
                        have hwc : I64 (c : Int) := wf_nat (by omega)
                        have HWC := Lib.hid hwc
                        clear hwc
                        have hleny : c < T.length := by rw [← hk.out]; exact hlt4
                        obtain ⟨bty, ofy, ety, -, t0, t1, t2⟩ := HT.out.at BB (i := c) hleny
                        have hoy := HT.out.2 _ (getD_mem hleny)
                        have h40y := FEW.out.2.2 _ (getD_mem hleny)
                        have htxy := tbs_at hleny
                        rw [HTT.out] at htxy
                        obtain ⟨y, hxy⟩ : ∃ y, T.getD c default = y := ⟨_, rfl⟩
                        rw [hxy] at t0 t1 t2 hoy h40y htxy
                        obtain ⟨ngy1, nuy1⟩ := h40y
                        have HOy := Lib.hid hoy
                        have HTXy := Lib.hid htxy
                        cases ety
                        clear hoy hxy htxy hleny
                        go_upto_region 21 with (fail)
                        clear t0 t1 t2
                        have Ty := CAt.new wr [.slice y.ua y.nu y.uc, .slice y.ga y.ng y.gc, .slice y.aa y.na y.ac] 26
                        have bA : Below wr.heap.size wr (wr.alloc (.cells #[.slice y.ua y.nu y.uc, .slice y.ga y.ng y.gc, .slice y.aa y.na y.ac] 26)) := ball (Below.refl _ _) _
                        replace Tg := Tg.keep bA
                        replace BB := bstep BB bA
                        replace C1 := Lib.hid (C1.out.keep bA)
                        replace D1 := Lib.hid (D1.out.keep bA)
                        obtain ⟨V6, hV6⟩ : ∃ V6, wr.alloc (.cells #[.slice y.ua y.nu y.uc, .slice y.ga y.ng y.gc, .slice y.aa y.na y.ac] 26) = V6 := ⟨_, rfl⟩
                        rw [hV6] at Ty BB C1 D1 Tg ⊢
                        clear hV6 bA
                        obtain ⟨yb, hyb⟩ : ∃ yb, wr.heap.size = yb := ⟨_, rfl⟩
                        rw [hyb] at Ty ⊢
                        clear hyb
                        have y0 := Ty 0 _ rfl
                        obtain ⟨A4, hA4⟩ : ∃ A4, A3 ++ wC H TT fr l g c = A4 := ⟨_, rfl⟩
                        rw [hA4] at D1
                        have HA4 := Lib.hid hA4
                        clear hA4
                        have hum := HOy.out.um; have huc := HOy.out.uc
                        unfold maxLen at hum
                        obtain ⟨ua, hua⟩ : ∃ ua, y.ua = ua := ⟨_, rfl⟩
                        rw [hua] at y0
                        have HUA := Lib.hid hua
                        clear hua
                        go_wp2_with fail
                        clear y0 Ty
                        go_loopw [87] (fun i wr => ∃ p q : Nat, p ≤ y.nu ∧ Bnd q l j c p ∧ i = .int .i64 p ∧ Below W5.heap.size W5 wr ∧ CAt wr gb [.int .i64 g.s, .int .i64 g.o, .int .i64 g.p, .int .i64 g.t, .int .i64 g.u] ∧ Hid (CSet wr b1 r2 F) ∧ Hid (CSet wr b2 q (A4 ++ wU H fr l g c (y.T.U.take p)))) (fun i _ => y.nu - (intOf i).toNat)
                        case atStart => exact ⟨0, q, Nat.zero_le _, hq, rfl, BB, Tg, C1, Lib.hid (by rw [show y.T.U.take 0 = [] from rfl, show wU H fr l g c [] = [] from rfl, List.append_nil]; exact D1.out)⟩
                        case round =>
                          clear BB C1 D1 hq Tg
                          obtain ⟨p, q, hp, hq, rfl, BB, Tg, C1, D1⟩ := hrel
                          by_cases hlt5 : p < y.nu
                          ·
                            have hlt5' : (p : Int) < (y.nu : Int) := by omega
                            have hp0 : (0 : Int) ≤ (p : Int) := by omega
                            have hlen : p < y.T.U.length := by rw [← HOy.out.un]; exact hlt5
                            obtain ⟨bu, ou, eu, d0, d1, d2, d3⟩ := HOy.out.u.us BB (i := p) hlen
                            have hus := wU_succ (H := H) (fr := fr) (l := l) (g := g) (c := c) hlen
                            obtain ⟨u, hu⟩ : ∃ u, y.T.U.getD p default = u := ⟨_, rfl⟩
                            simp only [hu] at d0 d1 d2 d3 hus
                            have HUS := Lib.hid hus
                            clear hu hus hlen
                            obtain rfl : ua = some ⟨bu, ou, none⟩ := HUA.out.symm.trans eu
                            clear eu
                            go_upto_region 24 with (fail)
                            clear d0 d1 d2 d3
                            have Tu := CAt.new wr [.int .i64 u.s, .int .i64 u.o, .int .i64 u.p, .int .i64 u.t] 43
                            have bA : Below wr.heap.size wr (wr.alloc (.cells #[.int .i64 u.s, .int .i64 u.o, .int .i64 u.p, .int .i64 u.t] 43)) := ball (Below.refl _ _) _
                            replace Tg := Tg.keep bA
                            replace BB := bstep BB bA
                            replace C1 := Lib.hid (C1.out.keep bA)
                            replace D1 := Lib.hid (D1.out.keep bA)
                            obtain ⟨V7, hV7⟩ : ∃ V7, wr.alloc (.cells #[.int .i64 u.s, .int .i64 u.o, .int .i64 u.p, .int .i64 u.t] 43) = V7 := ⟨_, rfl⟩
                            rw [hV7] at Tu BB C1 D1 Tg ⊢
                            clear hV7 bA
                            obtain ⟨ub, hub⟩ : ∃ ub, wr.heap.size = ub := ⟨_, rfl⟩
                            rw [hub] at Tu ⊢
                            clear hub
                            obtain ⟨bh, oh, ra, rc, eh, h0r, hr0, -, -⟩ := HH.out.at BB (i := l) (by rw [← hm.out]; exact hlt2)
                            rw [HROW.out l hlt2] at h0r
                            subst eh
                            obtain ⟨br, orr, er, hr1⟩ := hr0.at (Below.refl _ _) (i := c) (by rw [HROW.out l hlt2]; exact hlt4)
                            subst er
                            obtain ⟨q0, hq0⟩ : ∃ q0, ((c : Int) != (l : Int)) = q0 := ⟨_, rfl⟩
                            obtain ⟨q1, hq1⟩ : ∃ q1, ((c : Int) != g.p) = q1 := ⟨_, rfl⟩
                            obtain ⟨q2, hq2⟩ : ∃ q2, (H.getD l []).getD c false = q2 := ⟨_, rfl⟩
                            rw [hq2] at hr1
                            obtain ⟨q3, hq3⟩ : ∃ q3, decide (u.s = g.s ∧ u.o = g.o) = q3 := ⟨_, rfl⟩
                            obtain ⟨q4, hq4⟩ : ∃ q4, decide (fr ≤ g.u) = q4 := ⟨_, rfl⟩
                            have HIT : Hid (hitU H fr l g c u = (q0 && q1 && q2 && q3 && q4)) := Lib.hid (hitU_parts hq0 hq1 hq2 hq3 hq4)
                            have heq := eq_cell u.s u.o g.s g.o q3 hq3
                            clear hq2 hq3 hr0
                            have g0 := Tg 0 _ rfl
                            have g1 := Tg 1 _ rfl
                            have g2 := Tg 2 _ rfl
                            have g3 := Tg 3 _ rfl
                            have g4 := Tg 4 _ rfl
                            have u0 := Tu 0 _ rfl
                            have u1 := Tu 1 _ rfl
                            have u2 := Tu 2 _ rfl
                            have u3 := Tu 3 _ rfl
                            cases q0
                            ·
                              go_wp2_with fail
                              go_roundw
                              case rel => exact ⟨p + 1, q, by omega, hq.stay, by go_num, BB, Tg, C1, Lib.hid (by rw [HUS.out, HIT.out]; exact (List.append_nil (wU H fr l g c (List.take p y.T.U))).symm ▸ D1.out)⟩
                              case measure => simp [intOf]; omega
                            ·
                              cases q1
                              ·
                                go_wp2_with fail
                                go_roundw
                                case rel => exact ⟨p + 1, q, by omega, hq.stay, by go_num, BB, Tg, C1, Lib.hid (by rw [HUS.out, HIT.out]; exact (List.append_nil (wU H fr l g c (List.take p y.T.U))).symm ▸ D1.out)⟩
                                case measure => simp [intOf]; omega
                              ·
                                cases q2
                                ·
                                  go_wp2_with fail
                                  go_roundw
                                  case rel => exact ⟨p + 1, q, by omega, hq.stay, by go_num, BB, Tg, C1, Lib.hid (by rw [HUS.out, HIT.out]; exact (List.append_nil (wU H fr l g c (List.take p y.T.U))).symm ▸ D1.out)⟩
                                  case measure => simp [intOf]; omega
                                ·
                                  cases q3
                                  ·
                                    go_wp2_with fail
                                    go_roundw
                                    case rel => exact ⟨p + 1, q, by omega, hq.stay, by go_num, BB, Tg, C1, Lib.hid (by rw [HUS.out, HIT.out]; exact (List.append_nil (wU H fr l g c (List.take p y.T.U))).symm ▸ D1.out)⟩
                                    case measure => simp [intOf]; omega
                                  ·
                                    cases q4
                                    ·
                                      go_wp2_with fail
                                      go_roundw
                                      case rel => exact ⟨p + 1, q, by omega, hq.stay, by go_num, BB, Tg, C1, Lib.hid (by rw [HUS.out, HIT.out]; exact (List.append_nil (wU H fr l g c (List.take p y.T.U))).symm ▸ D1.out)⟩
                                      case measure => simp [intOf]; omega
                                    ·
                                      have hcz : (clO l g c).wf := ⟨HGW.out.s, HGW.out.o, HWL.out, HGW.out.p, HWC.out⟩
                                      obtain ⟨w7, hup, D2, hg7⟩ := D1.out.put (hq.lt (by omega) (by omega) (by omega) (by omega)) hcz
                                      have BB7 := bel_grown BB hg7 hws BB.size
                                      have Tg7 := Tg.map D1.out hg7
                                      have C7 := Lib.hid (C1.out.grown hg7 (by intro e; cases e; exact hb12 rfl))
                                      have D3 : Hid (CSet w7 b2 (q + 1) (A4 ++ wU H fr l g c (y.T.U.take (p + 1)))) := Lib.hid (by rw [HUS.out, HIT.out, if_pos (show (true && true && true && true && true) = true from rfl), ← List.append_assoc]; exact D2)
                                      unfold clO at hup
                                      have HUP := Lib.hid hup
                                      clear hup D2 hcz hg7
                                      go_wp2_with (at_mapUpdate; refine wpList_update rfl _ _ _ 73 rfl _ _ _ rfl rfl rfl HUP.out ?_)
                                      go_wp2_with fail
                                      go_roundw
                                      case rel => exact ⟨p + 1, q + 1, by omega, hq.put, by go_num, BB7, Tg7, C7, D3⟩
                                      case measure => simp [intOf]; omega
                          ·
                            obtain rfl : y.nu = p := by omega
                            have hlt5' : ¬ (y.nu : Int) < (y.nu : Int) := by omega
                            have D2 : Hid (CSet wr b2 q (A3 ++ wC H TT fr l g (c + 1))) := Lib.hid (by rw [wC_succ, HTXy.out, ← List.append_assoc, HA4.out]; have := D1.out; rwa [HOy.out.un, List.take_length] at this)
                            go_wp2_with fail
                            go_roundw
                            case rel => exact ⟨c + 1, q, by omega, hq.endU nuy1, by go_num, BB, Tg, C1, D2⟩
                            case measure => simp [intOf]; omega
                      ·
                        obtain rfl : m = c := by omega
                        have hlt4' : ¬ (m : Int) < (m : Int) := by omega
                        have D2 : Hid (CSet wr b2 q (A2 ++ wG H TT fr l (x.T.G.take (j + 1)))) := Lib.hid (by rw [HGS.out, ← List.append_assoc, HA3.out, show TT.length = m from by rw [← HTT.out, tbs_len, ← hk.out]]; exact D1.out)
                        go_wp2_with fail
                        go_roundw
                        case rel => exact ⟨j + 1, q, by omega, hq.endC hk12, by go_num, BB, C1, D2⟩
                        case measure => simp [intOf]; omega
                  ·
                    obtain rfl : x.ng = j := by omega
                    have hlt3' : ¬ (x.ng : Int) < (x.ng : Int) := by omega
                    have D2 : Hid (CSet wr b2 q (wL H TT fr (l + 1))) := Lib.hid (by rw [wL_succ, HTXx.out, HA2.out]; have := D1.out; rwa [HOx.out.gn, List.take_length] at this)
                    go_wp2_with fail
                    go_roundw
                    case rel => exact ⟨l + 1, q, by omega, hq.endG ngx1, by go_num, BB, C1, D2⟩
                    case measure => simp [intOf]; omega
              ·
                obtain rfl : m = l := by omega
                have hlt2' : ¬ (m : Int) < (m : Int) := by omega
                have HMEM : Hid (∀ z, z ∈ F ↔ z ∈ wL H TT fr m) := Lib.hid (fun z => by
                  have h := want_iff (H := H) (T := tbs T) (fr := fr) (by rw [tbs_len]; exact HSQ.out) z
                  rw [tbs_len, ← hk.out, HTT.out] at h
                  have h2 := HF.out
                  rw [HTT.out] at h2
                  rw [← h2]; exact h)
                obtain ⟨A, hA⟩ : ∃ A, wL H TT fr m = A := ⟨_, rfl⟩
                rw [hA] at D1 HMEM
                clear hA
                have hsz : Maps.size (czD A) = Maps.size (czD F) := congrArg Maps.size (D1.out.alike C1.out (fun z => (HMEM.out z).symm))
                obtain ⟨s1, hs1⟩ : ∃ s1, Maps.size (czD A) = s1 := ⟨_, rfl⟩
                have HS1 := Lib.hid hs1
                have HS2 : Hid (Maps.size (czD F) = s1) := Lib.hid (hsz.symm.trans hs1)
                clear hsz hs1
                have hne : ((s1 : Int) != (s1 : Int)) = false := by simp
                go_wp2_with (first
                  | (at_len; first | refine wpList_len_cs _ rfl (.tmp 134) rfl b2 q A s1 rfl D1.out HS1.out ?_ | refine wpList_len_cs _ rfl (.tmp 136) rfl b1 r2 F s1 rfl C1.out HS2.out ?_)
                  | (at_range; refine wpList_range_cs _ rfl (.tmp 139) rfl b2 q A rfl D1.out ?_; intro w0 hrg hg0 hs0))
                clear hne
                have BB0 : Below W5.heap.size W5 w0 := BB.grown hg0 BB.size (fun j hj => by cases hj)
                have C2 := Lib.hid (C1.out.grown hg0 (by simp))
                obtain ⟨ri, hri⟩ : ∃ ri, wr.heap.size = ri := ⟨_, rfl⟩
                have hb1r : b1 ≠ ri := by rw [← hri]; exact Nat.ne_of_lt C1.out.lt
                have hb2r : b2 ≠ ri := by rw [← hri]; exact Nat.ne_of_lt D1.out.lt
                have hrW : W5.heap.size ≤ ri := by rw [← hri]; exact BB.size
                rw [hri] at hrg ⊢
                clear hri hg0 hs0 BB C1 D1
                have HRG := Lib.hid hrg
                clear hrg
                go_loopw [25] (fun _ wr => Below W5.heap.size W5 wr ∧ Hid (CRng wr b2 ri q A) ∧ Hid (CSet wr b1 r2 F)) (fun _ wr => wr.rangeLeft b2 ri)
                case atStart => exact ⟨BB0, HRG, C2⟩
                case round =>
                  clear BB0 HRG C2
                  obtain ⟨BB, HRG, C1⟩ := hrel
                  go_wp2_with (at_next; refine wpList_next_cs _ rfl (.tmp 140) rfl b2 ri q A rfl HRG.out ?_ ?_)
                  ·
                    intro _
                    obtain ⟨kk, hkk⟩ : ∃ kk : Nat, who.tmod m = kk := ⟨(who.tmod m).toNat, by rw [Int.tmod_eq_emod_of_nonneg hw0]; have := Int.emod_nonneg who (b := (m : Int)) (by omega); omega⟩
                    have hkm : kk < m := by
                      rw [Int.tmod_eq_emod_of_nonneg hw0] at hkk; have := Int.emod_lt_of_pos who (b := (m : Int)) (by omega); omega
                    have hkk0 : (0 : Int) ≤ (kk : Int) := by omega
                    have hkk1 : (kk : Int) < (m : Int) := by omega
                    go_upto_region 38 with (fail)
                    clear hkk
                    obtain ⟨W6, hW6⟩ : ∃ W6, W6 = wr := ⟨_, rfl⟩
                    subst hW6
                    clear HRG
                    have H6 := HH.out.keep BB
                    have T6 := HT.out.keep BB
                    obtain ⟨bh, oh, -, -, eh, -⟩ := H6.at (Below.refl _ _) (i := kk) (by rw [← hm.out]; exact hkm)
                    cases eh
                    obtain ⟨bt, ot, et, -⟩ := T6.1.at (i := kk) (by rw [← hk.out]; exact hkm)
                    cases et
                    obtain ⟨RC, hRO, hRC⟩ := rows_list H6
                    have hTC := cells_at tv_size (by decide) T6.1
                    have HRO := Lib.hid hRO; have HRC := Lib.hid hRC; have HTC := Lib.hid hTC
                    clear hRO hRC hTC H6 T6
                    obtain ⟨i0, hi9, hz0, hz1, hz2⟩ := info_parts inf66
                    go_wp2_with (at_builtin; refine wpList_append_own_at _ rfl (.tmp 153) (.tmp 154) 28 rfl W6.heap.size 66 i0 _ 1 24 Try.underlying28 hi9 hz0 hz1 hz2 rfl (by decide) (.slice (some ⟨W6.heap.size, 0, none⟩) 0 0) 0 [] rfl (World.ownsRow_made W6 #[] 0 (Nat.le_refl _) (by decide) rfl) ⟨bh, oh, none⟩ m ca RC rfl (by rw [Nat.mul_one, HRO.out.1, ← hm.out]) (fun j u hj => old1 (HRC.out.ad j u hj) _) HRO.out.one (by unfold maxLen; omega) (by omega) (by simp) ?_)
                    intro v1 w7 R1 hg1 hnn1 hv1
                    clear hi9 hz0 hz1 hz2 hnn1 hv1
                    have bA : Below W6.heap.size W6 (W6.alloc (.cells #[] 66)) := ball (Below.refl _ _) _
                    have B7 : Below W6.heap.size W6 w7 := bA.grown hg1 bA.size (fun j hj => by cases hj; exact Nat.le_refl _)
                    clear bA hg1
                    have h67 := B7.size
                    obtain ⟨i1, hi9, hz0, hz1, hz2⟩ := info_parts info26
                    go_wp2_with (at_builtin; refine wpList_append_own_at _ rfl (.tmp 156) (.tmp 157) 29 rfl w7.heap.size 26 i1 _ 3 72 Try.underlying29 hi9 hz0 hz1 hz2 rfl (by decide) (.slice (some ⟨w7.heap.size, 0, none⟩) 0 0) 0 [] rfl (World.ownsRow_made w7 #[] 0 (Nat.le_refl _) (by decide) rfl) ⟨bt, ot, none⟩ m cb (flatL Tv.cs T) rfl (by rw [flatL_len tv_size, ← hk.out]) (fun j u hj => old1 (keep1 B7 (HTC.out.ad j u hj)) _) (flat_one tv_one _) (by unfold maxLen; omega) (by omega) (by simp) ?_)
                    intro v2 w8 R2 hg2 hnn2 hv2
                    clear hi9 hz0 hz1 hz2 hnn2 hv2
                    have bA : Below w7.heap.size w7 (w7.alloc (.cells #[] 26)) := ball (Below.refl _ _) _
                    have B8 : Below w7.heap.size w7 w8 := bA.grown hg2 bA.size (fun j hj => by cases hj; exact Nat.le_refl _)
                    clear bA hg2
                    have R1b := ownsRow_below R1 B8
                    have B68 := bstep B7 B8
                    have RO8 := Lib.hid (HRO.out.keep B68)
                    have hmH : m = H.length := hm.out
                    have hkT : m = T.length := hk.out
                    obtain ⟨g1, cg1, rfl, hH8, hc1, hc2, hg1b⟩ := tab_of_row R1b RO8.out hmH (by omega)
                    obtain ⟨ag2, cg2, rfl, hT8, hd1, hd2⟩ := own_at tv_size R2 hkT
                    have HmH := Lib.hid hmH; have HkT := Lib.hid hkT
                    obtain ⟨g2, og2, rfl, -⟩ := hT8.at (i := kk) (by rw [← hkT]; exact hkm)
                    obtain rfl : og2 = 0 := row_off R2
                    have hg1l := (R1.lt g1 rfl).2
                    have hg2l := (R2.lt g2 rfl).1
                    have hg12 : g1 ≠ g2 := by omega
                    clear hmH hkT
                    have C8 := Lib.hid (C1.out.keep B68)
                    have BB8 := bstep BB B68
                    cases deaf
                    ·
                      obtain ⟨b', o', ee, hcc⟩ := hT8.at (i := kk) (by rw [← HkT.out]; exact hkm)
                      cases ee
                      have hcl := hcc kk (by rw [← HkT.out]; exact hkm)
                      have s0 := hcl 0 _ rfl
                      have s1 := hcl 1 _ rfl
                      have s2 := hcl 2 _ rfl
                      simp only [Nat.zero_add, Nat.add_zero] at s0 s1 s2
                      have hfz := World.ownsRow.frozenAt R2
                      have f0 := hfz (kk * 3)
                      have f1 := hfz (kk * 3 + 1)
                      have f2 := hfz (kk * 3 + 2)
                      clear hcc hcl
                      go_upto_region 42 with (fail)
                      clear s0 s1 s2 f0 f1 f2
                      have BW : Below W6.heap.size W6 (((w8.setCell ⟨g2, kk * 3, none⟩ (.slice none 0 0)).setCell ⟨g2, kk * 3 + 1, none⟩ (.slice none 0 0)).setCell ⟨g2, kk * 3 + 2, none⟩ (.slice none 0 0)) :=
                        ((B68.setCell (p := ⟨g2, kk * 3, none⟩) (by simp only; omega) _).setCell (p := ⟨g2, kk * 3 + 1, none⟩) (by simp only; omega) _).setCell (p := ⟨g2, kk * 3 + 2, none⟩) (by simp only; omega) _
                      have hTS := ts_set hT8 (k := kk) (by rw [← HkT.out]; exact hkm)
                      simp only [Nat.zero_add] at hTS
                      have hne12 : ∀ x, (Value.slice (some ⟨g1, 0, none⟩) m cg1).ownBlock = some x → x ≠ g2 := fun x hx => by cases hx; exact hg12
                      have RW := row_other (row_other (row_other R1b hne12 (kk * 3) (.slice none 0 0)) hne12 (kk * 3 + 1) (.slice none 0 0)) hne12 (kk * 3 + 2) (.slice none 0 0)
                      have gW := ((grown_set w8 g2 (kk * 3) (.slice none 0 0)).andThen (grown_set _ g2 (kk * 3 + 1) (.slice none 0 0)) (fun j hj => .inr (by cases hj; rfl))).andThen (grown_set _ g2 (kk * 3 + 2) (.slice none 0 0)) (fun j hj => .inr (by cases hj; rfl))
                      obtain ⟨W9, hW9⟩ : ∃ W9, ((w8.setCell ⟨g2, kk * 3, none⟩ (.slice none 0 0)).setCell ⟨g2, kk * 3 + 1, none⟩ (.slice none 0 0)).setCell ⟨g2, kk * 3 + 2, none⟩ (.slice none 0 0) = W9 := ⟨_, rfl⟩
                      rw [hW9] at BW hTS RW gW ⊢
                      clear hW9
                      obtain ⟨gx, cx, ex, hTab, -⟩ := tab_of_row RW (HRO.out.keep BW) HmH.out (by omega)
                      cases ex
                      have CX : Hid (CSet W9 b1 r2 F) := Lib.hid (C1.out.keep BW)
                      have BX : Below W5.heap.size W5 W9 := bstep BB BW
                      have hTT9 : TsAt W9 (some ⟨g2, 0, none⟩) (T.set kk default) := ⟨hTS, fun y hy => by
                        rcases set_mem hy with hy | rfl
                        · exact (HT.out.2 y hy).keep BX
                        · exact tv_default_ok _⟩
                      have HF40 : Hid (∀ y ∈ T.set kk default, y.ng ≤ 1000 ∧ y.nu ≤ 1000) := Lib.hid (fun y hy => by
                        rcases set_mem hy with hy | rfl
                        · exact FEW.out.2.2 y hy
                        · exact ⟨Nat.zero_le _, Nat.zero_le _⟩)
                      have HKS : Hid (m = (T.set kk default).length) := Lib.hid (by rw [List.length_set]; exact HkT.out)
                      clear R1 R2 R1b RW gW B7 B8 B68 BW hTS hne12 hH8 hT8 BB8 C8 RO8
                      go_wp2_with fail
                      refine (clash_at H (T.set kk default) fr m m _ _ _ _ _ HmH HKS hTab hTT9 hk12 HF40).mono ?_
                      rintro e w10 ⟨t1, t2, t3, rfl, ht1, ht2, ht3, ht4, b10⟩
                      have HSUB : Hid (∀ z ∈ clashV H (tbs ((T.set kk default))) fr, z ∈ F) := Lib.hid (by
                        intro z hz
                        rw [tbs_set] at hz
                        rw [← HF.out]
                        exact clash_drop (k := kk) (by rw [tbs_len]; exact HSQ.out) z hz)
                      have HWF2 : Hid (∀ z ∈ clashV H (tbs ((T.set kk default))) fr, z.wf) := Lib.hid (fun z hz => HWF.out z (HSUB.out z hz))
                      obtain ⟨F2, hF2⟩ : ∃ F2, clashV H (tbs ((T.set kk default))) fr = F2 := ⟨_, rfl⟩
                      rw [hF2] at ht1 ht2 HSUB HWF2
                      have HT2 := Lib.hid ht2
                      have C10 := Lib.hid (CX.out.keep b10)
                      have B10 := bstep BX b10
                      have ht2m : t2 ≤ 9223372036854775807 := Nat.le_trans ht3 ht4
                      clear hF2 b10 ht2 CX BX
                      go_wp2_with fail
                      go_loopw [174] (fun i wr => ∃ j : Nat, j ≤ t2 ∧ i = .int .i64 j ∧ Below W5.heap.size W5 wr ∧ Hid (At 5 Cz.cs wr t1 F2) ∧ Hid (CSet wr b1 r2 F)) (fun i _ => t2 - (intOf i).toNat)
                      case atStart => exact ⟨0, Nat.zero_le _, rfl, B10, Lib.hid ht1, C10⟩
                      case round =>
                        clear B10 C10 ht1
                        obtain ⟨j, hj, rfl, BB, HR1, C1⟩ := hrel
                        by_cases hlt : j < t2
                        ·
                          have hlt' : (j : Int) < (t2 : Int) := by omega
                          have hj0 : (0 : Int) ≤ (j : Int) := by omega
                          have hlen : j < F2.length := by rw [← HT2.out]; exact hlt
                          obtain ⟨bb, off, rfl, c0, c1, c2, c3, c4⟩ := HR1.out.cz (Below.refl _ _) (i := j) hlen
                          have hxw := HWF2.out _ (getD_mem hlen)
                          have hxF := HSUB.out _ (getD_mem hlen)
                          obtain ⟨x, hx⟩ : ∃ x, F2.getD j default = x := ⟨_, rfl⟩
                          simp only [hx] at c0 c1 c2 c3 c4 hxw hxF
                          have HXW := Lib.hid hxw; have HXF := Lib.hid hxF
                          clear hx hxw hxF hlen
                          go_upto_region 45 with (fail)
                          clear c0 c1 c2 c3 c4
                          have Tx := CAt.new wr [.int .i64 x.s, .int .i64 x.o, .int .i64 x.l, .int .i64 x.f, .int .i64 x.c] 75
                          have bA : Below wr.heap.size wr (wr.alloc (.cells #[.int .i64 x.s, .int .i64 x.o, .int .i64 x.l, .int .i64 x.f, .int .i64 x.c] 75)) := ball (Below.refl _ _) _
                          obtain ⟨V2, hV2⟩ : ∃ V2, wr.alloc (.cells #[.int .i64 x.s, .int .i64 x.o, .int .i64 x.l, .int .i64 x.f, .int .i64 x.c] 75) = V2 := ⟨_, rfl⟩
                          rw [hV2] at Tx bA ⊢
                          clear hV2
                          obtain ⟨xb, hxb⟩ : ∃ xb, wr.heap.size = xb := ⟨_, rfl⟩
                          rw [hxb] at Tx ⊢
                          clear hxb
                          have C2 := Lib.hid (C1.out.keep bA)
                          have R2 := Lib.hid (HR1.out.keep bA)
                          replace BB := bstep BB bA
                          have hlk := C2.out.look HXW.out
                          rw [bool_decide_mem HXF.out] at hlk
                          clear bA C1 HR1
                          have x0 := Tx 0 _ rfl
                          have x1 := Tx 1 _ rfl
                          have x2 := Tx 2 _ rfl
                          have x3 := Tx 3 _ rfl
                          have x4 := Tx 4 _ rfl
                          go_wp2_with fail
                          clear x0 x1 x2 x3 x4 hlk
                          go_roundw
                          case rel => exact ⟨j + 1, by omega, by go_num, BB, R2, C2⟩
                          case measure => simp [intOf]; omega
                        ·
                          obtain rfl : t2 = j := by omega
                          have hlt' : ¬ (t2 : Int) < (t2 : Int) := by omega
                          go_wp2_with fail
                          go_ret
                          exact ⟨rfl, bstep B0 BB⟩
                    ·
                      obtain ⟨bq, oq, rq, cq, eqq, hc8, -⟩ := hH8.at (Below.refl _ _) (i := kk) (by rw [← HmH.out]; exact hkm)
                      cases eqq
                      rw [Nat.zero_add] at hc8
                      have f0 := World.ownsRow.frozenAt R1b kk
                      have hmk := make_bools m (by omega) w8
                      have hg1s : g1 < w8.heap.size := (R1b.lt g1 rfl).2
                      go_upto_region 42 with (fail)
                      clear hc8 f0 hmk
                      have G9 : Below W6.heap.size W6 ((w8.setCell ⟨g1, kk, none⟩ (.slice (some ⟨w8.heap.size, 0, none⟩) m m)).alloc (.cells (Array.replicate m (.bool false)) 4)) :=
                        ball (B68.setCell (p := ⟨g1, kk, none⟩) (by simp only; exact (R1b.lt g1 rfl).1) _) _
                      have RW := ((World.ownsRow.stored R1b kk (.slice (some ⟨w8.heap.size, 0, none⟩) m m)).1).alloc (.cells (Array.replicate m (.bool false)) 4)
                      have gW := (grown_set w8 g1 kk (.slice (some ⟨w8.heap.size, 0, none⟩) m m))
                      have hTS : At 3 Tv.cs ((w8.setCell ⟨g1, kk, none⟩ (.slice (some ⟨w8.heap.size, 0, none⟩) m m)).alloc (.cells (Array.replicate m (.bool false)) 4)) (some ⟨g2, 0, none⟩) T :=
                        (hT8.grown gW (.inr ⟨g2, 0, rfl, fun e => by cases e; exact hg12 rfl⟩)).keep (ball (Below.refl _ _) _)
                      have hBo : BoolsAt ((w8.setCell ⟨g1, kk, none⟩ (.slice (some ⟨w8.heap.size, 0, none⟩) m m)).alloc (.cells (Array.replicate m (.bool false)) 4)) (some ⟨w8.heap.size, 0, none⟩) (List.replicate m false) :=
                        .inr ⟨w8.heap.size, 0, rfl, fun j hj => by
                          rw [List.length_replicate] at hj
                          rw [Nat.zero_add]
                          exact (new0 (by simp) (v := .bool false) (by simp [hj])).trans (by simp [hj])⟩
                      obtain ⟨W9, hW9⟩ : ∃ W9, (w8.setCell ⟨g1, kk, none⟩ (.slice (some ⟨w8.heap.size, 0, none⟩) m m)).alloc (.cells (Array.replicate m (.bool false)) 4) = W9 := ⟨_, rfl⟩
                      rw [hW9] at G9 RW hTS hBo ⊢
                      clear hW9 gW
                      have RO9 := (HRO.out.keep G9).set (k := kk) hBo (rc := m) (by simp) (by unfold maxLen; omega)
                      rw [List.length_replicate] at RO9
                      have hmS : m = (H.set kk (List.replicate m false)).length := by rw [List.length_set]; exact HmH.out
                      obtain ⟨gx, cx, ex, hTab, -⟩ := tab_of_row RW RO9 hmS (by omega)
                      cases ex
                      have CX : Hid (CSet W9 b1 r2 F) := Lib.hid (C1.out.keep G9)
                      have BX : Below W5.heap.size W5 W9 := bstep BB G9
                      have hTT9 : TsAt W9 (some ⟨g2, 0, none⟩) T := ⟨hTS, fun y hy => (HT.out.2 y hy).keep BX⟩
                      have HMS := Lib.hid hmS
                      have HF40 : Hid (∀ y ∈ T, y.ng ≤ 1000 ∧ y.nu ≤ 1000) := Lib.hid FEW.out.2.2
                      clear R1 R2 R1b RW B7 B8 B68 hTS hBo hH8 hT8 BB8 C8 RO8 RO9 hmS hg1s
                      go_wp2_with fail
                      refine (clash_at (H.set kk (List.replicate m false)) T fr m m _ _ _ _ _ HMS HkT hTab hTT9 hk12 HF40).mono ?_
                      rintro e w10 ⟨t1, t2, t3, rfl, ht1, ht2, ht3, ht4, b10⟩
                      have HSUB : Hid (∀ z ∈ clashV (H.set kk (List.replicate m false)) (tbs (T)) fr, z ∈ F) := Lib.hid (by
                        intro z hz
                        rw [← HF.out]
                        have hq : (tbs T).length = m := by rw [tbs_len]; exact HkT.out.symm
                        refine clash_deaf ?_ ?_ deaf_le z hz
                        · rw [hq]; exact HQ4.out
                        · rw [hq]; exact deaf_square HQ4.out)
                      have HWF2 : Hid (∀ z ∈ clashV (H.set kk (List.replicate m false)) (tbs (T)) fr, z.wf) := Lib.hid (fun z hz => HWF.out z (HSUB.out z hz))
                      obtain ⟨F2, hF2⟩ : ∃ F2, clashV (H.set kk (List.replicate m false)) (tbs (T)) fr = F2 := ⟨_, rfl⟩
                      rw [hF2] at ht1 ht2 HSUB HWF2
                      have HT2 := Lib.hid ht2
                      have C10 := Lib.hid (CX.out.keep b10)
                      have B10 := bstep BX b10
                      have ht2m : t2 ≤ 9223372036854775807 := Nat.le_trans ht3 ht4
                      clear hF2 b10 ht2 CX BX
                      go_wp2_with fail
                      go_loopw [174] (fun i wr => ∃ j : Nat, j ≤ t2 ∧ i = .int .i64 j ∧ Below W5.heap.size W5 wr ∧ Hid (At 5 Cz.cs wr t1 F2) ∧ Hid (CSet wr b1 r2 F)) (fun i _ => t2 - (intOf i).toNat)
                      case atStart => exact ⟨0, Nat.zero_le _, rfl, B10, Lib.hid ht1, C10⟩
                      case round =>
                        clear B10 C10 ht1
                        obtain ⟨j, hj, rfl, BB, HR1, C1⟩ := hrel
                        by_cases hlt : j < t2
                        ·
                          have hlt' : (j : Int) < (t2 : Int) := by omega
                          have hj0 : (0 : Int) ≤ (j : Int) := by omega
                          have hlen : j < F2.length := by rw [← HT2.out]; exact hlt
                          obtain ⟨bb, off, rfl, c0, c1, c2, c3, c4⟩ := HR1.out.cz (Below.refl _ _) (i := j) hlen
                          have hxw := HWF2.out _ (getD_mem hlen)
                          have hxF := HSUB.out _ (getD_mem hlen)
                          obtain ⟨x, hx⟩ : ∃ x, F2.getD j default = x := ⟨_, rfl⟩
                          simp only [hx] at c0 c1 c2 c3 c4 hxw hxF
                          have HXW := Lib.hid hxw; have HXF := Lib.hid hxF
                          clear hx hxw hxF hlen
                          go_upto_region 45 with (fail)
                          clear c0 c1 c2 c3 c4
                          have Tx := CAt.new wr [.int .i64 x.s, .int .i64 x.o, .int .i64 x.l, .int .i64 x.f, .int .i64 x.c] 75
                          have bA : Below wr.heap.size wr (wr.alloc (.cells #[.int .i64 x.s, .int .i64 x.o, .int .i64 x.l, .int .i64 x.f, .int .i64 x.c] 75)) := ball (Below.refl _ _) _
                          obtain ⟨V2, hV2⟩ : ∃ V2, wr.alloc (.cells #[.int .i64 x.s, .int .i64 x.o, .int .i64 x.l, .int .i64 x.f, .int .i64 x.c] 75) = V2 := ⟨_, rfl⟩
                          rw [hV2] at Tx bA ⊢
                          clear hV2
                          obtain ⟨xb, hxb⟩ : ∃ xb, wr.heap.size = xb := ⟨_, rfl⟩
                          rw [hxb] at Tx ⊢
                          clear hxb
                          have C2 := Lib.hid (C1.out.keep bA)
                          have R2 := Lib.hid (HR1.out.keep bA)
                          replace BB := bstep BB bA
                          have hlk := C2.out.look HXW.out
                          rw [bool_decide_mem HXF.out] at hlk
                          clear bA C1 HR1
                          have x0 := Tx 0 _ rfl
                          have x1 := Tx 1 _ rfl
                          have x2 := Tx 2 _ rfl
                          have x3 := Tx 3 _ rfl
                          have x4 := Tx 4 _ rfl
                          go_wp2_with fail
                          clear x0 x1 x2 x3 x4 hlk
                          go_roundw
                          case rel => exact ⟨j + 1, by omega, by go_num, BB, R2, C2⟩
                          case measure => simp [intOf]; omega
                        ·
                          obtain rfl : t2 = j := by omega
                          have hlt' : ¬ (t2 : Int) < (t2 : Int) := by omega
                          go_wp2_with fail
                          go_ret
                          exact ⟨rfl, bstep B0 BB⟩
                  ·
                    intro y v w1 hy hyw hrg1 hlt6 hg1 hs1 hen
                    have BB1 : Below W5.heap.size W5 w1 := BB.grown hg1 BB.size (fun j hj => by cases hj; exact hrW)
                    have C3 := C1.out.grown hg1 (by intro e; cases e; exact hb1r rfl)
                    have HYW := Lib.hid hyw
                    have HYF := Lib.hid ((HMEM.out y).2 hy)
                    clear hyw hy BB C1 HRG hs1 hg1
                    go_upto_region 35 with (fail)
                    clear hen
                    have Ty := CAt.new w1 [.int .i64 y.s, .int .i64 y.o, .int .i64 y.l, .int .i64 y.f, .int .i64 y.c] 75
                    have bA : Below w1.heap.size w1 (w1.alloc (.cells #[.int .i64 y.s, .int .i64 y.o, .int .i64 y.l, .int .i64 y.f, .int .i64 y.c] 75)) := ball (Below.refl _ _) _
                    have hga : w1.grownBy (w1.alloc (.cells #[.int .i64 y.s, .int .i64 y.o, .int .i64 y.l, .int .i64 y.f, .int .i64 y.c] 75)) none := World.grownBy_alloc _ _ none
                    have hrl := rangeLeft_grown hrg1 hga (by simp) (by simp)
                    have hrg2 := hrg1.kept hga (by simp) (by simp)
                    obtain ⟨V2, hV2⟩ : ∃ V2, w1.alloc (.cells #[.int .i64 y.s, .int .i64 y.o, .int .i64 y.l, .int .i64 y.f, .int .i64 y.c] 75) = V2 := ⟨_, rfl⟩
                    rw [hV2] at Ty bA hrl hrg2 ⊢
                    clear hV2 hga hrg1
                    obtain ⟨yb, hyb⟩ : ∃ yb, w1.heap.size = yb := ⟨_, rfl⟩
                    rw [hyb] at Ty ⊢
                    clear hyb
                    have C4 := Lib.hid (C3.keep bA)
                    have BB2 := bstep BB1 bA
                    have hlk := C4.out.look HYW.out
                    rw [bool_decide_mem HYF.out] at hlk
                    have HRG2 := Lib.hid hrg2
                    have HRL := Lib.hid hrl
                    have HLT := Lib.hid hlt6
                    clear bA C3 BB1 hrg2 hrl hlt6
                    have y0 := Ty 0 _ rfl
                    have y1 := Ty 1 _ rfl
                    have y2 := Ty 2 _ rfl
                    have y3 := Ty 3 _ rfl
                    have y4 := Ty 4 _ rfl
                    go_wp2_with fail
                    clear y0 y1 y2 y3 y4 hlk
                    go_roundw
                    case rel => exact ⟨BB2, HRG2, C4⟩
                    case measure => rw [HRL.out]; exact HLT.out
end Go.Proofs.Ytleenbfldkmcaaa
