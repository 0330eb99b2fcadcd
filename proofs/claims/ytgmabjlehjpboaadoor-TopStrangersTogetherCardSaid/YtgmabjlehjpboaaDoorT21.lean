/- Proved: how a sponsor hears whatever word; a question and a proof that it takes. Conditions: the list is valid and lies in memory; the frame is right; the table of steps lies where it lay. -/
import Derived.Test.YtgmabjlehjpboaaDoorT20
namespace Go.Proofs.YtgmabjlehjpboaaDoor
open Go.RowKit Go.Sort Go.BigFrame Go.Proofs.YtgmabjlehjpboaaDoor.K
set_option linter.unusedVariables false
set_option linter.unusedSimpArgs false
attribute [local go_sem] cell_alloc_old

open Go.Maps Go.Shelf
theorem formed_n {x : Wd} (h : formedB x = true) : inB x.n 1000000000 = true := by
  unfold formedB at h
  simp only [Bool.and_eq_true, decide_eq_true_eq] at h
  obtain ⟨⟨⟨⟨_, h1⟩, h2⟩, _⟩, _⟩ := h
  unfold inB
  simp only [decide_eq_true_eq]; omega
theorem frame_u {fr : Int} (h : inB fr 999999988 = true) : inB (fr + 12) 1000000000 = true := by
  unfold inB at h ⊢; simp only [decide_eq_true_eq] at h ⊢; omega
/-- What a list becomes by a word that is taken. -/
def HearOk (l : List Hf) (x : Wd) (fr : Int) (L : List Hf) : Prop := OkL L ∧ (L = l ∨ (∃ c, L = putL l ⟨x.s, x.n, c, fr + 12, false, 0⟩) ∨ ∃ h, findL l x.s = some h ∧ L = putL l ⟨x.s, h.n, h.c, h.u, true, x.key⟩)
def HearPost (l : List Hf) (x : Wd) (fr : Int) (w : World) (e : Ending) (w' : World) : Prop := (∃ err, ¬ err = 0 ∧ Refused err w e w') ∨ Heard (HearOk l x fr) w e w'
theorem OkL.facts {L : List Hf} (h : OkL L) : Srt L ∧ L.length ≤ 60 ∧ ∀ x ∈ L, I64 x.s := ⟨h.srt, by have := h.len; omega, h.i64⟩
theorem new_ok {x : Wd} {fr c : Int} (hf : formedB x = true) (hfr : inB fr 999999988 = true) (h0 : 0 ≤ c) (h1 : c ≤ 1000000000) : Hf.ok ⟨x.s, x.n, c, fr + 12, false, 0⟩ :=
  ⟨formed_node hf, formed_n hf, by simp [inB, h0, h1], frame_u hfr, by simp [inB], fun _ => rfl⟩
theorem proof_ok {x : Wd} {h : Hf} (ho : h.ok) (hf : formedB x = true) (hk : inB x.key 2000000 = true) : Hf.ok ⟨x.s, h.n, h.c, h.u, true, x.key⟩ :=
  ⟨formed_node hf, ho.n, ho.c, ho.u, hk, fun e => by cases e⟩
section
variable (l : List Hf) (q : Nat) (a : Option Addr) (cap : Nat) (me fr : Int) (w : World)
theorem len_max {l : List Hf} (ok : OkL l) : l.length < maxLen := by have := ok.len; unfold maxLen; omega
/-- A question of somebody who is not on the list, where there is room. -/
theorem hear_ask (s n c key f y : Int) (ok : OkL l) (hq : Hid (q = l.length)) (hl : HsAt w a l) (hfr : inB fr 999999988 = true) (hTab : Tab w)
    (hf : formedB ⟨1, s, me, n, c, key, f, y⟩ = true) (hk : inB key 2000000 = true) (hn : findL l s = none) (h4 : l.length < 4) :
    Calls Tryd.prog 15 #[.slice a q cap, .int .i64 me, (⟨1, s, me, n, c, key, f, y⟩ : Wd).v, .int .i64 fr] w (Heard (fun L => OkL L ∧ ∃ ch, L = putL l ⟨s, n, ch, fr + 12, false, 0⟩) w) := by
  have hfr' : 0 ≤ fr ∧ fr ≤ 999999988 := by simpa [inB] using hfr
  refine hear_k1 l q a cap me fr s me n c key f y w ok hq hl hfr hf rfl hk _ (fun L hL => hL.1.facts) fun b w' hT hB => ?_
  refine (asked_new b l.length l fr 1 s me n c key f y w' hT (node_64 (formed_node hf)) hn (by omega) hfr'.1 hfr'.2 (hTab.keep hB) (len_max ok)).mono ?_
  rintro e w'' ⟨ch, h0, h1, hT'⟩
  exact ⟨_, ⟨ok.put (new_ok hf hfr h0 h1) (.inr h4), ch, rfl⟩, hT'⟩
/-- A proof that fits. -/
theorem hear_proof (s n c key f y : Int) (h : Hf) (ok : OkL l) (hq : Hid (q = l.length)) (hl : HsAt w a l) (hfr : inB fr 999999988 = true)
    (hf : formedB ⟨3, s, me, n, c, key, f, y⟩ = true) (hk : inB key 2000000 = true) (hn : findL l s = some h) (hnn : n = h.n) (hcc : c = h.c) :
    Calls Tryd.prog 15 #[.slice a q cap, .int .i64 me, (⟨3, s, me, n, c, key, f, y⟩ : Wd).v, .int .i64 fr] w (Heard (fun L => OkL L ∧ L = putL l ⟨s, h.n, h.c, h.u, true, key⟩) w) := by
  obtain ⟨hm, hs⟩ := find_some hn
  refine hear_k3 l q a cap me fr s me n c key f y w ok hq hl hfr hf rfl hk _ (fun L hL => hL.1.facts) fun b w' hT hB => ?_
  refine (proved_yes b l.length l fr 3 s me n c key f y h.s h.n h.c h.u h.k h.pr w' hT (node_64 (formed_node hf)) hn hnn hcc hs.symm (len_max ok)).mono ?_
  intro e w'' hT'
  refine ⟨_, ⟨ok.put (proof_ok (x := ⟨3, s, me, n, c, key, f, y⟩) (ok.ok h hm) hf hk) (.inl (by simp [hn])), rfl⟩, ?_⟩
  rw [← hnn, ← hcc]; exact hT'
theorem hear_any (x : Wd) (ok : OkL l) (hq : Hid (q = l.length)) (hl : HsAt w a l) (hfr : inB fr 999999988 = true) (hTab : Tab w) :
    Calls Tryd.prog 15 #[.slice a q cap, .int .i64 me, x.v, .int .i64 fr] w (HearPost l x fr w) := by
  obtain ⟨k, s, p, n, c, key, f, y⟩ := x
  have no : ∀ {err : Int}, ¬ err = 0 → Calls Tryd.prog 15 #[.slice a q cap, .int .i64 me, (⟨k, s, p, n, c, key, f, y⟩ : Wd).v, .int .i64 fr] w (Refused err w) →
      Calls Tryd.prog 15 #[.slice a q cap, .int .i64 me, (⟨k, s, p, n, c, key, f, y⟩ : Wd).v, .int .i64 fr] w (HearPost l ⟨k, s, p, n, c, key, f, y⟩ fr w) := fun he h => h.mono fun e w' hr => .inl ⟨_, he, hr⟩
  cases hf : formedB ⟨k, s, p, n, c, key, f, y⟩
  · exact no (by decide) (hear_r1 l q a cap me fr k s p n c key f y w ok hq hl hfr hf)
  by_cases hp : p = me
  rotate_left
  · exact no (by decide) (hear_r2 l q a cap me fr k s p n c key f y w ok hq hl hfr hf hp)
  cases hk : inB key 2000000
  · exact no (by decide) (hear_r3 l q a cap me fr k s p n c key f y w ok hq hl hfr hf hp hk)
  have hfr' : 0 ≤ fr ∧ fr ≤ 999999988 := by simpa [inB] using hfr
  have h64 := node_64 (formed_node hf)
  by_cases k1 : k = 1
  · subst k1
    cases hn : findL l s with
    | none =>
      by_cases h4 : l.length = 4
      · exact no (by decide) (hear_k1e l q a cap me fr s p n c key f y w ok hq hl hfr hf hp hk (fun _ => True) 10 (by decide) fun b w' hT hB => (asked_full b l.length l fr 1 s p n c key f y w' hT h64 hn h4).mono fun e w'' h => ⟨_, trivial, h⟩)
      · have hl4 := ok.len
        refine (hear_k1 l q a cap me fr s p n c key f y w ok hq hl hfr hf hp hk (HearOk l ⟨1, s, p, n, c, key, f, y⟩ fr) (fun L hL => hL.1.facts) fun b w' hT hB => ?_).mono fun e w' h => .inr h
        refine (asked_new b l.length l fr 1 s p n c key f y w' hT h64 hn h4 hfr'.1 hfr'.2 (hTab.keep hB) (len_max ok)).mono ?_
        rintro e w'' ⟨ch, h0, h1, hT'⟩
        exact ⟨_, ⟨ok.put (new_ok hf hfr h0 h1) (.inr (by omega)), .inr (.inl ⟨ch, rfl⟩)⟩, hT'⟩
    | some h =>
      obtain ⟨hs, hn', hc, hu, hpr, hkk⟩ := h
      by_cases h1 : n < hn'
      · exact no (by decide) (hear_k1e l q a cap me fr s p n c key f y w ok hq hl hfr hf hp hk (fun _ => True) 14 (by decide) fun b w' hT hB => (asked_old b l.length l fr 1 s p n c key f y hs hn' hc hu hkk hpr w' hT h64 hn h1).mono fun e w'' h => ⟨_, trivial, h⟩)
      refine (hear_k1 l q a cap me fr s p n c key f y w ok hq hl hfr hf hp hk (HearOk l ⟨1, s, p, n, c, key, f, y⟩ fr) (fun L hL => hL.1.facts) fun b w' hT hB => ?_).mono fun e w' h => .inr h
      by_cases h2 : n = hn'
      · exact (asked_same b l.length l fr 1 s p n c key f y hs hn' hc hu hkk hpr w' hT h64 hn h2).mono fun e w'' h => ⟨l, ⟨ok, .inl rfl⟩, h⟩
      · refine (asked_newer b l.length l fr 1 s p n c key f y hs hn' hc hu hkk hpr w' hT h64 hn (by omega) hfr'.1 hfr'.2 (hTab.keep hB) (len_max ok)).mono ?_
        rintro e w'' ⟨ch, h0, h1, hT'⟩
        exact ⟨_, ⟨ok.put (new_ok hf hfr h0 h1) (.inl (by simp [hn])), .inr (.inl ⟨ch, rfl⟩)⟩, hT'⟩
  by_cases k3 : k = 3
  · subst k3
    cases hn : findL l s with
    | none => exact no (by decide) (hear_k3e l q a cap me fr s p n c key f y w ok hq hl hfr hf hp hk (fun _ => True) 4 (by decide) fun b w' hT hB => (proved_no b l.length l fr 3 s p n c key f y w' hT h64 hn).mono fun e w'' h => ⟨_, trivial, h⟩)
    | some h =>
      obtain ⟨hm, hss⟩ := find_some hn
      obtain ⟨hs, hn', hc, hu, hpr, hkk⟩ := h
      by_cases h1 : n = hn'
      rotate_left
      · exact no (by decide) (hear_k3e l q a cap me fr s p n c key f y w ok hq hl hfr hf hp hk (fun _ => True) 4 (by decide) fun b w' hT hB => (proved_n b l.length l fr 3 s p n c key f y hs hn' hc hu hkk hpr w' hT h64 hn (fun e => h1 e.symm)).mono fun e w'' h => ⟨_, trivial, h⟩)
      by_cases h2 : c = hc
      rotate_left
      · exact no (by decide) (hear_k3e l q a cap me fr s p n c key f y w ok hq hl hfr hf hp hk (fun _ => True) 4 (by decide) fun b w' hT hB => (proved_c b l.length l fr 3 s p n c key f y hs hn' hc hu hkk hpr w' hT h64 hn h1 (fun e => h2 e.symm)).mono fun e w'' h => ⟨_, trivial, h⟩)
      refine (hear_k3 l q a cap me fr s p n c key f y w ok hq hl hfr hf hp hk (HearOk l ⟨3, s, p, n, c, key, f, y⟩ fr) (fun L hL => hL.1.facts) fun b w' hT hB => ?_).mono fun e w' h => .inr h
      refine (proved_yes b l.length l fr 3 s p n c key f y hs hn' hc hu hkk hpr w' hT h64 hn h1 h2 hss.symm (len_max ok)).mono ?_
      intro e w'' hT'
      subst h1 h2
      exact ⟨_, ⟨ok.put (proof_ok (x := ⟨3, s, p, n, c, key, f, y⟩) (h := ⟨hs, n, c, hu, hpr, hkk⟩) (ok.ok _ hm) hf hk) (.inl (by simp [hn])), .inr (.inr ⟨_, hn, rfl⟩)⟩, hT'⟩
  exact no (by decide) (hear_kx l q a cap me fr k s p n c key f y w ok hq hl hfr hf hp hk k1 k3)
end
end Go.Proofs.YtgmabjlehjpboaaDoor
