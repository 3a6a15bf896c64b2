/- TraceJoins: the walk. -/
import Derived.Test.YtdjknobolflldaaDoorTrT
namespace Go.Proofs.YtdjknobolflldaaDoor
open Go.RowKit

theorem textB_small30 {l : List Ev} (hl : AllOk l) (hn : l.length ≤ 60) : (textB l).length ≤ 8000 := by
  have := text_small hl
  omega
theorem parse_text {l : List Ev} {s : List UInt8} (hs : s = textB l) (hl : AllOk l) (hn : l.length ≤ 60) (w : World) (ht : Tabs w) :
    Calls Tryd.prog 18 #[.string ⟨s.toArray⟩] w fun r w' => (∃ v, r = .returned (.tuple #[v, .int .i64 0]) ∧ Evs w' v l) ∧ Below w.heap.size w w' := by
  subst hs
  have hsm := textB_small30 hl hn
  refine (parse_any (textB l) (by omega) w ht).mono ?_
  rintro r w' ⟨⟨v, e, rfl, hp⟩, hb⟩
  obtain ⟨rfl, hv⟩ := parse_is hl rfl hp
  exact ⟨⟨v, rfl, hv⟩, hb⟩
theorem text_as {l : List Ev} {s : List UInt8} (hs : s = textB l) (hl : AllOk l) (hn : l.length ≤ 60) {v : Value} (w : World) (h : Evs w v l) (ht : Tabs w) :
    Calls Tryd.prog 14 #[v] w fun r w' => r = .returned (.string ⟨s.toArray⟩) ∧ Below w.heap.size w w' := by
  subst hs; exact text_any l hl (by omega) v w h ht
theorem allOk_append {a b : List Ev} (ha : AllOk a) (hb : AllOk b) : AllOk (a ++ b) := fun e he => (List.mem_append.1 he).elim (ha e) (hb e)

set_option maxRecDepth 100000 in
set_option maxHeartbeats 2000000 in
theorem traceJoins_any (l m : List Ev) (hl : AllOk l) (hm : AllOk m) (sv tv : Value) (w : World) (h : Evs w sv l) (h' : Evs w tv m) (ht : Tabs w) :
    Calls Tryd.prog 8 #[sv, tv] w fun r w' => r = .returned (.bool true) ∧ Below w.heap.size w w' := by
  have HT := hid ht
  have Hl := hid h
  have Hm := hid h'
  have Hol := hid hl
  have Hom := hid hm
  obtain ⟨i0, hi, iz0, iz1, iz2⟩ := info_parts info_event
  obtain ⟨a, ca, rfl, hna, hsa⟩ := h.source
  obtain ⟨b, cb, rfl, hnb, hsb⟩ := h'.source
  have Hsa := hid hsa
  have Hsb := hid hsb
  have Hna := hid hna
  have Hnb := hid hnb
  clear ht h h' hl hm hna hsa hnb hsb
  by_cases h1 : 30 < l.length
  · go_enter Tryd.func8, Tryd.ntmps8
    go_wp2_with fail
    have hcall := trAwake_any w HT.out
    refine hcall.mono ?_
    rintro r w1 ⟨rfl, hb⟩
    go_wp2_with fail
    go_ret
    exact ⟨rfl, hb⟩
  by_cases h2 : 30 < m.length
  · go_enter Tryd.func8, Tryd.ntmps8
    go_wp2_with fail
    have hcall := trAwake_any w HT.out
    refine hcall.mono ?_
    rintro r w1 ⟨rfl, hb⟩
    go_wp2_with fail
    go_ret
    exact ⟨rfl, hb⟩
  have hown0 := owns_empty w w.heap.size w.heap.size rfl (Nat.le_refl _)
  have hB0 : Below w.heap.size w (w.alloc (.cells #[] 28)) := (Below.refl _ _).alloc (Nat.le_refl _) _
  have Hown0 := hid hown0
  have HB0 := hid hB0
  clear hown0 hB0
  have Hs2 := hid (show ∀ ad, a = some ad → ∀ (j : Nat) u, (evsV l)[j]? = some u → (w.alloc (.cells #[] 28)).cell? (ad.add j) = some u from fun ad ha => Hsa.out ad ha _ HB0.out)
  have hm1 : 0 + l.length ≤ maxLen := by simp only [maxLen]; omega
  have hm2 : (0 + l.length) * 48 ≤ 140737488355328 := by omega
  have hm3 : l.length + m.length ≤ maxLen := by simp only [maxLen]; omega
  have hm4 : (l.length + m.length) * 48 ≤ 140737488355328 := by omega
  obtain ⟨tl, htl⟩ : ∃ tl, tl = textB l := ⟨_, rfl⟩
  obtain ⟨tm, htm⟩ : ∃ tm, tm = textB m := ⟨_, rfl⟩
  obtain ⟨ta, hta⟩ : ∃ ta, ta = textB (l ++ m) := ⟨_, rfl⟩
  have hcat : ((⟨tl.toArray⟩ : ByteArray) ++ ⟨tm.toArray⟩) = ⟨ta.toArray⟩ := by rw [cat_bytes, htl, htm, hta, textB_append]
  have Hcat := hid hcat
  have Htl := hid htl
  have Htm := hid htm
  have Hta := hid hta
  have Hoa := hid (allOk_append Hol.out Hom.out)
  clear hcat htl htm hta
  go_enter Tryd.func8, Tryd.ntmps8
  go_wp2_with (first
    | (at_builtin; refine wpList_append_any _ rfl (.tmp 23) (.tmp 24) 25 rfl w.heap.size 28 i0 (.agg #[.int .i64 0, .int .i64 0, .int .i64 0, .int .i64 0, .int .i64 0, .int .i64 0]) 6 48 Tryd.underlying25 hi iz0 iz1 iz2 rfl (by decide) (.slice (some ⟨w.heap.size, 0, none⟩) 0 0) 0 [] rfl Hown0.out a l.length ca (evsV l) rfl (evsV_length l) Hna.out Hs2.out (evsV_one l) hm1 hm2 HB0.out.size ?_; intro v1 w1 hown1 hgrow1 _; simp only [Nat.zero_add, List.nil_append] at hown1; have HB1 := HB0.out.grown hgrow1 HB0.out.size (fun z hz => by simp [Value.ownBlock] at hz; omega); have Hown1 := hid hown1; clear hown1 hgrow1; have hs3 := hid (fun ad ha => Hsb.out ad ha w1 HB1))
    | (at_builtin; refine wpList_append_any _ rfl (.tmp 25) (.tmp 26) 25 rfl w.heap.size 28 i0 (.agg #[.int .i64 0, .int .i64 0, .int .i64 0, .int .i64 0, .int .i64 0, .int .i64 0]) 6 48 Tryd.underlying25 hi iz0 iz1 iz2 rfl (by decide) v1 l.length (evsV l) rfl Hown1.out b m.length cb (evsV m) rfl (evsV_length m) Hnb.out hs3.out (evsV_one m) hm3 hm4 HB1.size ?_; intro v2 w2 hown2 hgrow2 _))
  have HB2 := HB1.grown hgrow2 HB1.size (fun z hz => (Hown1.out.lt z hz).1)
  rw [← evsV_append, ← List.length_append] at hown2
  have hev := own_evs hown2 (by rw [List.length_append]; omega)
  have hLlen : (l ++ m).length ≤ 60 := by rw [List.length_append]; omega
  have hta2 := Hta.out
  have hoa2 := Hoa.out
  clear hown2 hgrow2 Hown1 hs3 Hs2 Hown0
  generalize hL : l ++ m = L at hev hLlen hta2 hoa2
  have HLL := hid hL
  have Hoa2 := hid hoa2
  have Hta2 := hid hta2
  have Hev := hid hev
  obtain ⟨g, cp, rfl, _, hce⟩ := hev.parts
  have Hce := hid hce
  clear hL hoa2 hta2 hev hce
  go_loopw [6, 7] (fun s i wr => ∃ k : Nat, k ≤ L.length ∧ i = .int .i64 k ∧ s = .string ⟨(textB (L.take k)).toArray⟩ ∧ Below w2.heap.size w2 wr) (fun _ i _ => L.length - (intOf i).toNat)
  case atStart => exact ⟨0, Nat.zero_le _, rfl, rfl, Below.refl _ _⟩
  case round =>
    obtain ⟨k, hk, rfl, rfl, hB⟩ := hrel
    have hBs := HB2.size
    have hBw := HB2.trans (hB.mono hBs)
    have hlen := text_small (l := L.take k) (fun e he => Hoa2.out e (List.mem_of_mem_take he))
    rw [List.length_take, Nat.min_eq_left hk] at hlen
    by_cases hlt : k < L.length
    · obtain ⟨b', off, rfl, hb, hcs⟩ := Hce.out k hlt
      obtain ⟨c0, c1, c2, c3, c4, c5⟩ := hcs wr hB
      clear hcs
      have hok := getD_ok Hoa2.out hlt
      have htk := textB_take hlt
      obtain ⟨x, hx⟩ : ∃ x, L.getD k noEv = x := ⟨_, rfl⟩
      rw [hx] at c0 c1 c2 c3 c4 c5 hok htk
      clear hx
      obtain ⟨s, kd, t, xa, xb, xc⟩ := x
      have Hok := hid hok
      have hll := line_small hok
      obtain ⟨ln, hln⟩ : ∃ ln, lineB ⟨s, kd, t, xa, xb, xc⟩ = ln := ⟨_, rfl⟩
      rw [hln] at htk hll
      have Hln := hid hln
      have Htk := hid htk
      obtain ⟨tx, htx⟩ : ∃ tx, textB (L.take k) = tx := ⟨_, rfl⟩
      rw [htx] at Htk hlen ⊢
      clear hok hln htk htx
      simp only at c0 c1 c2 c3 c4 c5
      go_wp2_with fail
      have hcall := line_any ⟨s, kd, t, xa, xb, xc⟩ Hok.out wr (HT.out.below hBw)
      rw [Hln.out] at hcall
      refine hcall.mono ?_
      rintro r w3 ⟨rfl, hb3⟩
      clear hcall
      go_wp2_with fail
      go_roundw
      case rel => exact ⟨k + 1, by omega, by go_num, by rw [Htk.out, cat_bytes, cat_bytes, List.append_assoc], hB.trans (hb3.mono hB.size)⟩
      case measure => simp [intOf]; omega
    · obtain rfl : k = L.length := by omega
      rw [List.take_length, ← Hta2.out]
      have hl60 : l.length ≤ 60 := by omega
      have hm60 : m.length ≤ 60 := by omega
      go_wp2_with fail
      have hcall := text_as Htl.out Hol.out hl60 wr (Hl.out.below hBw) (HT.out.below hBw)
      refine hcall.mono ?_
      rintro r w3 ⟨rfl, hb3⟩
      clear hcall
      have HB3 := hBw.trans (hb3.mono hBw.size)
      have hB3 := hB.trans (hb3.mono hB.size)
      go_wp2_with fail
      have hcall := parse_text Htl.out Hol.out hl60 w3 (HT.out.below HB3)
      refine hcall.mono ?_
      rintro r w4 ⟨⟨vx, rfl, hvx⟩, hb4⟩
      clear hcall
      have HB4 := HB3.trans (hb4.mono HB3.size)
      have hB4 := hB3.trans (hb4.mono hB3.size)
      have Hvx := hid hvx
      obtain ⟨ax, cx, rfl, hnx, hsx⟩ := hvx.source
      have Hsx := hid hsx
      have Hnx := hid hnx
      clear hvx hsx hnx
      go_wp2_with fail
      have hcall := text_as Htm.out Hom.out hm60 w4 (Hm.out.below HB4) (HT.out.below HB4)
      refine hcall.mono ?_
      rintro r w5 ⟨rfl, hb5⟩
      clear hcall
      have HB5 := HB4.trans (hb5.mono HB4.size)
      have hB5 := hB4.trans (hb5.mono hB4.size)
      go_wp2_with fail
      have hcall := parse_text Htm.out Hom.out hm60 w5 (HT.out.below HB5)
      refine hcall.mono ?_
      rintro r w6 ⟨⟨vy, rfl, hvy⟩, hb6⟩
      clear hcall
      have HB6 := HB5.trans (hb6.mono HB5.size)
      have hB6 := hB5.trans (hb6.mono hB5.size)
      have Hvy := hid hvy
      obtain ⟨ay, cy, rfl, hny, hsy⟩ := hvy.source
      have Hsy := hid hsy
      have Hny := hid hny
      clear hvy hsy hny
      go_wp2_with fail
      have hcall := parse_text Hta2.out Hoa2.out hLlen w6 (HT.out.below HB6)
      refine hcall.mono ?_
      rintro r w7 ⟨⟨vz, rfl, hvz⟩, hb7⟩
      clear hcall
      have HB7 := HB6.trans (hb7.mono HB6.size)
      have hB7 := hB6.trans (hb7.mono hB6.size)
      have Hvz := hid hvz
      obtain ⟨az, cz, rfl, _, _⟩ := hvz.source
      clear hvz
      go_wp2_with fail
      have hcall := text_as Hta2.out Hoa2.out hLlen w7 (Hev.out.below hB7) (HT.out.below HB7)
      refine hcall.mono ?_
      rintro r w8 ⟨rfl, hb8⟩
      clear hcall
      have HB8 := HB7.trans (hb8.mono HB7.size)
      have hB8 := hB7.trans (hb8.mono hB7.size)
      go_wp2_with fail
      have hcall := text_as Htl.out Hol.out hl60 w8 (Hl.out.below HB8) (HT.out.below HB8)
      refine hcall.mono ?_
      rintro r w9 ⟨rfl, hb9⟩
      clear hcall
      have HB9 := HB8.trans (hb9.mono HB8.size)
      go_wp2_with fail
      have hcall := text_as Htm.out Hom.out hm60 w9 (Hm.out.below HB9) (HT.out.below HB9)
      refine hcall.mono ?_
      rintro r w10 ⟨rfl, hb10⟩
      clear hcall
      have HB10 := HB9.trans (hb10.mono HB9.size)
      have q5 := hb5.size
      have q6 := hb6.size
      have q7 := hb7.size
      have q8 := hb8.size
      have q9 := hb9.size
      have q10 := hb10.size
      have s4 : Below w4.heap.size w4 w10 := ((((hb5.trans (hb6.mono q5)).trans (hb7.mono (by omega))).trans (hb8.mono (by omega))).trans (hb9.mono (by omega))).trans (hb10.mono (by omega))
      have s6 : Below w6.heap.size w6 w10 := ((hb7.trans (hb8.mono q7)).trans (hb9.mono (by omega))).trans (hb10.mono (by omega))
      have s7 : Below w7.heap.size w7 w10 := (hb8.trans (hb9.mono q8)).trans (hb10.mono (by omega))
      have A0 : Below w10.heap.size w10 (w10.alloc (.cells #[] 28)) := (Below.refl _ _).alloc (Nat.le_refl _) _
      have S4 := s4.trans (A0.mono s4.size)
      have S6 := hid (s6.trans (A0.mono s6.size))
      have S7 := hid (s7.trans (A0.mono s7.size))
      have hown0 := owns_empty w10 w10.heap.size w10.heap.size rfl (Nat.le_refl _)
      have HAz := hid A0.size
      have HA := HB10.trans (A0.mono HB10.size)
      have Hown0 := hid hown0
      have HAs := hid HA.size
      have HA' := hid HA
      have hs4 := hid (fun ad ha => Hsx.out ad ha _ S4)
      have q610 := s6.size
      have S70 := hid s7
      clear hown0 HA A0 S4 s4 s6 s7 q5 q6 q7 q8 q9 q10
      have hcat := Hcat.out
      have b1 := textB_small30 Hol.out hl60
      have b2 := textB_small30 Hom.out hm60
      rw [← Htl.out] at b1
      rw [← Htm.out] at b2
      go_wp2_with (first
        | (at_builtin; refine wpList_append_any _ rfl (.tmp 87) (.tmp 88) 25 rfl w10.heap.size 28 i0 (.agg #[.int .i64 0, .int .i64 0, .int .i64 0, .int .i64 0, .int .i64 0, .int .i64 0]) 6 48 Tryd.underlying25 hi iz0 iz1 iz2 rfl (by decide) (.slice (some ⟨w10.heap.size, 0, none⟩) 0 0) 0 [] rfl Hown0.out ax l.length cx (evsV l) rfl (evsV_length l) Hnx.out hs4.out (evsV_one l) hm1 hm2 HAz.out ?_; intro v11 w11 hown11 hgrow11 _; simp only [Nat.zero_add, List.nil_append] at hown11; have HB11 := HA'.out.grown hgrow11 HAs.out (fun z hz => by simp [Value.ownBlock] at hz; subst hz; exact HB10.size); have hb11 : Below w10.heap.size w10 w11 := ((Below.refl _ _).alloc (Nat.le_refl _) _).grown hgrow11 (by simp) (fun z hz => by simp [Value.ownBlock] at hz; omega); have Hown11 := hid hown11; have Hb11 := hid hb11; have hs6 := hid (fun ad ha => Hsy.out ad ha w11 (S6.out.grown hgrow11 S6.out.size (fun z hz => by simp [Value.ownBlock] at hz; omega))); clear hown11 hgrow11 hb11)
        | (at_builtin; refine wpList_append_any _ rfl (.tmp 89) (.tmp 90) 25 rfl w10.heap.size 28 i0 (.agg #[.int .i64 0, .int .i64 0, .int .i64 0, .int .i64 0, .int .i64 0, .int .i64 0]) 6 48 Tryd.underlying25 hi iz0 iz1 iz2 rfl (by decide) v11 l.length (evsV l) rfl Hown11.out ay m.length cy (evsV m) rfl (evsV_length m) Hny.out hs6.out (evsV_one m) hm3 hm4 Hb11.out.size ?_; intro v12 w12 hown12 hgrow12 _))
      have hb12 := Hb11.out.grown hgrow12 Hb11.out.size (fun z hz => (Hown11.out.lt z hz).1)
      have HB12 := HB10.trans (hb12.mono HB10.size)
      rw [← evsV_append, ← List.length_append, HLL.out] at hown12
      have hev12 := own_evs hown12 (by omega)
      have hvz12 : Evs w12 (.slice az L.length cz) L := Hvz.out.below (S70.out.trans (hb12.mono S70.out.size))
      have hcall := events_any L L _ _ w12 hvz12 hev12
      rw [show sameE L L = true by unfold sameE; rw [decide_eq_true_eq]] at hcall
      refine hcall.mono ?_
      rintro r w13 ⟨rfl, hb13⟩
      clear hcall
      have HB13 := HB12.trans (hb13.mono HB12.size)
      go_wp2_with fail
      have hcall := trAwake_any w13 (HT.out.below HB13)
      refine hcall.mono ?_
      rintro r w14 ⟨rfl, hb14⟩
      clear hcall
      go_wp2_with fail
      go_ret
      exact ⟨rfl, HB13.trans (hb14.mono HB13.size)⟩
end Go.Proofs.YtdjknobolflldaaDoor
