/- Package trace: Parse, the walk. -/
import Derived.Test.YtdjknobolflldaaDoorTrL
namespace Go.Proofs.YtdjknobolflldaaDoor
open Go.RowKit

def strLen : Value → Nat
  | .string b => b.size
  | _ => 0

set_option maxRecDepth 100000 in
set_option maxHeartbeats 1000000 in
theorem parse_any (s : List UInt8) (hs : s.length < 4294967281) (w : World) (ht : Tabs w) :
    Calls Tryd.prog 18 #[.string (by8 s)] w fun r w' => (∃ v e, r = .returned (.tuple #[v, .int .i64 e]) ∧ ParseIs s w' v e) ∧ Below w.heap.size w w' := by
  have HT := hid ht
  clear ht
  obtain ⟨i0, hi, iz0, iz1, iz2⟩ := info_parts info_event
  go_enter Tryd.func18, Tryd.ntmps18
  go_wp2_with fail
  go_loopw [0, 2, 4, 5, 6, 7, 8] (fun sv out _ _ _ _ _ wr => ∃ (l : List Ev) (rest : List UInt8), sv = .string ⟨rest.toArray⟩ ∧ s = textB l ++ rest ∧ AllOk l ∧ wr.ownsRow w.heap.size 28 6 out l.length (evsV l) ∧ Below w.heap.size w wr) (fun sv _ _ _ _ _ _ _ => strLen sv)
  case atStart => exact ⟨[], s, rfl, rfl, fun e he => by simp at he, World.ownsRow_nil _ _ _ _, Below.refl _ _⟩
  case round =>
    obtain ⟨l, rest, rfl, hs2, hok, hown, hB⟩ := hrel
    have hBs := hB.size
    have hlen : l.length + rest.length ≤ s.length := by
      rw [hs2, List.length_append]
      have : l.length ≤ (textB l).length := by
        clear hs2 hown hok
        induction l with
        | nil => simp
        | cons e l ih => rw [textB_cons]; simp; omega
      omega
    have Hs2 := hid hs2
    have Hown := hid hown
    have Hok := hid hok
    clear hs2 hown hok
    by_cases h0 : rest = []
    · subst h0
      go_wp2_with fail
      (try simp only [Exit.inBlock, Exit.then])
      refine bodyPost_ret (results_tmp2 rfl _ _ _) rfl ?_
      exact ⟨⟨_, 0, rfl, .inl ⟨rfl, l, Hok.out, by rw [Hs2.out, List.append_nil], own_evs Hown.out (by omega)⟩⟩, hB⟩
    · have hne : rest.isEmpty = false := by simpa using h0
      obtain ⟨m, hm⟩ := (HT.out.below hB).maxLen
      have hcut := Tryd.strings_Cut ⟨rest.toArray⟩ ⟨#[10]⟩ m wr (by simp [ByteArray.size]; omega) hm
      rw [show (⟨rest.toArray⟩ : ByteArray).data.toList = rest from rfl, show (⟨#[10]⟩ : ByteArray).data.toList = [10] from rfl] at hcut
      rcases split_ten rest with hx | ⟨x, t, hx, rfl⟩
      · rw [cut_not hx] at hcut
        have Hx := hid hx
        have Hnz := hid h0
        clear hx h0
        go_wp2_with fail
        refine hcut.mono ?_
        rintro r w1 ⟨rfl, nd, rfl⟩
        clear hcut
        have hBd := hB.trans ((drewN_below wr nd).mono hBs)
        go_wp2_with fail
        have hcall := event_any ⟨rest.toArray⟩ (by simp [ByteArray.size]; omega) _ (HT.out.below hBd)
        refine hcall.mono ?_
        rintro r w2 ⟨⟨e, rfl, _⟩, hb2⟩
        clear hcall
        have hB2 := hBd.trans (hb2.mono hBd.size)
        obtain ⟨es, ek, et, ea, eb, ec⟩ := e
        simp only [Ev.val]
        cases hev : eventOk ⟨rest.toArray⟩
        all_goals
          clear hev
          go_wp2_with fail
          (try simp only [Exit.inBlock, Exit.then])
          refine bodyPost_ret (results_tmp2 rfl _ _ _) rfl ?_
          exact ⟨⟨_, 2, rfl, .inr ⟨rfl, rfl, bad_open Hok.out Hx.out Hnz.out Hs2.out⟩⟩, hB2.alloc hB2.size _⟩
      · rw [cut_at hx] at hcut
        have Hx := hid hx
        clear hx h0
        go_wp2_with fail
        refine hcut.mono ?_
        rintro r w1 ⟨rfl, nd, rfl⟩
        clear hcut
        have hBd := hB.trans ((drewN_below wr nd).mono hBs)
        have hxl : x.length ≤ s.length := by simp at hlen; omega
        go_wp2_with fail
        have hcall := event_any ⟨x.toArray⟩ (by simp [ByteArray.size]; omega) _ (HT.out.below hBd)
        refine hcall.mono ?_
        rintro r w2 ⟨⟨e, rfl, he⟩, hb2⟩
        clear hcall
        have hB2 := hBd.trans (hb2.mono hBd.size)
        have hz2 := hB2.size
        have hown2 := own_below (own_below Hown.out (drewN_below wr nd)) hb2
        cases hev : eventOk ⟨x.toArray⟩
        · have Hev := hid hev
          clear hev he hown2
          obtain ⟨es, ek, et, ea, eb, ec⟩ := e
          simp only [Ev.val]
          go_wp2_with fail
          (try simp only [Exit.inBlock, Exit.then])
          refine bodyPost_ret (results_tmp2 rfl _ _ _) rfl ?_
          exact ⟨⟨_, 2, rfl, .inr ⟨rfl, rfl, bad_line Hok.out Hx.out Hs2.out Hev.out⟩⟩, hB2.alloc hB2.size _⟩
        · obtain rfl := he hev
          have hsound := eventOk_sound hev
          have heok := evN_ok ⟨x.toArray⟩
          obtain ⟨es, ek, et, ea, eb, ec, hN⟩ : ∃ es ek et ea eb ec, evN ⟨x.toArray⟩ = ⟨es, ek, et, ea, eb, ec⟩ := ⟨_, _, _, _, _, _, rfl⟩
          rw [hN] at hsound heok ⊢
          have Hsd := hid hsound
          have Heok := hid heok
          clear he hev hsound heok hN
          simp only [Ev.val]
          have hl2 : l.length ≤ 4294967281 := by omega
          go_wp2_with (at_builtin; refine wpList_append_own _ rfl (.tmp 28) (.tmp 30) 25 rfl w.heap.size 28 i0 (.agg #[.int .i64 0, .int .i64 0, .int .i64 0, .int .i64 0, .int .i64 0, .int .i64 0]) 6 48 Tryd.underlying25 hi iz0 iz1 iz2 rfl (by decide) u2 l.length _ rfl ((hown2.alloc _).alloc _) ⟨_, 0, none⟩ 1 1 [.int .i64 es, .int .i64 ek, .int .i64 et, .int .i64 ea, .int .i64 eb, .int .i64 ec] rfl rfl (tcells_at (by simp)) (by simp [Value.oneCell']) (by simp only [maxLen]; omega) (by omega) (by simp; omega) ?_; intro v4 w4 hown4 hgrow4 _)
          have hz4 := hgrow4.size
          go_roundw
          case rel =>
            refine ⟨l ++ [⟨es, ek, et, ea, eb, ec⟩], t, rfl, ?_, ?_, ?_, ?_⟩
            · rw [textB_append, textB_cons, Hsd.out, Hs2.out]
              simp [textB]
            · intro z hz
              rcases List.mem_append.1 hz with hz | hz
              · exact Hok.out z hz
              · rw [List.mem_singleton.1 hz]; exact Heok.out
            · rw [List.length_append, evsV_append]
              exact hown4
            · exact ((hB2.alloc hz2 _).alloc (by simp; omega) _).grown hgrow4 (by simp; omega) (fun z hz => (Hown.out.lt z hz).1)
          case measure => simp [strLen, ByteArray.size]; omega
end Go.Proofs.YtdjknobolflldaaDoor
