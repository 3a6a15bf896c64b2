/- The reference's Text. -/
import Derived.Test.YtdjknobolflldaaDoorTrG
namespace Go.Proofs.YtdjknobolflldaaDoor
open Go.RowKit

theorem ret_text {l : List Ev} : Ending.returned (.string ⟨(textB (l.take l.length)).toArray⟩) = Ending.returned (.string ⟨(textB l).toArray⟩) := by rw [List.take_length]

set_option maxRecDepth 100000 in
set_option maxHeartbeats 1000000 in
theorem refText_any (l : List Ev) (hl : ∀ e ∈ l, e.ok) (hn : l.length ≤ 1000000000) (sv : Value) (w : World) (h : Evs w sv l) :
    Calls Tryd.prog 15 #[sv] w fun r w' => r = .returned (.string ⟨(textB l).toArray⟩) ∧ Below w.heap.size w w' := by
  obtain ⟨a, cap, rfl, _, hc⟩ := h.parts
  have Hc := hid hc
  have HL := hid hl
  clear h hc hl
  go_enter Tryd.func15, Tryd.ntmps15
  go_wp2_with fail
  go_loopw [3, 4] (fun s i wr => ∃ k : Nat, k ≤ l.length ∧ i = .int .i64 k ∧ s = .string ⟨(textB (l.take k)).toArray⟩ ∧ Below w.heap.size w wr) (fun _ i _ => l.length - (intOf i).toNat)
  case atStart => exact ⟨0, Nat.zero_le _, rfl, rfl, Below.refl _ _⟩
  case round =>
    obtain ⟨k, hk, rfl, rfl, hB⟩ := hrel
    have hlen := text_small (l := l.take k) (fun e he => HL.out e (List.mem_of_mem_take he))
    rw [List.length_take, Nat.min_eq_left hk] at hlen
    by_cases hlt : k < l.length
    · obtain ⟨b, off, rfl, hb, hcs⟩ := Hc.out k hlt
      obtain ⟨c0, c1, c2, c3, c4, c5⟩ := hcs wr hB
      clear hcs
      have hok := getD_ok HL.out hlt
      have htk := textB_take hlt
      obtain ⟨x, hx⟩ : ∃ x, l.getD k noEv = x := ⟨_, rfl⟩
      rw [hx] at c0 c1 c2 c3 c4 c5 hok htk
      clear hx
      obtain ⟨s, kd, t, xa, xb, xc⟩ := x
      have Hok := hid hok
      have hll := line_small hok
      obtain ⟨ln, hln⟩ : ∃ ln, lineB ⟨s, kd, t, xa, xb, xc⟩ = ln := ⟨_, rfl⟩
      rw [hln] at htk hll
      have Hln := hid hln
      have Htk := hid htk
      obtain ⟨tx, htx⟩ : ∃ tx, textB (l.take k) = tx := ⟨_, rfl⟩
      rw [htx] at Htk hlen ⊢
      clear hok hln htk htx
      simp only at c0 c1 c2 c3 c4 c5
      go_wp2_with fail
      have hcall := refLine_any ⟨s, kd, t, xa, xb, xc⟩ Hok.out wr
      rw [Hln.out] at hcall
      refine hcall.mono ?_
      rintro r w1 ⟨rfl, hb1⟩
      clear hcall
      go_wp2_with fail
      go_roundw
      case rel => exact ⟨k + 1, by omega, by go_num, by rw [Htk.out, cat_bytes, cat_bytes, List.append_assoc], hB.trans (hb1.mono hB.size)⟩
      case measure => simp [intOf]; omega
    · obtain rfl : k = l.length := by omega
      have Hr := hid (ret_text (l := l))
      obtain ⟨tx, htx⟩ : ∃ tx, textB (l.take l.length) = tx := ⟨_, rfl⟩
      rw [htx] at Hr ⊢
      clear htx
      go_wp2_with fail
      go_ret
      exact ⟨Hr.out, hB⟩
end Go.Proofs.YtdjknobolflldaaDoor
