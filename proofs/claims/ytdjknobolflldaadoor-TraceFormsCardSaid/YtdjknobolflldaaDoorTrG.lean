/- The reference's Line and Text. -/
import Derived.Test.YtdjknobolflldaaDoorTrF
namespace Go.Proofs.YtdjknobolflldaaDoor
open Go.RowKit

theorem lineB_cat (e : Ev) : lineB e = Lib.itoa e.step ++ [32] ++ wordB e.kind ++ [32] ++ Lib.itoa e.task ++ [32] ++ Lib.itoa e.a ++ [32] ++ Lib.itoa e.b ++ [32] ++ Lib.itoa e.c := by
  simp [lineB, partsB, Lib.join_cons, Lib.joinTail]
theorem ret_line {e : Ev} {s k t a b c : List UInt8} (hs : s = Lib.itoa e.step) (hk : k = wordB e.kind) (ht : t = Lib.itoa e.task) (ha : a = Lib.itoa e.a) (hb : b = Lib.itoa e.b) (hc : c = Lib.itoa e.c) :
    Ending.returned (.string ((⟨s.toArray⟩ : ByteArray) ++ ⟨[32].toArray⟩ ++ ⟨k.toArray⟩ ++ ⟨[32].toArray⟩ ++ ⟨t.toArray⟩ ++ ⟨[32].toArray⟩ ++ ⟨a.toArray⟩ ++ ⟨[32].toArray⟩ ++ ⟨b.toArray⟩ ++ ⟨[32].toArray⟩ ++ ⟨c.toArray⟩)) = Ending.returned (.string ⟨(lineB e).toArray⟩) := by
  subst hs hk ht ha hb hc
  simp only [cat_bytes, lineB_cat]

theorem word_cell (kind : Int) (h1 : 1 ≤ kind) (h8 : kind ≤ 8) : (#[Value.string ⟨#[]⟩, .string ⟨#[116, 111, 108, 100]⟩, .string ⟨#[119, 97, 105, 116, 115]⟩, .string ⟨#[103, 111, 101, 115]⟩, .string ⟨#[101, 110, 100, 115]⟩, .string ⟨#[115, 116, 97, 114, 116, 115]⟩, .string ⟨#[102, 105, 114, 101, 115]⟩, .string ⟨#[108, 97, 112, 115, 101, 115]⟩, .string ⟨#[114, 101, 102, 117, 115, 101, 100]⟩])[kind.toNat]? = some (.string ⟨(wordB kind).toArray⟩) := by
  obtain rfl | rfl | rfl | rfl | rfl | rfl | rfl | rfl : kind = 1 ∨ kind = 2 ∨ kind = 3 ∨ kind = 4 ∨ kind = 5 ∨ kind = 6 ∨ kind = 7 ∨ kind = 8 := by omega
  all_goals rfl
theorem decimal_is {n : Int} {s : List UInt8} (h : Lib.itoa n = s) (hn : I64 n) (w : World) :
    Calls Tryd.prog 30 #[.int .i64 n] w fun r w' => r = .returned (.string ⟨s.toArray⟩) ∧ Below w.heap.size w w' := by
  subst h; exact decimal_any n hn w

set_option maxRecDepth 100000 in
set_option maxHeartbeats 2000000 in
theorem refLine_any (e : Ev) (he : e.ok) (w : World) :
    Calls Tryd.prog 13 #[.agg #[.int .i64 e.step, .int .i64 e.kind, .int .i64 e.task, .int .i64 e.a, .int .i64 e.b, .int .i64 e.c]] w fun r w' => r = .returned (.string ⟨(lineB e).toArray⟩) ∧ Below w.heap.size w w' := by
  have HE := hid he
  have HL := hid (ret_line (e := e) rfl rfl rfl rfl rfl rfl)
  obtain ⟨step, kind, task, a, b, c⟩ := e
  obtain ⟨ss, hss⟩ : ∃ ss, Lib.itoa step = ss := ⟨_, rfl⟩
  obtain ⟨st, hst⟩ : ∃ st, Lib.itoa task = st := ⟨_, rfl⟩
  obtain ⟨sa, hsa⟩ : ∃ sa, Lib.itoa a = sa := ⟨_, rfl⟩
  obtain ⟨sb, hsb⟩ : ∃ sb, Lib.itoa b = sb := ⟨_, rfl⟩
  obtain ⟨sc, hsc⟩ : ∃ sc, Lib.itoa c = sc := ⟨_, rfl⟩
  obtain ⟨sk, hsk⟩ : ∃ sk, wordB kind = sk := ⟨_, rfl⟩
  simp only [hss, hst, hsa, hsb, hsc, hsk] at HL
  have l1 : ss.length ≤ 21 := by rw [← hss]; exact itoa_small he.1
  have l2 : sk.length ≤ 21 := by rw [← hsk]; exact word_small he.2.1
  have l3 : st.length ≤ 21 := by rw [← hst]; exact itoa_small he.2.2.1
  have l4 : sa.length ≤ 21 := by rw [← hsa]; exact itoa_small he.2.2.2.1
  have l5 : sb.length ≤ 21 := by rw [← hsb]; exact itoa_small he.2.2.2.2.1
  have l6 : sc.length ≤ 21 := by rw [← hsc]; exact itoa_small he.2.2.2.2.2
  have Hs := hid (And.intro hss (And.intro hst (And.intro hsa (And.intro hsb (And.intro hsc hsk)))))
  clear hss hst hsa hsb hsc hsk he
  go_enter Tryd.func13, Tryd.ntmps13
  go_wp2_with fail
  generalize hW : World.alloc (World.alloc w _) _ = W
  have HB : Below w.heap.size w W := by rw [← hW]; exact ((Below.refl _ _).alloc (Nat.le_refl _) _).alloc (by simp) _
  have hq : ∀ j x, (Ev.cells ⟨step, kind, task, a, b, c⟩)[j]? = some x → ∀ w', Below W.heap.size W w' → w'.cell? ⟨w.heap.size, j, none⟩ = some x := fun j x hx w' hb => by
    rw [hb.cell (p := ⟨w.heap.size, j, none⟩) (by rw [← hW]; simp; omega), ← hW]
    have h1 : ((w.alloc (.cells #[.int .i64 step, .int .i64 kind, .int .i64 task, .int .i64 a, .int .i64 b, .int .i64 c] 28)).cell? ⟨w.heap.size, j, none⟩) = some x := by rw [World.cell?_alloc_new]; simpa [Ev.cells] using hx
    simpa using h1
  have hstr : ∀ w', Below W.heap.size W w' → 1 ≤ kind → kind ≤ 8 → w'.cell? ⟨w.heap.size + 1, kind.toNat, none⟩ = some (.string ⟨sk.toArray⟩) := fun w' hb h1 h8 => by
    rw [hb.cell (p := ⟨w.heap.size + 1, kind.toNat, none⟩) (by rw [← hW]; simp), ← hW]
    have h2 := World.cell?_alloc_new (w.alloc (.cells #[.int .i64 step, .int .i64 kind, .int .i64 task, .int .i64 a, .int .i64 b, .int .i64 c] 28)) #[.string ⟨#[]⟩, .string ⟨#[116, 111, 108, 100]⟩, .string ⟨#[119, 97, 105, 116, 115]⟩, .string ⟨#[103, 111, 101, 115]⟩, .string ⟨#[101, 110, 100, 115]⟩, .string ⟨#[115, 116, 97, 114, 116, 115]⟩, .string ⟨#[102, 105, 114, 101, 115]⟩, .string ⟨#[108, 97, 112, 115, 101, 115]⟩, .string ⟨#[114, 101, 102, 117, 115, 101, 100]⟩] 9 kind.toNat
    rw [show (w.alloc (.cells #[.int .i64 step, .int .i64 kind, .int .i64 task, .int .i64 a, .int .i64 b, .int .i64 c] 28)).heap.size = w.heap.size + 1 by simp] at h2
    rw [h2, ← Hs.out.2.2.2.2.2]
    exact word_cell kind h1 h8
  have p0 := fun w' hb => hq 0 _ rfl w' hb
  have p1 := fun w' hb => hq 1 _ rfl w' hb
  have p2 := fun w' hb => hq 2 _ rfl w' hb
  have p3 := fun w' hb => hq 3 _ rfl w' hb
  have p4 := fun w' hb => hq 4 _ rfl w' hb
  have p5 := fun w' hb => hq 5 _ rfl w' hb
  have Hst := hid hstr
  clear hq hW hstr
  have HN := hid (show I64 step ∧ I64 task ∧ I64 a ∧ I64 b ∧ I64 c from ⟨HE.out.1, HE.out.2.2.1, HE.out.2.2.2.1, HE.out.2.2.2.2.1, HE.out.2.2.2.2.2⟩)
  by_cases hk : 1 ≤ kind ∧ kind ≤ 8
  · refine (decimal_any kind HE.out.2.1 W).mono ?_
    rintro r w1 ⟨rfl, hb1⟩
    have q1 := p1 w1 hb1
    obtain ⟨hk1, hk8⟩ := hk
    have hs1 := Hst.out w1 hb1 hk1 hk8
    go_wp2_with fail
    refine wp_region_below (by kernel_rfl) (by kernel_rfl) ?_
    refine wpQuiet_none rfl (fun K hK => ?_)
    apply Exists.intro
    refine ⟨fun w2 hC => ?_, ?_⟩
    · go_simp
      exact rfl
    go_simp
    refine hK _ ?_
    clear hK K
    refine wpQuiet_none rfl (fun K hK => ?_)
    apply Exists.intro
    refine ⟨fun w2 hC => ?_, ?_⟩
    · have P := p0 _ (hb1.trans (hC.mono hb1.size))
      go_simp
      exact rfl
    go_simp
    refine hK _ ?_
    clear hK K
    refine wpQuiet_none rfl (fun K hK => ?_)
    apply Exists.intro
    refine ⟨fun w2 hC => ?_, ?_⟩
    · go_simp
      have hcall := decimal_is Hs.out.1 HN.out.1 w2
      exact hcall.mono fun e w3 ⟨he, hb⟩ => ⟨he, hC.trans (hb.mono hC.size)⟩
    go_simp
    refine hK _ ?_
    clear hK K
    refine wpQuiet_none rfl (fun K hK => ?_)
    apply Exists.intro
    refine ⟨fun w2 hC => ?_, ?_⟩
    · go_simp
      rw [if_neg (by omega)]
      exact ⟨rfl, rfl⟩
    go_simp
    refine hK _ ?_
    clear hK K
    refine wpQuiet_none rfl (fun K hK => ?_)
    apply Exists.intro
    refine ⟨fun w2 hC => ?_, ?_⟩
    · go_simp
      exact rfl
    go_simp
    refine hK _ ?_
    clear hK K
    refine wpQuiet_none rfl (fun K hK => ?_)
    apply Exists.intro
    refine ⟨fun w2 hC => ?_, ?_⟩
    · go_simp
      rw [if_neg (by omega)]
      exact ⟨rfl, rfl⟩
    go_simp
    refine hK _ ?_
    clear hK K
    refine wpQuiet_none rfl (fun K hK => ?_)
    apply Exists.intro
    refine ⟨fun w2 hC => ?_, ?_⟩
    · go_simp
      rw [if_neg (by omega)]
      exact ⟨rfl, rfl⟩
    go_simp
    refine hK _ ?_
    clear hK K
    refine wpQuiet_none rfl (fun K hK => ?_)
    apply Exists.intro
    refine ⟨fun w2 hC => ?_, ?_⟩
    · go_simp
      exact rfl
    go_simp
    refine hK _ ?_
    clear hK K
    refine wpQuiet_none rfl (fun K hK => ?_)
    apply Exists.intro
    refine ⟨fun w2 hC => ?_, ?_⟩
    · have P := p2 _ (hb1.trans (hC.mono hb1.size))
      go_simp
      exact rfl
    go_simp
    refine hK _ ?_
    clear hK K
    refine wpQuiet_none rfl (fun K hK => ?_)
    apply Exists.intro
    refine ⟨fun w2 hC => ?_, ?_⟩
    · go_simp
      have hcall := decimal_is Hs.out.2.1 HN.out.2.1 w2
      exact hcall.mono fun e w3 ⟨he, hb⟩ => ⟨he, hC.trans (hb.mono hC.size)⟩
    go_simp
    refine hK _ ?_
    clear hK K
    refine wpQuiet_none rfl (fun K hK => ?_)
    apply Exists.intro
    refine ⟨fun w2 hC => ?_, ?_⟩
    · go_simp
      rw [if_neg (by omega)]
      exact ⟨rfl, rfl⟩
    go_simp
    refine hK _ ?_
    clear hK K
    refine wpQuiet_none rfl (fun K hK => ?_)
    apply Exists.intro
    refine ⟨fun w2 hC => ?_, ?_⟩
    · go_simp
      rw [if_neg (by omega)]
      exact ⟨rfl, rfl⟩
    go_simp
    refine hK _ ?_
    clear hK K
    refine wpQuiet_none rfl (fun K hK => ?_)
    apply Exists.intro
    refine ⟨fun w2 hC => ?_, ?_⟩
    · go_simp
      exact rfl
    go_simp
    refine hK _ ?_
    clear hK K
    refine wpQuiet_none rfl (fun K hK => ?_)
    apply Exists.intro
    refine ⟨fun w2 hC => ?_, ?_⟩
    · have P := p3 _ (hb1.trans (hC.mono hb1.size))
      go_simp
      exact rfl
    go_simp
    refine hK _ ?_
    clear hK K
    refine wpQuiet_none rfl (fun K hK => ?_)
    apply Exists.intro
    refine ⟨fun w2 hC => ?_, ?_⟩
    · go_simp
      have hcall := decimal_is Hs.out.2.2.1 HN.out.2.2.1 w2
      exact hcall.mono fun e w3 ⟨he, hb⟩ => ⟨he, hC.trans (hb.mono hC.size)⟩
    go_simp
    refine hK _ ?_
    clear hK K
    refine wpQuiet_none rfl (fun K hK => ?_)
    apply Exists.intro
    refine ⟨fun w2 hC => ?_, ?_⟩
    · go_simp
      rw [if_neg (by omega)]
      exact ⟨rfl, rfl⟩
    go_simp
    refine hK _ ?_
    clear hK K
    refine wpQuiet_none rfl (fun K hK => ?_)
    apply Exists.intro
    refine ⟨fun w2 hC => ?_, ?_⟩
    · go_simp
      rw [if_neg (by omega)]
      exact ⟨rfl, rfl⟩
    go_simp
    refine hK _ ?_
    clear hK K
    refine wpQuiet_none rfl (fun K hK => ?_)
    apply Exists.intro
    refine ⟨fun w2 hC => ?_, ?_⟩
    · go_simp
      exact rfl
    go_simp
    refine hK _ ?_
    clear hK K
    refine wpQuiet_none rfl (fun K hK => ?_)
    apply Exists.intro
    refine ⟨fun w2 hC => ?_, ?_⟩
    · have P := p4 _ (hb1.trans (hC.mono hb1.size))
      go_simp
      exact rfl
    go_simp
    refine hK _ ?_
    clear hK K
    refine wpQuiet_none rfl (fun K hK => ?_)
    apply Exists.intro
    refine ⟨fun w2 hC => ?_, ?_⟩
    · go_simp
      have hcall := decimal_is Hs.out.2.2.2.1 HN.out.2.2.2.1 w2
      exact hcall.mono fun e w3 ⟨he, hb⟩ => ⟨he, hC.trans (hb.mono hC.size)⟩
    go_simp
    refine hK _ ?_
    clear hK K
    refine wpQuiet_none rfl (fun K hK => ?_)
    apply Exists.intro
    refine ⟨fun w2 hC => ?_, ?_⟩
    · go_simp
      rw [if_neg (by omega)]
      exact ⟨rfl, rfl⟩
    go_simp
    refine hK _ ?_
    clear hK K
    refine wpQuiet_none rfl (fun K hK => ?_)
    apply Exists.intro
    refine ⟨fun w2 hC => ?_, ?_⟩
    · go_simp
      rw [if_neg (by omega)]
      exact ⟨rfl, rfl⟩
    go_simp
    refine hK _ ?_
    clear hK K
    refine wpQuiet_none rfl (fun K hK => ?_)
    apply Exists.intro
    refine ⟨fun w2 hC => ?_, ?_⟩
    · go_simp
      exact rfl
    go_simp
    refine hK _ ?_
    clear hK K
    refine wpQuiet_none rfl (fun K hK => ?_)
    apply Exists.intro
    refine ⟨fun w2 hC => ?_, ?_⟩
    · have P := p5 _ (hb1.trans (hC.mono hb1.size))
      go_simp
      exact rfl
    go_simp
    refine hK _ ?_
    clear hK K
    refine wpQuiet_none rfl (fun K hK => ?_)
    apply Exists.intro
    refine ⟨fun w2 hC => ?_, ?_⟩
    · go_simp
      have hcall := decimal_is Hs.out.2.2.2.2.1 HN.out.2.2.2.2 w2
      exact hcall.mono fun e w3 ⟨he, hb⟩ => ⟨he, hC.trans (hb.mono hC.size)⟩
    go_simp
    refine hK _ ?_
    clear hK K
    refine wpQuiet_none rfl (fun K hK => ?_)
    apply Exists.intro
    refine ⟨fun w2 hC => ?_, ?_⟩
    · go_simp
      rw [if_neg (by omega)]
      exact ⟨rfl, rfl⟩
    go_simp
    refine hK _ ?_
    clear hK K
    refine wpQuiet_none rfl (fun K hK => ?_)
    apply Exists.intro
    refine ⟨fun w2 hC => ?_, ?_⟩
    · go_simp
      exact rfl
    go_simp
    refine hK _ ?_
    clear hK K
    refine wpQuiet_nil ?_
    intro w2 hC
    go_wp2_with fail
    go_ret
    exact ⟨HL.out, HB.trans ((hb1.trans (hC.mono hb1.size)).mono HB.size)⟩
  · have hks : Lib.itoa kind = sk := by rw [← Hs.out.2.2.2.2.2]; unfold wordB; rw [if_neg hk]
    refine (decimal_is hks HE.out.2.1 W).mono ?_
    rintro r w1 ⟨rfl, hb1⟩
    have q1 := p1 w1 hb1
    clear hks
    by_cases hk1 : 1 ≤ kind
    · have hk8 : ¬ kind ≤ 8 := fun h => hk ⟨hk1, h⟩
      clear hk
      go_wp2_with fail
      refine wp_region_below (by kernel_rfl) (by kernel_rfl) ?_
      refine wpQuiet_none rfl (fun K hK => ?_)
      apply Exists.intro
      refine ⟨fun w2 hC => ?_, ?_⟩
      · go_simp
        exact rfl
      go_simp
      refine hK _ ?_
      clear hK K
      refine wpQuiet_none rfl (fun K hK => ?_)
      apply Exists.intro
      refine ⟨fun w2 hC => ?_, ?_⟩
      · have P := p0 _ (hb1.trans (hC.mono hb1.size))
        go_simp
        exact rfl
      go_simp
      refine hK _ ?_
      clear hK K
      refine wpQuiet_none rfl (fun K hK => ?_)
      apply Exists.intro
      refine ⟨fun w2 hC => ?_, ?_⟩
      · go_simp
        have hcall := decimal_is Hs.out.1 HN.out.1 w2
        exact hcall.mono fun e w3 ⟨he, hb⟩ => ⟨he, hC.trans (hb.mono hC.size)⟩
      go_simp
      refine hK _ ?_
      clear hK K
      refine wpQuiet_none rfl (fun K hK => ?_)
      apply Exists.intro
      refine ⟨fun w2 hC => ?_, ?_⟩
      · go_simp
        rw [if_neg (by omega)]
        exact ⟨rfl, rfl⟩
      go_simp
      refine hK _ ?_
      clear hK K
      refine wpQuiet_none rfl (fun K hK => ?_)
      apply Exists.intro
      refine ⟨fun w2 hC => ?_, ?_⟩
      · go_simp
        exact rfl
      go_simp
      refine hK _ ?_
      clear hK K
      refine wpQuiet_none rfl (fun K hK => ?_)
      apply Exists.intro
      refine ⟨fun w2 hC => ?_, ?_⟩
      · go_simp
        rw [if_neg (by omega)]
        exact ⟨rfl, rfl⟩
      go_simp
      refine hK _ ?_
      clear hK K
      refine wpQuiet_none rfl (fun K hK => ?_)
      apply Exists.intro
      refine ⟨fun w2 hC => ?_, ?_⟩
      · go_simp
        rw [if_neg (by omega)]
        exact ⟨rfl, rfl⟩
      go_simp
      refine hK _ ?_
      clear hK K
      refine wpQuiet_none rfl (fun K hK => ?_)
      apply Exists.intro
      refine ⟨fun w2 hC => ?_, ?_⟩
      · go_simp
        exact rfl
      go_simp
      refine hK _ ?_
      clear hK K
      refine wpQuiet_none rfl (fun K hK => ?_)
      apply Exists.intro
      refine ⟨fun w2 hC => ?_, ?_⟩
      · have P := p2 _ (hb1.trans (hC.mono hb1.size))
        go_simp
        exact rfl
      go_simp
      refine hK _ ?_
      clear hK K
      refine wpQuiet_none rfl (fun K hK => ?_)
      apply Exists.intro
      refine ⟨fun w2 hC => ?_, ?_⟩
      · go_simp
        have hcall := decimal_is Hs.out.2.1 HN.out.2.1 w2
        exact hcall.mono fun e w3 ⟨he, hb⟩ => ⟨he, hC.trans (hb.mono hC.size)⟩
      go_simp
      refine hK _ ?_
      clear hK K
      refine wpQuiet_none rfl (fun K hK => ?_)
      apply Exists.intro
      refine ⟨fun w2 hC => ?_, ?_⟩
      · go_simp
        rw [if_neg (by omega)]
        exact ⟨rfl, rfl⟩
      go_simp
      refine hK _ ?_
      clear hK K
      refine wpQuiet_none rfl (fun K hK => ?_)
      apply Exists.intro
      refine ⟨fun w2 hC => ?_, ?_⟩
      · go_simp
        rw [if_neg (by omega)]
        exact ⟨rfl, rfl⟩
      go_simp
      refine hK _ ?_
      clear hK K
      refine wpQuiet_none rfl (fun K hK => ?_)
      apply Exists.intro
      refine ⟨fun w2 hC => ?_, ?_⟩
      · go_simp
        exact rfl
      go_simp
      refine hK _ ?_
      clear hK K
      refine wpQuiet_none rfl (fun K hK => ?_)
      apply Exists.intro
      refine ⟨fun w2 hC => ?_, ?_⟩
      · have P := p3 _ (hb1.trans (hC.mono hb1.size))
        go_simp
        exact rfl
      go_simp
      refine hK _ ?_
      clear hK K
      refine wpQuiet_none rfl (fun K hK => ?_)
      apply Exists.intro
      refine ⟨fun w2 hC => ?_, ?_⟩
      · go_simp
        have hcall := decimal_is Hs.out.2.2.1 HN.out.2.2.1 w2
        exact hcall.mono fun e w3 ⟨he, hb⟩ => ⟨he, hC.trans (hb.mono hC.size)⟩
      go_simp
      refine hK _ ?_
      clear hK K
      refine wpQuiet_none rfl (fun K hK => ?_)
      apply Exists.intro
      refine ⟨fun w2 hC => ?_, ?_⟩
      · go_simp
        rw [if_neg (by omega)]
        exact ⟨rfl, rfl⟩
      go_simp
      refine hK _ ?_
      clear hK K
      refine wpQuiet_none rfl (fun K hK => ?_)
      apply Exists.intro
      refine ⟨fun w2 hC => ?_, ?_⟩
      · go_simp
        rw [if_neg (by omega)]
        exact ⟨rfl, rfl⟩
      go_simp
      refine hK _ ?_
      clear hK K
      refine wpQuiet_none rfl (fun K hK => ?_)
      apply Exists.intro
      refine ⟨fun w2 hC => ?_, ?_⟩
      · go_simp
        exact rfl
      go_simp
      refine hK _ ?_
      clear hK K
      refine wpQuiet_none rfl (fun K hK => ?_)
      apply Exists.intro
      refine ⟨fun w2 hC => ?_, ?_⟩
      · have P := p4 _ (hb1.trans (hC.mono hb1.size))
        go_simp
        exact rfl
      go_simp
      refine hK _ ?_
      clear hK K
      refine wpQuiet_none rfl (fun K hK => ?_)
      apply Exists.intro
      refine ⟨fun w2 hC => ?_, ?_⟩
      · go_simp
        have hcall := decimal_is Hs.out.2.2.2.1 HN.out.2.2.2.1 w2
        exact hcall.mono fun e w3 ⟨he, hb⟩ => ⟨he, hC.trans (hb.mono hC.size)⟩
      go_simp
      refine hK _ ?_
      clear hK K
      refine wpQuiet_none rfl (fun K hK => ?_)
      apply Exists.intro
      refine ⟨fun w2 hC => ?_, ?_⟩
      · go_simp
        rw [if_neg (by omega)]
        exact ⟨rfl, rfl⟩
      go_simp
      refine hK _ ?_
      clear hK K
      refine wpQuiet_none rfl (fun K hK => ?_)
      apply Exists.intro
      refine ⟨fun w2 hC => ?_, ?_⟩
      · go_simp
        rw [if_neg (by omega)]
        exact ⟨rfl, rfl⟩
      go_simp
      refine hK _ ?_
      clear hK K
      refine wpQuiet_none rfl (fun K hK => ?_)
      apply Exists.intro
      refine ⟨fun w2 hC => ?_, ?_⟩
      · go_simp
        exact rfl
      go_simp
      refine hK _ ?_
      clear hK K
      refine wpQuiet_none rfl (fun K hK => ?_)
      apply Exists.intro
      refine ⟨fun w2 hC => ?_, ?_⟩
      · have P := p5 _ (hb1.trans (hC.mono hb1.size))
        go_simp
        exact rfl
      go_simp
      refine hK _ ?_
      clear hK K
      refine wpQuiet_none rfl (fun K hK => ?_)
      apply Exists.intro
      refine ⟨fun w2 hC => ?_, ?_⟩
      · go_simp
        have hcall := decimal_is Hs.out.2.2.2.2.1 HN.out.2.2.2.2 w2
        exact hcall.mono fun e w3 ⟨he, hb⟩ => ⟨he, hC.trans (hb.mono hC.size)⟩
      go_simp
      refine hK _ ?_
      clear hK K
      refine wpQuiet_none rfl (fun K hK => ?_)
      apply Exists.intro
      refine ⟨fun w2 hC => ?_, ?_⟩
      · go_simp
        rw [if_neg (by omega)]
        exact ⟨rfl, rfl⟩
      go_simp
      refine hK _ ?_
      clear hK K
      refine wpQuiet_none rfl (fun K hK => ?_)
      apply Exists.intro
      refine ⟨fun w2 hC => ?_, ?_⟩
      · go_simp
        exact rfl
      go_simp
      refine hK _ ?_
      clear hK K
      refine wpQuiet_nil ?_
      intro w2 hC
      go_wp2_with fail
      go_ret
      exact ⟨HL.out, HB.trans ((hb1.trans (hC.mono hb1.size)).mono HB.size)⟩
    · clear hk
      go_wp2_with fail
      refine wp_region_below (by kernel_rfl) (by kernel_rfl) ?_
      refine wpQuiet_none rfl (fun K hK => ?_)
      apply Exists.intro
      refine ⟨fun w2 hC => ?_, ?_⟩
      · go_simp
        exact rfl
      go_simp
      refine hK _ ?_
      clear hK K
      refine wpQuiet_none rfl (fun K hK => ?_)
      apply Exists.intro
      refine ⟨fun w2 hC => ?_, ?_⟩
      · have P := p0 _ (hb1.trans (hC.mono hb1.size))
        go_simp
        exact rfl
      go_simp
      refine hK _ ?_
      clear hK K
      refine wpQuiet_none rfl (fun K hK => ?_)
      apply Exists.intro
      refine ⟨fun w2 hC => ?_, ?_⟩
      · go_simp
        have hcall := decimal_is Hs.out.1 HN.out.1 w2
        exact hcall.mono fun e w3 ⟨he, hb⟩ => ⟨he, hC.trans (hb.mono hC.size)⟩
      go_simp
      refine hK _ ?_
      clear hK K
      refine wpQuiet_none rfl (fun K hK => ?_)
      apply Exists.intro
      refine ⟨fun w2 hC => ?_, ?_⟩
      · go_simp
        rw [if_neg (by omega)]
        exact ⟨rfl, rfl⟩
      go_simp
      refine hK _ ?_
      clear hK K
      refine wpQuiet_none rfl (fun K hK => ?_)
      apply Exists.intro
      refine ⟨fun w2 hC => ?_, ?_⟩
      · go_simp
        exact rfl
      go_simp
      refine hK _ ?_
      clear hK K
      refine wpQuiet_none rfl (fun K hK => ?_)
      apply Exists.intro
      refine ⟨fun w2 hC => ?_, ?_⟩
      · go_simp
        rw [if_neg (by omega)]
        exact ⟨rfl, rfl⟩
      go_simp
      refine hK _ ?_
      clear hK K
      refine wpQuiet_none rfl (fun K hK => ?_)
      apply Exists.intro
      refine ⟨fun w2 hC => ?_, ?_⟩
      · go_simp
        rw [if_neg (by omega)]
        exact ⟨rfl, rfl⟩
      go_simp
      refine hK _ ?_
      clear hK K
      refine wpQuiet_none rfl (fun K hK => ?_)
      apply Exists.intro
      refine ⟨fun w2 hC => ?_, ?_⟩
      · go_simp
        exact rfl
      go_simp
      refine hK _ ?_
      clear hK K
      refine wpQuiet_none rfl (fun K hK => ?_)
      apply Exists.intro
      refine ⟨fun w2 hC => ?_, ?_⟩
      · have P := p2 _ (hb1.trans (hC.mono hb1.size))
        go_simp
        exact rfl
      go_simp
      refine hK _ ?_
      clear hK K
      refine wpQuiet_none rfl (fun K hK => ?_)
      apply Exists.intro
      refine ⟨fun w2 hC => ?_, ?_⟩
      · go_simp
        have hcall := decimal_is Hs.out.2.1 HN.out.2.1 w2
        exact hcall.mono fun e w3 ⟨he, hb⟩ => ⟨he, hC.trans (hb.mono hC.size)⟩
      go_simp
      refine hK _ ?_
      clear hK K
      refine wpQuiet_none rfl (fun K hK => ?_)
      apply Exists.intro
      refine ⟨fun w2 hC => ?_, ?_⟩
      · go_simp
        rw [if_neg (by omega)]
        exact ⟨rfl, rfl⟩
      go_simp
      refine hK _ ?_
      clear hK K
      refine wpQuiet_none rfl (fun K hK => ?_)
      apply Exists.intro
      refine ⟨fun w2 hC => ?_, ?_⟩
      · go_simp
        rw [if_neg (by omega)]
        exact ⟨rfl, rfl⟩
      go_simp
      refine hK _ ?_
      clear hK K
      refine wpQuiet_none rfl (fun K hK => ?_)
      apply Exists.intro
      refine ⟨fun w2 hC => ?_, ?_⟩
      · go_simp
        exact rfl
      go_simp
      refine hK _ ?_
      clear hK K
      refine wpQuiet_none rfl (fun K hK => ?_)
      apply Exists.intro
      refine ⟨fun w2 hC => ?_, ?_⟩
      · have P := p3 _ (hb1.trans (hC.mono hb1.size))
        go_simp
        exact rfl
      go_simp
      refine hK _ ?_
      clear hK K
      refine wpQuiet_none rfl (fun K hK => ?_)
      apply Exists.intro
      refine ⟨fun w2 hC => ?_, ?_⟩
      · go_simp
        have hcall := decimal_is Hs.out.2.2.1 HN.out.2.2.1 w2
        exact hcall.mono fun e w3 ⟨he, hb⟩ => ⟨he, hC.trans (hb.mono hC.size)⟩
      go_simp
      refine hK _ ?_
      clear hK K
      refine wpQuiet_none rfl (fun K hK => ?_)
      apply Exists.intro
      refine ⟨fun w2 hC => ?_, ?_⟩
      · go_simp
        rw [if_neg (by omega)]
        exact ⟨rfl, rfl⟩
      go_simp
      refine hK _ ?_
      clear hK K
      refine wpQuiet_none rfl (fun K hK => ?_)
      apply Exists.intro
      refine ⟨fun w2 hC => ?_, ?_⟩
      · go_simp
        rw [if_neg (by omega)]
        exact ⟨rfl, rfl⟩
      go_simp
      refine hK _ ?_
      clear hK K
      refine wpQuiet_none rfl (fun K hK => ?_)
      apply Exists.intro
      refine ⟨fun w2 hC => ?_, ?_⟩
      · go_simp
        exact rfl
      go_simp
      refine hK _ ?_
      clear hK K
      refine wpQuiet_none rfl (fun K hK => ?_)
      apply Exists.intro
      refine ⟨fun w2 hC => ?_, ?_⟩
      · have P := p4 _ (hb1.trans (hC.mono hb1.size))
        go_simp
        exact rfl
      go_simp
      refine hK _ ?_
      clear hK K
      refine wpQuiet_none rfl (fun K hK => ?_)
      apply Exists.intro
      refine ⟨fun w2 hC => ?_, ?_⟩
      · go_simp
        have hcall := decimal_is Hs.out.2.2.2.1 HN.out.2.2.2.1 w2
        exact hcall.mono fun e w3 ⟨he, hb⟩ => ⟨he, hC.trans (hb.mono hC.size)⟩
      go_simp
      refine hK _ ?_
      clear hK K
      refine wpQuiet_none rfl (fun K hK => ?_)
      apply Exists.intro
      refine ⟨fun w2 hC => ?_, ?_⟩
      · go_simp
        rw [if_neg (by omega)]
        exact ⟨rfl, rfl⟩
      go_simp
      refine hK _ ?_
      clear hK K
      refine wpQuiet_none rfl (fun K hK => ?_)
      apply Exists.intro
      refine ⟨fun w2 hC => ?_, ?_⟩
      · go_simp
        rw [if_neg (by omega)]
        exact ⟨rfl, rfl⟩
      go_simp
      refine hK _ ?_
      clear hK K
      refine wpQuiet_none rfl (fun K hK => ?_)
      apply Exists.intro
      refine ⟨fun w2 hC => ?_, ?_⟩
      · go_simp
        exact rfl
      go_simp
      refine hK _ ?_
      clear hK K
      refine wpQuiet_none rfl (fun K hK => ?_)
      apply Exists.intro
      refine ⟨fun w2 hC => ?_, ?_⟩
      · have P := p5 _ (hb1.trans (hC.mono hb1.size))
        go_simp
        exact rfl
      go_simp
      refine hK _ ?_
      clear hK K
      refine wpQuiet_none rfl (fun K hK => ?_)
      apply Exists.intro
      refine ⟨fun w2 hC => ?_, ?_⟩
      · go_simp
        have hcall := decimal_is Hs.out.2.2.2.2.1 HN.out.2.2.2.2 w2
        exact hcall.mono fun e w3 ⟨he, hb⟩ => ⟨he, hC.trans (hb.mono hC.size)⟩
      go_simp
      refine hK _ ?_
      clear hK K
      refine wpQuiet_none rfl (fun K hK => ?_)
      apply Exists.intro
      refine ⟨fun w2 hC => ?_, ?_⟩
      · go_simp
        rw [if_neg (by omega)]
        exact ⟨rfl, rfl⟩
      go_simp
      refine hK _ ?_
      clear hK K
      refine wpQuiet_none rfl (fun K hK => ?_)
      apply Exists.intro
      refine ⟨fun w2 hC => ?_, ?_⟩
      · go_simp
        exact rfl
      go_simp
      refine hK _ ?_
      clear hK K
      refine wpQuiet_nil ?_
      intro w2 hC
      go_wp2_with fail
      go_ret
      exact ⟨HL.out, HB.trans ((hb1.trans (hC.mono hb1.size)).mono HB.size)⟩

end Go.Proofs.YtdjknobolflldaaDoor
