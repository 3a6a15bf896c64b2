/- Rows of events: appended whole, one of them changed; the plain law of TraceFirst. -/
import Derived.Test.YtdjknobolflldaaDoorTrR
namespace Go.Proofs.YtdjknobolflldaaDoor
open Go.RowKit

section
variable {P : Program} (w : World)
theorem run_append_none (base : Nat) (t ty e : TypeId) (i : TypeInfo) (ht : P.underlying t = some (.slice e)) (hi : P.info? e = some i)
    (v : Value) (n size : Nat) (xs : List Value) (hown : w.ownsRow base e size v n xs) (c : Nat) :
    (Builtin.append_ #[t, t] ty #[v, .slice none 0 c]).run P w = .ok v w := by
  rcases hown.2 with ⟨rfl, rfl⟩ | ⟨g, cap, cur, rfl, hbg, hg, hnc, hcm, hcs, htake⟩
  · simp [Builtin.append_, run_underlying ht, sizeOf, typeInfo, hi, Builtin.lenOf, Builtin.firstCells, loadCells, loadCellsFrom]
  · simp [Builtin.append_, run_underlying ht, sizeOf, typeInfo, hi, Builtin.lenOf, Builtin.firstCells, loadCells, loadCellsFrom, hnc, storeCells]
theorem wpList_append_any {ops : Array Oper} {rest : List Oper} {o : Oper} {a : Act} {Q : Exit → Act → World → Prop} (hgd : Region.wanted o (yielded ops a.tmps) = true) (s x : Operand) (t : TypeId)
    (ho : o.op = .call { callee := .builtin .append, args := #[s, x], argTypes := #[t, t] })
    (base : Nat) (e : TypeId) (i : TypeInfo) (z : Value) (size bytes : Nat) (ht : P.underlying t = some (.slice e)) (hi : P.info? e = some i) (hz : i.zero = some z)
    (hsize : i.size = size) (hby : i.bytes = bytes) (hzs : z.cells.size = size) (hsz : 0 < size)
    (v : Value) (n : Nat) (xs : List Value) (hs : a.eval s = v) (hown : w.ownsRow base e size v n xs)
    (ao : Option Addr) (m c : Nat) (news : List Value) (hx : a.eval x = .slice ao m c) (hl : news.length = m * size) (h0 : ao = none → m = 0) (hnews : ∀ ad, ao = some ad → ∀ j u, news[j]? = some u → w.cell? (ad.add j) = some u) (h1 : ∀ u ∈ news, u.oneCell' = true)
    (h63 : n + m ≤ maxLen) (hbytes : (n + m) * bytes ≤ 140737488355328) (hbase : base ≤ w.heap.size)
    (h : ∀ v' w', w'.ownsRow base e size v' (n + m) (xs ++ news) → w.grownBy w' v.ownBlock → (v' = .slice none 0 0 ↔ v = .slice none 0 0 ∧ m = 0) → wpList P ops Q rest (a.put o.dst v') w') : wpList P ops Q (o :: rest) a w := by
  refine wpList_step fun K hK => ?_
  rw [if_pos hgd]
  cases ao with
  | some ad => exact wp_append_own w s x t ho base e i z size bytes ht hi hz hsize hby hzs hsz v n xs hs hown ad m c news hx hl (hnews ad rfl) h1 h63 hbytes hbase fun v' w' h2 h3 h4 => hK _ _ (h v' w' h2 h3 h4)
  | none =>
    obtain rfl := h0 rfl
    obtain rfl : news = [] := List.eq_nil_of_length_eq_zero (by simpa using hl)
    have hr := run_append_none (P := P) w base t o.type e i ht hi v n size xs hown c
    unfold Oper.wp execOp
    simp only [ho, resolve, invoke, builtin, Sem.run_bind, Sem.run_pure, Result.andThen_ok, List.map_toArray, List.map_cons, List.map_nil, hs, hx, hr]
    exact hK _ _ (h v w (by simpa using hown) ⟨rfl, rfl, rfl, Nat.le_refl _, fun _ _ _ => rfl⟩ (by simp))
end

theorem evsV_length (l : List Ev) : (evsV l).length = l.length * 6 := by
  unfold evsV
  induction l with
  | nil => rfl
  | cons e l ih => simp [Ev.cells]; simp [Ev.cells] at ih; omega
theorem evsV_at : ∀ (l : List Ev) (i : Nat) (u : Value), (evsV l)[i]? = some u → i / 6 < l.length ∧ ((l.getD (i / 6) noEv).cells)[i % 6]? = some u
  | [], i, u, h => by simp [evsV] at h
  | e :: l, i, u, h => by
    simp only [evsV, List.flatMap_cons] at h
    have hc : e.cells.length = 6 := rfl
    by_cases hi : i < 6
    · rw [List.getElem?_append_left (by omega)] at h
      rw [Nat.div_eq_of_lt hi, Nat.mod_eq_of_lt hi]
      exact ⟨by simp, h⟩
    · rw [List.getElem?_append_right (by omega), hc] at h
      obtain ⟨h1, h2⟩ := evsV_at l (i - 6) u h
      have e1 : i / 6 = (i - 6) / 6 + 1 := by omega
      have e2 : i % 6 = (i - 6) % 6 := by omega
      rw [e1, e2]
      exact ⟨by simpa using h1, h2⟩
theorem evsV_one (l : List Ev) : ∀ u ∈ evsV l, u.oneCell' = true := by
  intro u hu
  obtain ⟨e, _, he⟩ := List.mem_flatMap.1 hu
  simp only [Ev.cells, List.mem_cons, List.not_mem_nil, or_false] at he
  rcases he with rfl | rfl | rfl | rfl | rfl | rfl <;> rfl
/-- What a slice of events gives an append that takes it whole. -/
theorem Evs.source {w : World} {v : Value} {l : List Ev} (h : Evs w v l) : ∃ ao c, v = .slice ao l.length c ∧ (ao = none → l.length = 0) ∧ ∀ ad, ao = some ad → ∀ w', Below w.heap.size w w' → ∀ j u, (evsV l)[j]? = some u → w'.cell? (ad.add j) = some u := by
  obtain ⟨a, cap, rfl, _, hc⟩ := h
  refine ⟨a, cap, rfl, fun ha => ?_, fun ad ha w' hb j u hj => ?_⟩
  · by_cases h0 : l.length = 0
    · exact h0
    · obtain ⟨b, off, hb, _⟩ := hc 0 (by omega)
      rw [ha] at hb; cases hb
  · obtain ⟨h1, h2⟩ := evsV_at l j u hj
    obtain ⟨b, off, hb', hlt, hcs⟩ := hc (j / 6) h1
    rw [ha] at hb'
    cases hb'
    have := hcs (j % 6) u h2
    have e1 : off + j / 6 * 6 + j % 6 = off + j := by omega
    rw [e1] at this
    rw [Go.WideShapes.add_plain, hb.cell hlt]
    exact this
theorem owns_empty (w : World) (B n : Nat) (hn : n = w.heap.size) (hB : B ≤ w.heap.size) : (w.alloc (.cells #[] 28)).ownsRow B 28 6 (.slice (some ⟨n, 0, none⟩) 0 0) 0 [] := by
  subst hn
  exact ⟨rfl, .inr ⟨w.heap.size, 0, #[], rfl, hB, heap_alloc_new w _, Nat.le_refl _, by decide, rfl, rfl⟩⟩
/-- A row of the call's own that reads as events: the block itself. -/
theorem own_block {w : World} {B : Nat} {v : Value} {l : List Ev} {n : Nat} (h : w.ownsRow B 28 6 v n (evsV l)) (hn : 0 < n) : ∃ g cap cur, v = .slice (some ⟨g, 0, none⟩) n cap ∧ n = l.length ∧ B ≤ g ∧ n ≤ cap ∧ cap ≤ maxLen ∧ w.heap[g]? = some (.cells cur 28) ∧ cur.size = cap * 6 ∧ cur.toList.take (n * 6) = evsV l := by
  have hl := h.1
  rw [evsV_length] at hl
  rcases h.2 with ⟨_, h0⟩ | ⟨g, cap, cur, hv, hg, hh, hc, hm, hs, ht⟩
  · omega
  · exact ⟨g, cap, cur, hv, by omega, hg, hc, hm, hh, hs, ht⟩
theorem own_cellB {w : World} {g n : Nat} {cur : Array Value} {l : List Ev} (hn : n = l.length) (hh : w.heap[g]? = some (.cells cur 28)) (ht : cur.toList.take (n * 6) = evsV l) {k : Nat} (hk : k < l.length) :
    w.cell? ⟨g, k * 6 + 4, none⟩ = some (.int .i64 (l.getD k noEv).b) := by
  rw [Lib.cell_of_heap hh]
  have hv := evsV_get l k hk 4 _ rfl
  rw [← ht, List.getElem?_take, if_pos (by omega)] at hv
  simpa using hv
def Ev.withB (e : Ev) (b : Int) : Ev := { e with b := b }
theorem cells_withB (e : Ev) (b : Int) (j : Nat) : ((e.withB b).cells)[j]? = if j = 4 then some (.int .i64 b) else (e.cells)[j]? := by
  rcases j with _ | _ | _ | _ | _ | _ | j <;> simp [Ev.cells, Ev.withB]
/-- One field of one event of such a row is changed. -/
theorem own_set {w : World} {g n cap : Nat} {cur : Array Value} {l : List Ev} (hn : n = l.length) (hh : w.heap[g]? = some (.cells cur 28)) (hc : n ≤ cap) (hm : cap ≤ maxLen) (hs : cur.size = cap * 6) (ht : cur.toList.take (n * 6) = evsV l) {k : Nat} (hk : k < l.length) (b : Int) :
    Evs (w.setCell ⟨g, k * 6 + 4, none⟩ (.int .i64 b)) (.slice (some ⟨g, 0, none⟩) n cap) (l.set k ((l.getD k noEv).withB b)) := by
  have hlt : g < w.heap.size := (Array.getElem?_eq_some_iff.1 hh).1
  refine ⟨some ⟨g, 0, none⟩, cap, by simp [hn], by simp only [maxLen] at hm; rw [List.length_set]; omega, fun i hi => ⟨g, 0, rfl, by simpa [World.setCell] using hlt, fun j x hx => ?_⟩⟩
  rw [List.length_set] at hi
  have hnew := setCell_here (k := k * 6 + 4) hh (.int .i64 b)
  rw [Lib.cell_of_heap hnew]
  have hj : j < 6 := by
    have := (List.getElem?_eq_some_iff.1 hx).1
    simpa [Ev.cells] using this
  by_cases hik : i = k
  · subst hik
    rw [List.getD_eq_getElem?_getD, List.getElem?_set_self hk, Option.getD_some, cells_withB] at hx
    by_cases h4 : j = 4
    · subst h4
      rw [if_pos rfl] at hx
      rw [Nat.zero_add, Array.getElem?_setIfInBounds_self_of_lt (by rw [hs]; omega)]
      exact hx
    · rw [if_neg h4] at hx
      rw [Nat.zero_add, Array.getElem?_setIfInBounds_ne (by omega)]
      have hv := evsV_get l i hi j x hx
      rw [← ht, List.getElem?_take] at hv
      rw [if_pos (by omega)] at hv
      simpa using hv
  · rw [List.getD_eq_getElem?_getD, List.getElem?_set_ne (by omega)] at hx
    rw [Nat.zero_add, Array.getElem?_setIfInBounds_ne (by omega)]
    have hv := evsV_get l i hi j x (by rw [List.getD_eq_getElem?_getD]; exact hx)
    rw [← ht, List.getElem?_take] at hv
    rw [if_pos (by omega)] at hv
    simpa using hv

def xor1 (x : Int) : Int := bits .xor .i64 x 1
theorem xor1_ok (x : Int) : I64 (xor1 x) := by
  unfold xor1 bits I64
  have := IntKind.wrap_i64
  rw [this]
  constructor <;> omega
theorem xor1_ne {x : Int} (hx : I64 x) : xor1 x ≠ x := by
  intro h
  have h2 : BitVec.ofInt 64 (xor1 x) = BitVec.ofInt 64 x ^^^ BitVec.ofInt 64 1 := by
    unfold xor1 bits
    rw [IntKind.wrap_i64]
    apply BitVec.eq_of_toNat_eq
    have hlt := (BitVec.ofInt 64 x ^^^ BitVec.ofInt 64 1).isLt
    rw [BitVec.toNat_ofInt]
    have key : ∀ m : Nat, m < 18446744073709551616 → ((((m : Int) + 9223372036854775808) % 18446744073709551616 - 9223372036854775808) % ((18446744073709551616 : Nat) : Int)).toNat = m := by
      intro m hm
      omega
    exact key _ hlt
  rw [h] at h2
  have h3 : BitVec.ofInt 64 x ^^^ (BitVec.ofInt 64 x ^^^ BitVec.ofInt 64 1) = 0#64 := by rw [← h2]; simp
  rw [← BitVec.xor_assoc, BitVec.xor_self, BitVec.zero_xor] at h3
  exact absurd h3 (by decide)

theorem withB_ne {e : Ev} (he : e.ok) : e.withB (xor1 e.b) ≠ e := by
  intro h
  have := congrArg Ev.b h
  exact xor1_ne he.2.2.2.2.1 this
theorem firstB_set {l : List Ev} {k : Nat} {e : Ev} (hk : k < l.length) (he : e ≠ l.getD k noEv) : firstB l (l.set k e) = k ∧ firstB (l.set k e) l = k := by
  have ho : ∀ i, i < k → l.getD i noEv = (l.set k e).getD i noEv := by
    intro i hi
    rw [List.getD_eq_getElem?_getD, List.getD_eq_getElem?_getD, List.getElem?_set_ne (by omega)]
  have hd : (l.set k e).getD k noEv = e := by rw [List.getD_eq_getElem?_getD, List.getElem?_set_self hk]; rfl
  refine ⟨firstB_at hk (by simpa using hk) ho (by rw [hd]; exact fun h => he h.symm), firstB_at (by simpa using hk) hk (fun i hi => (ho i hi).symm) (by rw [hd]; exact he)⟩
theorem getD_take {l : List Ev} {c i : Nat} (h : i < c) : (l.take c).getD i noEv = l.getD i noEv := by
  rw [List.getD_eq_getElem?_getD, List.getD_eq_getElem?_getD, List.getElem?_take, if_pos h]
theorem firstB_cut {l : List Ev} {c : Nat} (hc : c < l.length) : firstB l (l.take c) = c := by
  have hl : (l.take c).length = c := by rw [List.length_take]; omega
  rw [firstB_none (fun i hi => (getD_take (by omega)).symm), hl, if_neg (by omega), Nat.min_eq_right (by omega)]
theorem firstB_cutset {l : List Ev} {c k : Nat} {e : Ev} (hc : c < l.length) (hk : k < l.length) (he : e ≠ l.getD k noEv) : firstB (l.take c) (l.set k e) = min (c : Int) k := by
  have hl : (l.take c).length = c := by rw [List.length_take]; omega
  have ho : ∀ i, i ≠ k → l.getD i noEv = (l.set k e).getD i noEv := by
    intro i hi
    rw [List.getD_eq_getElem?_getD, List.getD_eq_getElem?_getD, List.getElem?_set_ne (by omega)]
  have hd : (l.set k e).getD k noEv = e := by rw [List.getD_eq_getElem?_getD, List.getElem?_set_self hk]; rfl
  by_cases hck : c ≤ k
  · rw [firstB_none (fun i hi => by rw [getD_take (by omega)]; exact ho i (by omega)), hl, List.length_set, if_neg (by omega), Nat.min_eq_left (by omega)]
    omega
  · rw [firstB_at (k := k) (by omega) (by simpa using hk) (fun i hi => by rw [getD_take (by omega)]; exact ho i (by omega)) (by rw [getD_take (by omega), hd]; exact fun h => he h.symm)]
    omega
theorem evs_cut {w : World} {a : Option Addr} {n cap c : Nat} {l : List Ev} (h : Evs w (.slice a n cap) l) (hc : c ≤ l.length) : Evs w (.slice a c cap) (l.take c) := by
  obtain ⟨a', cap', h1, h2, h3⟩ := h
  cases h1
  have hl : (l.take c).length = c := by rw [List.length_take]; omega
  refine ⟨a, cap, by rw [hl], by omega, fun k hk => ?_⟩
  rw [hl] at hk
  obtain ⟨b, off, ha, hlt, hcs⟩ := h3 k (by omega)
  exact ⟨b, off, ha, hlt, fun j x hx => hcs j x (by rw [getD_take hk] at hx; exact hx)⟩
end Go.Proofs.YtdjknobolflldaaDoor
