/- ReplyTells' arguments that lie in memory, opened: bytes, pairs, texts, words. No condition. -/
import Derived.Test.YtnjmhneobgmejaaDoorPost
import Derived.Test.YtnjmhneobgmejaaDoorTellH
import Derived.Deep.Slices
import Derived.Deep.Strs
import Derived.ChangeSlices
import Derived.ChangeSame
import Derived.WideKeyArgs
import Derived.SizedLaws
namespace Go.Proofs.YtnjmhneobgmejaaDoor
open Go.ChangeShapes Go.WideShapes Go.ChangeAt Go.RowKit Go.Deep

instance : Inhabited PairV := ⟨⟨⟨#[]⟩, none, 0, []⟩⟩
theorem laidOut : laidOutB Tryd.prog = true := by kernel_rfl
theorem lt_of_cell {w : World} {a : Addr} {v : Value} (h : w.cell? a = some v) : a.block < w.heap.size := by
  rcases Nat.lt_or_ge a.block w.heap.size with h' | h'
  · exact h'
  · simp [World.cell?, Array.getElem?_eq_none h'] at h
theorem add_block' (a : Addr) (j : Nat) : (a.add j).block = a.block := by unfold Addr.add; split <;> rfl
theorem u8_of {z : Int} (h : (Lit.int .u8 z).wf = true) : ((UInt8.ofNat z.toNat).toNat : Int) = z := by
  have h2 : IntKind.u8.min ≤ z ∧ z ≤ IntKind.u8.max := by simpa [Lit.wf] using h
  have h3 : (0 : Int) ≤ z := h2.1
  have h4 : z ≤ 255 := h2.2
  rw [UInt8.toNat_ofNat']
  omega
theorem weights_mem_all {H : Type} {P : Program} {t : TypeId} : ∀ {ds : List (DataW H)} {d : DataW H}, d ∈ ds → ∀ n ∈ d.weights P t, n ∈ DataW.weightsAll P t ds
  | d0 :: ds, d, hd, n, hn => by
    simp only [DataW.weightsAll, List.mem_append]
    rcases List.mem_cons.1 hd with rfl | hd
    · exact .inl hn
    · exact .inr (weights_mem_all hd n hn)
section
variable {H : Type} {enc : TypeId × Value → H} {W : World} {base b0 : Nat} {sp : Nat → Bool} {held : Bool} {r : Reach}
/-- Numbers in a row. -/
def IntsAt (k : IntKind) (A : Option Addr) (l : List Int) (w : World) : Prop := ∀ (i : Nat) (h : i < l.length), ∃ a : Addr, A = some a ∧ a.block < w.heap.size ∧ w.cell? (a.add i) = some (.int k l[i]) ∧ (Lit.int k l[i]).wf = true
set_option maxRecDepth 100000 in
theorem open_ints_at {t e : TypeId} {k : IntKind} {v : Value} {d : DataW H} {p : List MemPlace} (ht : Tryd.prog.underlying t = some (.slice e)) (he : Tryd.prog.underlying e = some (.int k)) (hc : Tryd.prog.cellsOf e = 1) (hv : Value.okWide Tryd.prog W r b0 t v) (h : DataW.Trod enc Tryd.prog W base sp held t v d p) :
    ∃ A c l, v = .slice A l.length c ∧ IntsAt k A l W ∧ l.length ≤ maxLen := by
  obtain ⟨a0, len, cap, rfl⟩ := okWide_slice ht hv
  obtain ⟨fuel, hf⟩ := h
  rcases open_ints ht he hc hf with ⟨hcs, _⟩ | ⟨a, len', cap', zs, hcs, _, hl, hm, hz, _, hcell, hwf⟩
  · simp [Value.cells] at hcs
    obtain ⟨rfl, rfl, rfl⟩ := hcs
    exact ⟨none, 0, [], rfl, fun i h => absurd h (by simp), Nat.zero_le _⟩
  · simp [Value.cells] at hcs
    obtain ⟨rfl, rfl, rfl⟩ := hcs
    have hle : len ≤ zs.length := by rw [hz]; split <;> omega
    have hlen : (zs.take len).length = len := by rw [List.length_take]; omega
    refine ⟨some a, cap, zs.take len, by rw [hlen], fun i h => ?_, by rw [hlen]; exact Nat.le_trans hl hm⟩
    rw [hlen] at h
    have hc1 := hcell i (by omega)
    have e : (zs.take len)[i]'(by omega) = zs.getD i 0 := by simp [List.getD, List.getElem?_eq_getElem (show i < zs.length by omega)]
    refine ⟨a, rfl, ?_, by rw [e]; exact hc1, hwf _ (List.mem_of_mem_take (List.getElem_mem _))⟩
    have := lt_of_cell hc1
    rw [add_block'] at this; exact this
set_option maxRecDepth 100000 in
/-- A slice of ints. -/
theorem open_i64s {v : Value} {d : DataW H} {p : List MemPlace} (hv : Value.okWide Tryd.prog W r b0 26 v) (h : DataW.Trod enc Tryd.prog W base sp held 26 v d p) :
    ∃ A c l, v = .slice A l.length c ∧ I64sAt A l W ∧ l.length ≤ maxLen := by
  obtain ⟨A, c, l, hv, hl, hn⟩ := open_ints_at Tryd.underlying26 Tryd.underlying3 (by kernel_rfl) hv h
  refine ⟨A, c, l, hv, fun i hi => ?_, hn⟩
  obtain ⟨a, h1, h2, h3, h4⟩ := hl i hi
  have h5 := bounds_i64 h4
  exact ⟨a, h1, h2, h3, h5.1, h5.2⟩
set_option maxRecDepth 100000 in
/-- A slice of words. -/
theorem open_u64s {v : Value} {d : DataW H} {p : List MemPlace} (hv : Value.okWide Tryd.prog W r b0 25 v) (h : DataW.Trod enc Tryd.prog W base sp held 25 v d p) :
    ∃ A c l, v = .slice A (List.length l) c ∧ U64sAt A l W ∧ List.length l ≤ maxLen := by
  obtain ⟨A, c, l, hv, hl, hn⟩ := open_ints_at Tryd.underlying25 Tryd.underlying37 (by kernel_rfl) hv h
  refine ⟨A, c, l.map Int.toNat, by rw [hv, List.length_map], fun i hi => ?_, by rw [List.length_map]; exact hn⟩
  have hi' : i < l.length := by rw [List.length_map] at hi; exact hi
  obtain ⟨a, h1, h2, h3, h4⟩ := hl i hi'
  obtain ⟨m, hm, hlt⟩ := u64_bounds h4
  refine ⟨a, h1, h2, ?_, ?_⟩
  · rw [h3, List.getElem_map, hm]; simp
  · rw [List.getElem_map, hm]; simpa using hlt
set_option maxRecDepth 100000 in
/-- A slice of bytes, out of its reading: its length is among its weights. -/
theorem bytes_read {fuel : Nat} {v : Value} {x : DataW H × List MemPlace} (h : DataW.trod enc Tryd.prog W base sp held fuel 22 [v] = some x) :
    ∃ (A : Option Addr) (c : Nat) (l : List UInt8), v = .slice A l.length c ∧ BytesAt A l W ∧ l.length ≤ maxLen ∧ ((∀ n ∈ x.1.weights Tryd.prog 22, n ≤ reachBytes) → l.length ≤ reachBytes) := by
  have hb : Tryd.prog.bytesOf 5 = 1 := by kernel_rfl
  rcases open_slice1 Tryd.underlying22 (by kernel_rfl) h with ⟨hcs, _⟩ | ⟨a1, len1, cap1, m1, n1, V1, D1, Pl1, hcs1, _, hl1, hm1, hmm1, hx1, _⟩
  · simp only [List.cons.injEq, and_true] at hcs
    exact ⟨none, 0, [], hcs, fun h0 => absurd rfl h0, Nat.zero_le _, fun _ => Nat.zero_le _⟩
  rcases open_ints Tryd.underlying22 Tryd.underlying5 (by kernel_rfl) h with ⟨hcs, _⟩ | ⟨a, len, cap, zs, hcs, _, hl, hm, hz, _, hcell, hwf⟩
  · simp only [List.cons.injEq, and_true] at hcs
    exact ⟨none, 0, [], hcs, fun h0 => absurd rfl h0, Nat.zero_le _, fun _ => Nat.zero_le _⟩
  · simp only [List.cons.injEq, and_true] at hcs hcs1
    have he : len1 = len := by rw [hcs] at hcs1; injection hcs1 with _ h2 _; exact h2.symm
    have hle : len ≤ zs.length := by rw [hz]; split <;> omega
    have hlen : ((zs.take len).map fun z => UInt8.ofNat z.toNat).length = len := by rw [List.length_map, List.length_take]; omega
    refine ⟨some a, cap, (zs.take len).map fun z => UInt8.ofNat z.toNat, by rw [hcs]; simp only [hlen], fun h0 => ?_, by simp only [hlen]; exact Nat.le_trans hl hm, fun hw => ?_⟩
    · have hpos := List.length_pos_iff.2 h0
      simp only [hlen] at hpos
      refine ⟨a, rfl, by have := lt_of_cell (hcell 0 (by omega)); rw [add_block'] at this; exact this, fun j hj => ?_⟩
      simp only [hlen] at hj
      have hc1 := hcell j (by omega)
      have e : zs.getD j 0 = zs[j]'(by omega) := by simp [List.getD, List.getElem?_eq_getElem (show j < zs.length by omega)]
      rw [hc1, e]
      simp only [List.getElem_map, List.getElem_take]
      rw [u8_of (hwf _ (List.getElem_mem (by omega)))]
    · rw [hlen, ← he]
      have := hw ((len1 + (m1 - len1)) * 1) (by rw [hx1]; simp [DataW.weights, Tryd.underlying22, hb])
      omega
set_option maxRecDepth 100000 in
theorem open_bytes {v : Value} {d : DataW H} {p : List MemPlace} (hv : Value.okWide Tryd.prog W r b0 22 v) (h : DataW.Trod enc Tryd.prog W base sp held 22 v d p) :
    ∃ A c l, v = .slice A (List.length l) c ∧ BytesAt A l W ∧ List.length l ≤ maxLen := by
  obtain ⟨a0, len, cap, rfl⟩ := okWide_slice Tryd.underlying22 hv
  obtain ⟨fuel, hf⟩ := h
  obtain ⟨A, c, l, h1, h2, h3, _⟩ := bytes_read (v := .slice a0 len cap) (by simpa [Value.cells] using hf)
  exact ⟨A, c, l, h1, h2, h3⟩
set_option maxRecDepth 100000 in
/-- A slice of texts. -/
theorem open_texts {v : Value} {d : DataW H} {p : List MemPlace} (hv : Value.okWide Tryd.prog W r b0 24 v) (h : DataW.Trod enc Tryd.prog W base sp held 24 v d p) :
    ∃ A c N, v = .slice A (List.length N) c ∧ StrsAt A N W ∧ List.length N ≤ maxLen ∧ List.length N ≤ c := by
  obtain ⟨a0, len, cap, rfl⟩ := okWide_slice Tryd.underlying24 hv
  obtain ⟨fuel, hf⟩ := h
  rcases open_strs Tryd.underlying24 Tryd.underlying9 (by kernel_rfl) hf with ⟨hcs, _⟩ | ⟨a, len', cap', m, Sx, hcs, _, hl, hm, hmm, _, hel⟩
  · simp [Value.cells] at hcs
    obtain ⟨rfl, rfl, rfl⟩ := hcs
    exact ⟨none, 0, [], rfl, fun i h => absurd h (by simp), Nat.zero_le _, Nat.zero_le _⟩
  · simp [Value.cells] at hcs
    obtain ⟨rfl, rfl, rfl⟩ := hcs
    have hle : len ≤ m := by rw [hmm]; split <;> omega
    have hlen : ((List.range len).map Sx).length = len := by simp
    refine ⟨some a, cap, (List.range len).map Sx, by rw [hlen], fun i hi => ?_, by rw [hlen]; exact Nat.le_trans hl hm, by rw [hlen]; exact hl⟩
    rw [hlen] at hi
    have hc1 := (hel i (by omega)).1
    have e : ((List.range len).map Sx)[i]'(by rw [hlen]; exact hi) = Sx i := by simp
    rw [e]
    refine ⟨a, rfl, ?_, hc1⟩
    have := lt_of_cell hc1
    rw [add_block'] at this; exact this
set_option maxRecDepth 100000 in
/-- A pair, out of its reading: its key's and its value's length are among its weights. -/
theorem pair_read {fuel : Nat} {cs : List Value} {x : DataW H × List MemPlace} (h : DataW.trod enc Tryd.prog W base sp held fuel 30 cs = some x) :
    ∃ q : PairV, cs = [.string q.key, .slice q.addr q.val.length q.cap] ∧ BytesAt q.addr q.val W ∧ ((∀ n ∈ x.1.weights Tryd.prog 30, n ≤ reachBytes) → q.key.size ≤ reachBytes ∧ q.val.length ≤ reachBytes) := by
  have e0 : Tryd.prog.cellsOf 30 = 2 := by kernel_rfl
  have e1 : Tryd.prog.cellsOf 9 = 1 := by kernel_rfl
  have e2 : Tryd.prog.cellsOf 22 = 1 := by kernel_rfl
  obtain ⟨y0, y1, n, rfl, hl, h0, h1⟩ := trod_struct2 Tryd.underlying30 h
  rw [e0] at hl
  match cs, hl with
  | [a, b], _ =>
    simp only [e1, e2] at h0 h1
    obtain ⟨s, ha, hy0, _⟩ := DataW.trod_string Tryd.underlying9 h0
    have hb : DataW.trod enc Tryd.prog W base sp held n 22 [b] = some y1 := by simpa using h1
    obtain ⟨A, c, l, hv, hby, _, hw⟩ := bytes_read hb
    have ha' : a = .string s := by simpa using ha
    refine ⟨⟨s, A, c, l⟩, by rw [ha', hv], hby, fun hall => ⟨?_, hw fun m hm => hall m ?_⟩⟩
    · refine hall s.size ?_
      simp only [DataW.weights, Tryd.underlying30]
      refine DataW.weights_mem_each (j := 0) (t := 9) rfl rfl _ ?_
      rw [hy0, Lib.size_eq]; simp only [DataW.weights]; exact List.mem_singleton.2 rfl
    · simp only [DataW.weights, Tryd.underlying30]
      exact DataW.weights_mem_each (j := 1) (t := 22) rfl rfl _ hm
set_option maxRecDepth 100000 in
/-- A slice of pairs. -/
theorem open_pairs {v : Value} {d : DataW H} {p : List MemPlace} (hv : Value.okWide Tryd.prog W r b0 23 v) (h : DataW.Trod enc Tryd.prog W base sp held 23 v d p) (hall : ∀ n ∈ d.weights Tryd.prog 23, n ≤ reachBytes) :
    ∃ A c L, v = .slice A (List.length L) c ∧ PairsAt A L W ∧ List.length L ≤ maxLen ∧ ∀ q ∈ L, q.key.size ≤ 140737488355328 ∧ q.val.length ≤ 140737488355328 := by
  have e0 : Tryd.prog.cellsOf 30 = 2 := by kernel_rfl
  obtain ⟨a0, len, cap, rfl⟩ := okWide_slice Tryd.underlying23 hv
  obtain ⟨fuel, hf⟩ := h
  rcases open_slice Tryd.underlying23 hf with ⟨hcs, _⟩ | ⟨a, len', cap', m, n, D, Pl, hcs, _, hl, hm, hmm, hx, hel⟩
  · simp [Value.cells] at hcs
    obtain ⟨rfl, rfl, rfl⟩ := hcs
    exact ⟨none, 0, [], rfl, fun i h => absurd h (by simp), Nat.zero_le _, fun q hq => by simp at hq⟩
  · simp [Value.cells] at hcs
    obtain ⟨rfl, rfl, rfl⟩ := hcs
    rw [e0] at hel
    have hd : d = .slice ((List.range len).map D) ((List.range (m - len)).map fun j => D (len + j)) := by injection hx
    have hle : len ≤ m := by rw [hmm]; split <;> omega
    have hex : ∀ i, i < len → ∃ q : PairV, W.cell? (a.add (i * 2)) = some (.string q.key) ∧ W.cell? ⟨(a.add (i * 2)).block, (a.add (i * 2)).off + 1, none⟩ = some (.slice q.addr q.val.length q.cap) ∧ BytesAt q.addr q.val W ∧ q.key.size ≤ reachBytes ∧ q.val.length ≤ reachBytes := by
      intro i hi
      obtain ⟨cs', h1, h2⟩ := hel i (by omega)
      obtain ⟨q, rfl, hby, hw⟩ := pair_read h2
      have hw2 := hw (fun w hw' => hall w (by
        rw [hd]
        simp only [DataW.weights, Tryd.underlying23]
        refine List.mem_cons_of_mem _ (List.mem_append_left _ (weights_mem_all (d := D i) ?_ w hw'))
        exact List.mem_map.2 ⟨i, List.mem_range.2 hi, rfl⟩))
      obtain ⟨_, _, hcell⟩ := World.cells?_some h1
      refine ⟨q, ?_, ?_, hby, hw2.1, hw2.2⟩
      · exact hcell 0 (by omega)
      · exact hcell 1 (by omega)
    obtain ⟨f, hf2⟩ := choose_lt (α := PairV) hex
    have hlen : ((List.range len).map f).length = len := by simp
    refine ⟨some a, cap, (List.range len).map f, by rw [hlen], fun i hi => ?_, by rw [hlen]; exact Nat.le_trans hl hm, fun q hq => ?_⟩
    · rw [hlen] at hi
      obtain ⟨h1, h2, h3, _, _⟩ := hf2 i hi
      have e : ((List.range len).map f)[i]'(by rw [hlen]; exact hi) = f i := by simp
      rw [e]
      refine ⟨a, rfl, ?_, h1, h2, h3⟩
      have := lt_of_cell h1
      rw [add_block'] at this; exact this
    · obtain ⟨i, hi, rfl⟩ := List.mem_map.1 hq
      obtain ⟨_, _, _, h4, h5⟩ := hf2 i (List.mem_range.1 hi)
      exact ⟨Nat.le_trans h4 (by decide), Nat.le_trans h5 (by decide)⟩
end
end Go.Proofs.YtnjmhneobgmejaaDoor
