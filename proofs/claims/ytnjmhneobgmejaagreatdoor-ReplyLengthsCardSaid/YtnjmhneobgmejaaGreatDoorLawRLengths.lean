/- The walk of ReplyLengths. Conditions: the library's tables are as they are laid. -/
import Derived.Test.YtnjmhneobgmejaaGreatDoorLawRErrors
import Derived.Test.YtnjmhneobgmejaaGreatDoorRepR
import Derived.Test.YtnjmhneobgmejaaGreatDoorRefParse
import Derived.Deep.AppendLies
import Derived.Deep.RegionLaw
import Derived.Deep.RegionHeld3
namespace Go.Proofs.YtnjmhneobgmejaaGreatDoor
open Go.RowKit

/-- A slice of bytes as it lies in memory. -/
structure BytesV where
  addr : Option Addr
  cap : Nat
  val : List UInt8
/-- Slices of bytes in a row (a row of none may lie nowhere). -/
def RowsAt (A : Option Addr) (L : List BytesV) (w : World) : Prop :=
  ∀ (i : Nat) (h : i < L.length), ∃ a : Addr, A = some a ∧ a.block < w.heap.size ∧ w.cell? (a.add i) = some (.slice (L[i]).addr (L[i]).val.length (L[i]).cap) ∧ BytesAt (L[i]).addr (L[i]).val w ∧ (L[i]).val.length ≤ 9223372036854775807
def keyL (i : Nat) : List UInt8 := 107 :: Lib.decDigits i
def pvAt (i : Nat) (v : BytesV) : PairV := ⟨⟨(keyL i).toArray⟩, v.addr, v.cap, v.val⟩
def pvs (V : List BytesV) : List PairV := V.mapIdx pvAt
theorem pvs_snoc (V : List BytesV) (v : BytesV) : pvs (V ++ [v]) = pvs V ++ [pvAt V.length v] := by unfold pvs; rw [List.mapIdx_append]; simp
theorem pvs_len (V : List BytesV) : (pvs V).length = V.length := by unfold pvs; simp
def prCells (P : List PairV) : List Value := P.flatMap fun p => [.string p.key, .slice p.addr p.val.length p.cap]
theorem prCells_snoc (P : List PairV) (p : PairV) : prCells (P ++ [p]) = prCells P ++ [.string p.key, .slice p.addr p.val.length p.cap] := by unfold prCells; simp
theorem prCells_get : ∀ (P : List PairV) (i : Nat) (h : i < P.length), (prCells P)[i * 2]? = some (.string (P[i]).key) ∧ (prCells P)[i * 2 + 1]? = some (.slice (P[i]).addr (P[i]).val.length (P[i]).cap) := by
  intro P
  induction P with
  | nil => intro i h; exact absurd h (by simp)
  | cons x P ih =>
    intro i h
    cases i with
    | zero => exact ⟨rfl, rfl⟩
    | succ i =>
      have h2 := ih i (by simpa using h)
      have e : prCells (x :: P) = [.string x.key, .slice x.addr x.val.length x.cap] ++ prCells P := rfl
      rw [e]
      have e1 : (i + 1) * 2 = i * 2 + 2 := by omega
      rw [e1]
      refine ⟨?_, ?_⟩
      · show ([Value.string x.key, .slice x.addr x.val.length x.cap] ++ prCells P)[i * 2 + 2]? = _
        rw [List.getElem?_append_right (by simp)]; simpa using h2.1
      · show ([Value.string x.key, .slice x.addr x.val.length x.cap] ++ prCells P)[i * 2 + 2 + 1]? = _
        rw [List.getElem?_append_right (by simp)]; simpa using h2.2
theorem info_pair : (Tryz.prog.info? 47).map (fun i => (i.zero, i.size, i.bytes)) = some (some (.agg #[.string ⟨#[]⟩, .slice none 0 0]), 2, 40) := by kernel_rfl
/-- The row of pairs as the law lays it. -/
def PairRow (base : Nat) (v : Value) (V : List BytesV) (w : World) : Prop := w.ownsRow base 47 2 v V.length (prCells (pvs V))
theorem pairs_of_row {base : Nat} {A : Option Addr} {c : Nat} {V : List BytesV} {w : World} (h : PairRow base (.slice A V.length c) V w) (hb : ∀ v ∈ V, BytesAt v.addr v.val w) : PairsAt A (pvs V) w := by
  intro i hi
  have hi' : i < V.length := by rw [pvs_len] at hi; exact hi
  rcases h.2 with ⟨hv, hz⟩ | ⟨g, cap, cur, hv, _, hg, _⟩
  · omega
  · injection hv with hA _ _
    subst hA
    obtain ⟨h1, h2⟩ := prCells_get (pvs V) i hi
    have e0 : (pvs V)[i] = pvAt i V[i] := by simp [pvs]
    refine ⟨_, rfl, lt_of_block hg, ?_, ?_, ?_⟩
    · rw [Addr.add_lit, Nat.zero_add, h.cellAt (i * 2) (by omega)]; exact h1
    · have e : (⟨g, 0, none⟩ : Addr).add (i * 2) = ⟨g, i * 2, none⟩ := by rw [Addr.add_lit, Nat.zero_add]
      rw [e, h.cellAt (i * 2 + 1) (by omega)]; exact h2
    · rw [e0]; exact hb _ (List.getElem_mem hi')
theorem prow_shape {base : Nat} {v : Value} {V : List BytesV} {w : World} (h : PairRow base v V w) : ∃ A c, v = .slice A V.length c := by
  rcases h.2 with ⟨hv, hz⟩ | ⟨g, cap, cur, hv, _⟩
  · exact ⟨none, 0, by rw [hv, hz]⟩
  · exact ⟨_, _, hv⟩
def valuesT (V : List BytesV) : List UInt8 := (V.map fun v => RqF.valueT v.val).flatten
theorem valuesT_snoc (V : List BytesV) (v : BytesV) : valuesT (V ++ [v]) = valuesT V ++ RqF.valueT v.val := by unfold valuesT; simp
theorem valueT_len {l : List UInt8} (h : l.length ≤ 500) : (RqF.valueT l).length ≤ 600 := by
  have := itoa_len l.length (by omega)
  unfold RqF.valueT RqF.tellR
  rw [RqF.joinW_cons2, RqF.joinW_one]
  simp [RqF.sVALUE]; omega
theorem valuesT_len (V : List BytesV) (h : ∀ v ∈ V, v.val.length ≤ 500) : (valuesT V).length ≤ V.length * 600 := by
  induction V with
  | nil => simp [valuesT]
  | cons v V ih =>
    have h1 := valueT_len (h v List.mem_cons_self)
    have h2 := ih (fun x hx => h x (List.mem_cons_of_mem _ hx))
    unfold valuesT at h2 ⊢
    rw [List.map_cons, List.flatten_cons, List.length_append, List.length_cons]; omega
theorem value_as (A : Option Addr) (c : Nat) (l : List UInt8) (T : ByteArray) (w : World) (hT : T = valueS l) (ht : Tabs w) (hl : BytesAt A l w) (hs : l.length ≤ 1099511627776) :
    Calls Tryz.prog 15 #[.slice A l.length c] w fun r w' => r = .returned (.string T) ∧ Below w.heap.size w w' := by
  subst hT; exact value_tells A c l w ht hl hs
theorem digits_is (n : Nat) (D : ByteArray) (w : World) (hn : n ≤ 1099511627776) (hD : D = ⟨(Lib.decDigits n).toArray⟩) : Calls Tryz.prog 12 #[.int .u64 n] w fun r w' => r = .returned (.string D) ∧ w = w' := by
  subst hD; exact digits_any n w (Nat.lt_of_le_of_lt hn (by decide))
theorem two_new' (w : World) (x y : Value) (t : TypeId) : ∀ j u, [x, y][j]? = some u → (w.alloc (.cells #[x, y] t)).cell? ((⟨w.heap.size, 0, none⟩ : Addr).add j) = some u := by
  intro j u hj
  match j, hj with
  | 0, hj => simp at hj; subst hj; simp [Addr.add]
  | 1, hj => simp at hj; subst hj; simp [Addr.add]
theorem one_two (s : ByteArray) (A : Option Addr) (n c : Nat) : ∀ u ∈ ([.string s, .slice A n c] : List Value), u.oneCell' = true := by
  intro u hu; simp at hu; rcases hu with rfl | rfl <;> rfl
theorem len_cell {w w2 w3 : World} {v : Value} {n : Nat} {xs : List Value} {e : TypeId} {size : Nat} {o : Obj} {a : Addr} {k : Nat} (hb : Below w.heap.size w w2) (hr : w2.ownsRow w.heap.size e size v n xs) (g : (w2.drew.alloc o).grownBy w3 v.ownBlock) (ha : a.block < w.heap.size) : w3.cell? (a.add k) = w.cell? (a.add k) := by
  have h1 : Below w.heap.size w (w2.drew.alloc o) := hb.drew.alloc hb.size o
  exact (h1.grown g h1.size (fun j hj => (hr.lt j hj).1)).cell (p := a.add k) (by rw [add_block]; exact ha)
theorem pv_key (k : Nat) (v : BytesV) (D : ByteArray) (hD : D = ⟨(Lib.decDigits k).toArray⟩) : (pvAt k v).key = { data := #[107] } ++ D := by
  subst hD; exact ba_eq (by rw [ba_cat]; simp [pvAt, keyL])
/-- What stands at each round's head of the second loop. -/
def Ln2Inv (w4 : World) (V : List BytesV) (iv : Value) (wr : World) : Prop := ∃ k : Nat, iv = .int .i64 k ∧ k ≤ V.length ∧ Below w4.heap.size w4 wr
theorem pairs_as (A : Option Addr) (c : Nat) (l : List PairV) (n : Nat) (T : ByteArray) (w : World) (hn : n = l.length) (hT : T = ⟨(prsT n l).toArray⟩) (ht : Tabs w) (hm : PairsAt A l w) (hn2 : n ≤ 1099511627776) (hlen : (prsT n l).length ≤ 1099511627776) :
    Calls Tryz.prog 16 #[.slice A n c] w fun r w' => r = .returned (.string T) ∧ Below w.heap.size w w' := by
  subst hn; subst hT; exact pairs_tells A c l w ht hm hn2 hlen
theorem parse_n (s : ByteArray) (cs : List (List UInt8)) (n : Nat) (w : World) (ht : TabsM w) (hs : s.size < 4294967281) (h : s.data.toList = cs.flatten) (hall : ∀ c ∈ cs, RqF.Told c) (h0 : cs ≠ []) (hn : n = cs.length) :
    Calls Tryz.prog 8 #[.string s] w fun e w' => ∃ g cap, e = .returned (.tuple #[.slice (some ⟨g, 0, none⟩) n cap, .int .i64 0]) ∧ w.heap.size ≤ g ∧ g < w'.heap.size ∧ n ≤ cap ∧ (∀ (j : Nat) (h : j < cs.length), w'.cell? ⟨g, j, none⟩ = some (.string ⟨(cs[j]).toArray⟩)) ∧ Below w.heap.size w w' := by
  subst hn; exact parse_told s cs w ht hs h hall h0
def pairsOf (V : List BytesV) : List (List UInt8 × List UInt8) := (pvs V).map fun p => (p.key.data.toList, p.val)
def partsL (V : List BytesV) : List (List UInt8) := (V.map fun v => RqF.valueT v.val) ++ [RqF.pairsT (pairsOf V), RqF.noneT]
theorem partsL_none (V : List BytesV) (h : V.length + 1 < (partsL V).length) : (partsL V)[V.length + 1] = RqF.noneT := by
  simp [partsL]
theorem partsL_pairs (V : List BytesV) (h : V.length < (partsL V).length) : (partsL V)[V.length] = RqF.pairsT (pairsOf V) := by
  simp [partsL]
theorem partsL_value (V : List BytesV) (k : Nat) (hk : k < V.length) (h : k < (partsL V).length) : (partsL V)[k] = RqF.valueT (V[k]).val := by
  simp [partsL, hk]
theorem prsT_told (V : List BytesV) : prsT V.length (pvs V) = RqF.pairsT (pairsOf V) := by
  unfold prsT RqF.pairsT pairsOf
  rw [List.length_map, pvs_len, List.map_map]; rfl
theorem pvs_mem {V : List BytesV} {p : PairV} (h : p ∈ pvs V) : ∃ (i : Nat) (hi : i < V.length), p = pvAt i V[i] := by
  obtain ⟨i, hi, rfl⟩ := List.getElem_of_mem h
  have hi' : i < V.length := by rw [pvs_len] at hi; exact hi
  exact ⟨i, hi', by simp [pvs]⟩
theorem key_len (i : Nat) (h : i < 1000000000) : (keyL i).length ≤ 10 := by
  unfold keyL; have := RqF.dec_len9 h; simp; omega
theorem key_word (i : Nat) (h : i < 1000000000) : RqF.isWord (keyL i) = true := by
  unfold RqF.isWord
  have h1 := key_len i h
  rw [Bool.and_eq_true]
  refine ⟨?_, by rw [decide_eq_true_eq]; unfold keyL at h1 ⊢; simp at h1 ⊢; omega⟩
  unfold keyL
  rw [List.all_cons, RqF.dec_inW]; rfl
theorem partsL_told (V : List BytesV) (hn : V.length ≤ 8) (h : ∀ v ∈ V, v.val.length ≤ 500) : ∀ c ∈ partsL V, RqF.Told c := by
  intro c hc
  unfold partsL at hc
  rcases List.mem_append.1 hc with hc | hc
  · obtain ⟨v, hv, rfl⟩ := List.mem_map.1 hc
    exact RqF.told_value (by have := h v hv; omega)
  · simp only [List.mem_cons, List.mem_nil_iff, or_false] at hc
    rcases hc with rfl | rfl
    · refine RqF.told_pairs (by unfold pairsOf; rw [List.length_map, pvs_len]; omega) fun p hp => ?_
      obtain ⟨q, hq, rfl⟩ := List.mem_map.1 hp
      obtain ⟨i, hi, rfl⟩ := pvs_mem hq
      refine ⟨?_, ?_⟩
      · show RqF.isWord ((⟨(keyL i).toArray⟩ : ByteArray).data.toList) = true
        simpa using key_word i (by omega)
      · have := h _ (List.getElem_mem hi)
        show (V[i]).val.length < _; omega
    · exact RqF.told_none
theorem prsT_small (V : List BytesV) (hn : V.length ≤ 8) (h : ∀ v ∈ V, v.val.length ≤ 500) : (prsT V.length (pvs V)).length ≤ 8000 := by
  unfold prsT
  rw [List.length_append]
  have h1 : (RqF.tellR [RqF.sPAIRS, Lib.itoa (V.length : Int)]).length ≤ 100 := by
    have := itoa_len V.length (by omega)
    unfold RqF.tellR
    rw [RqF.joinW_cons2, RqF.joinW_one]
    simp [RqF.sPAIRS]; omega
  have h2 : ∀ P : List PairV, (∀ p ∈ P, (prT p).length ≤ 600) → (P.map prT).flatten.length ≤ P.length * 600 := by
    intro P
    induction P with
    | nil => intro _; simp
    | cons x P ih =>
      intro hp
      have h3 := hp x List.mem_cons_self
      have h4 := ih (fun y hy => hp y (List.mem_cons_of_mem _ hy))
      rw [List.map_cons, List.flatten_cons, List.length_append, List.length_cons]
      omega
  have h5 := h2 (pvs V) (fun p hp => by
    obtain ⟨i, hi, rfl⟩ := pvs_mem hp
    have h6 := h _ (List.getElem_mem hi)
    have h7 := itoa_len (V[i]).val.length (by omega)
    have h8 := key_len i (by omega)
    unfold prT RqF.tellR
    rw [RqF.joinW_cons2, RqF.joinW_one]
    simp [pvAt]; omega)
  rw [pvs_len] at h5
  omega
theorem below_dn {B : Nat} {w w' : World} (h : Below B w w') (n : Nat) : Below B w (w'.drewN n) := ⟨h.os, h.tape, h.output, h.size, h.block⟩
theorem ln_eq (l : List UInt8) (P D Y : ByteArray) (hP : P.data.toList = RqF.valueT l) (hD : D = ⟨(Lib.decDigits l.length).toArray⟩) (hY : Y = ⟨l.toArray⟩) : (P.toList == ({ data := #[86, 65, 76, 85, 69, 32] } ++ D ++ { data := #[10] } ++ Y ++ { data := #[10] } : ByteArray).toList) = true := by
  rw [beq_iff_eq, ByteArray.toList_eq, ByteArray.toList_eq, ba_cat, ba_cat, ba_cat, ba_cat, hP, hD, hY]
  unfold RqF.valueT RqF.tellR
  rw [RqF.joinW_cons2, RqF.joinW_one, RqF.itoa_nat]
  simp [RqF.sVALUE]
/-- What stands at each round's head of the first loop. -/
def LnInv (w : World) (V : List BytesV) (s p iv : Value) (wr : World) : Prop :=
  ∃ (k : Nat) (S : ByteArray), iv = .int .i64 k ∧ k ≤ V.length ∧ s = .string S ∧ S.data.toList = valuesT (V.take k) ∧ PairRow w.heap.size p (V.take k) wr ∧ (∀ v ∈ V.take k, v.val.length ≤ 500) ∧ Below w.heap.size w wr

set_option maxRecDepth 100000 in
set_option maxHeartbeats 2000000 in
theorem replyLengths_any (A : Option Addr) (c : Nat) (L : List BytesV) (w : World) (ht : TabsM w) (hL : RowsAt A L w) (hn : L.length ≤ 9223372036854775807) :
    Calls Tryz.prog 5 #[.slice A L.length c] w fun r w' => r = .returned (.bool true) ∧ Below w.heap.size w w' := by
  obtain ⟨V, hV⟩ : ∃ V, V = L.take 8 := ⟨_, rfl⟩
  have hm : V.length ≤ 8 ∧ V.length = min L.length 8 := by rw [hV, List.length_take]; omega
  obtain ⟨hm1, hm2⟩ := hm
  have HV : Hid (∀ (i : Nat) (h : i < V.length), ∃ a : Addr, A = some a ∧ a.block < w.heap.size ∧ w.cell? (a.add i) = some (.slice (V[i]).addr (V[i]).val.length (V[i]).cap) ∧ BytesAt (V[i]).addr (V[i]).val w ∧ (V[i]).val.length ≤ 9223372036854775807) := by
    intro i hi
    obtain ⟨a, h1, h2, h3, h4, h5⟩ := hL i (by omega)
    have e : V[i] = L[i]'(by omega) := by simp [hV]
    rw [e]; exact ⟨a, h1, h2, h3, h4, h5⟩
  have HT := Lib.hid ht
  have HM := Lib.hid hm2
  clear hV hL ht hm2
  obtain ⟨i0, hi, hz0, hz1, hz2⟩ := info_parts info_pair
  go_enter Tryz.func5, Tryz.ntmps5
  go_wp2_with fail
  have hmn : min (L.length : Int) 8 = (V.length : Int) := by have := HM.out; omega
  rw [hmn]
  clear hmn
  go_loopw [3, 4, 6] (fun s p iv wr => LnInv w V s p iv wr) (fun _ _ iv _ => V.length - (intOf iv).toNat)
  case atStart => exact ⟨0, ⟨#[]⟩, rfl, Nat.zero_le _, rfl, rfl, World.ownsRow_nil _ _ _ _, fun v hv => by simp at hv, Below.refl _ _⟩
  case round =>
    obtain ⟨k, S, rfl, hk, rfl, hS, hrow, hsm, hbr⟩ := hrel
    have hSs : S.size ≤ 4800 := by
      rw [Lib.size_eq, hS]
      have := valuesT_len (V.take k) hsm
      rw [List.length_take] at this; omega
    have HS := Lib.hid hS; have HR := Lib.hid hrow; have HB := Lib.hid hbr; have HSM := Lib.hid hsm
    clear hS hrow hbr hsm
    by_cases hlt : k < V.length
    · obtain ⟨a, rfl, ha, hc, hby, hvl⟩ := HV.out k hlt
      obtain ⟨⟨A1, c1, l1⟩, hv⟩ : ∃ v, v = V[k] := ⟨_, rfl⟩
      rw [← hv] at hc hby hvl
      simp only at hc hby hvl
      have hcr : wr.cell? (a.add k) = some (.slice A1 l1.length c1) := (HB.out.cell (by rw [add_block]; exact ha)).trans hc
      have hkL : k < L.length := by have := HM.out; omega
      have HVE := Lib.hid hv; have HBY := Lib.hid hby; have HCW : Hid (w.cell? (a.add k) = some (.slice A1 l1.length c1) ∧ a.block < w.heap.size) := ⟨hc, ha⟩
      clear hv hby hc ha
      by_cases h500 : 500 < l1.length
      · go_wp2_with fail
        refine (awake19_any _ (HT.out.below HB.out).toTabs).mono ?_
        rintro r w2 ⟨rfl, hb2⟩
        go_wp2_with fail
        go_ret
        exact ⟨rfl, below_trans HB.out hb2⟩
      · obtain ⟨T, hT⟩ : ∃ T, T = valueS l1 := ⟨_, rfl⟩
        have hTs : T.size ≤ 600 := by rw [Lib.size_eq, hT]; have := valueT_len (l := l1) (by omega); simpa [valueS] using this
        obtain ⟨D, hD⟩ : ∃ D : ByteArray, D = ⟨(Lib.decDigits k).toArray⟩ := ⟨_, rfl⟩
        have hDs : D.size ≤ 15 := by rw [hD, size_of]; exact RqF.dec_len (by omega)
        have HTT := Lib.hid hT; have HD := Lib.hid hD
        clear hT hD
        go_wp2_with fail
        refine (value_as A1 c1 l1 T _ HTT.out (HT.out.below HB.out).toTabs (HBY.out.below HB.out) (by omega)).mono ?_
        rintro r w2 ⟨rfl, hb2⟩
        have HR2 := Lib.hid (HR.out.kept (grown_of_below hb2 none) (by cases hv : Value.ownBlock _ <;> simp))
        have HB2 := Lib.hid (below_trans HB.out hb2)
        clear hb2
        have hkl : (V.take k).length = k := by rw [List.length_take]; omega
        have HKL := Lib.hid hkl; clear hkl
        have HN3 : Hid ((V.take k).length + 1 ≤ maxLen ∧ ((V.take k).length + 1) * 40 ≤ 140737488355328 ∧ w.heap.size ≤ (w2.drew.alloc (.cells #[.string ({ data := #[107] } ++ D), .slice A1 l1.length c1] 47)).heap.size) := by
          have := HKL.out
          refine ⟨by unfold maxLen; omega, by omega, ?_⟩
          have h2 := HB2.out.size
          show _ ≤ (w2.heap.push _).size
          simp; omega
        have hcr2 : w2.cell? (a.add k) = some (.slice A1 l1.length c1) := (HB2.out.cell (by rw [add_block]; exact HCW.out.2)).trans HCW.out.1
        go_wp2_with fail
        have hsd : ¬ 9223372036854775807 < 1 + D.size := by omega
        have hwk : IntKind.u64.wrap (k : Int) = (k : Int) := IntWalk.u64_in _ (by omega)
        have HNEW : Hid (∀ j u, ([.string ({ data := #[107] } ++ D), .slice A1 l1.length c1] : List Value)[j]? = some u → (w2.drew.alloc (.cells #[.string ({ data := #[107] } ++ D), .slice A1 l1.length c1] 47)).cell? ((⟨w2.heap.size, 0, none⟩ : Addr).add j) = some u) := two_new' w2.drew _ _ _
        have HOWN := Lib.hid (HR2.out.drew.alloc (.cells #[.string ({ data := #[107] } ++ D), .slice A1 l1.length c1] 47))
        go_region_law (first | (refine step_append_lies _ rfl _ _ 43 rfl w.heap.size 47 i0 (.agg #[.string ⟨#[]⟩, .slice none 0 0]) 2 40 Tryz.underlying43 hi hz0 hz1 hz2 rfl (by decide) _ _ _ rfl HOWN.out ⟨w2.heap.size, 0, none⟩ 1 1 [.string ({ data := #[107] } ++ D), .slice A1 l1.length c1] rfl rfl HNEW.out (one_two _ _ _ _) (by decide) HN3.out.1 HN3.out.2.1 HN3.out.2.2 _ rfl ?_; intro g cap w3 hown3 hgrow3 hat3 hlt3) | (go_simp; go_at_call 12; refine (digits_is k D _ (by omega) HD.out).mono ?_; rintro r w5 ⟨rfl, rfl⟩))
        all_goals
          have htk : V.take (k + 1) = V.take k ++ [⟨A1, c1, l1⟩] := by rw [List.take_succ_eq_append_getElem hlt, ← HVE.out]
          have hg3 : (w2.drew.alloc (.cells #[.string ({ data := #[107] } ++ D), .slice A1 l1.length c1] 47)).grownBy w3 (Value.ownBlock _) := hgrow3
          have h1 : Below w.heap.size w (w2.drew.alloc (.cells #[.string ({ data := #[107] } ++ D), .slice A1 l1.length c1] 47)) := HB2.out.drew.alloc HB2.out.size _
          have HB3 : Hid (Below w.heap.size w w3) := h1.grown hg3 h1.size (fun j hj => (HR2.out.lt j hj).1)
          have HROW3 : Hid (PairRow w.heap.size (.slice (some ⟨g, 0, none⟩) (k + 1) cap) (V.take (k + 1)) w3) := by
            show World.ownsRow _ _ _ _ _ _ _
            rw [htk, pvs_snoc, prCells_snoc, List.length_append, HKL.out, pv_key k _ D HD.out]
            first | exact hown3 | (have h2 := hown3; rw [HKL.out] at h2; exact h2)
          have HS3 : Hid ((S ++ T).data.toList = valuesT (V.take (k + 1))) := by
            show _ = _
            rw [htk, valuesT_snoc, ba_cat, HS.out, HTT.out]; simp [valueS]
          have HSM3 : Hid (∀ v ∈ V.take (k + 1), v.val.length ≤ 500) := by
            intro v hv
            rw [htk] at hv
            rcases List.mem_append.1 hv with hv | hv
            · exact HSM.out v hv
            · simp only [List.mem_cons, List.mem_nil_iff, or_false] at hv
              subst hv; show l1.length ≤ 500; omega
          clear hown3 hgrow3 hat3 hg3 h1 htk hcr2 hwk hsd hlt3
          go_wp2_with fail
          go_roundw
          case measure => simp [intOf]; omega
          case rel => exact ⟨k + 1, S ++ T, by go_num, by omega, rfl, HS3.out, HROW3.out, HSM3.out, HB3.out⟩
    · obtain rfl : k = V.length := by omega
      rw [List.take_length] at HS HR HSM
      obtain ⟨Az, cz, hz⟩ := prow_shape HR.out
      subst hz
      obtain ⟨T, hT⟩ : ∃ T : ByteArray, T = ⟨(prsT V.length (pvs V)).toArray⟩ := ⟨_, rfl⟩
      have hTd : T.data.toList = RqF.pairsT (pairsOf V) := by rw [hT]; exact prsT_told V
      have hTl : (prsT V.length (pvs V)).length ≤ 8000 := prsT_small V hm1 HSM.out
      have hTs : T.size ≤ 8000 := by rw [hT, size_of]; exact hTl
      have hcl : V.length + 2 = (partsL V).length := by simp [partsL]
      have hfl : (S ++ T ++ ⟨#[78, 79, 78, 69, 10]⟩ : ByteArray).data.toList = (partsL V).flatten := by
        rw [ba_cat, ba_cat, HS.out, hTd]; simp [partsL, valuesT]; rfl
      have hSTs : (S ++ T ++ ⟨#[78, 79, 78, 69, 10]⟩ : ByteArray).size < 4294967281 := by
        rw [Lib.size_eq, ba_cat, ba_cat, List.length_append, List.length_append, ← Lib.size_eq, ← Lib.size_eq]
        show S.size + T.size + 5 < _
        omega
      have hby : ∀ v ∈ V, BytesAt v.addr v.val w := by
        intro v hv
        obtain ⟨i, hi, rfl⟩ := List.getElem_of_mem hv
        obtain ⟨_, _, _, _, h, _⟩ := HV.out i hi
        exact h
      have hpa : PairsAt Az (pvs V) wr := pairs_of_row HR.out (fun v hv => (hby v hv).below HB.out)
      have HTT := Lib.hid hT; have HTD := Lib.hid hTd; have HTL := Lib.hid hTl; have HFL := Lib.hid hfl; have HCL := Lib.hid hcl; have HSTS := Lib.hid hSTs; have HBYS := Lib.hid hby; have HPA := Lib.hid hpa
      clear hT hTd hTl hfl hcl hSTs hby hpa
      go_wp2_with fail
      refine (pairs_as Az cz (pvs V) V.length T _ (pvs_len V).symm HTT.out (HT.out.below HB.out).toTabs HPA.out (by omega) (Nat.le_trans HTL.out (by decide))).mono ?_
      rintro r w2 ⟨rfl, hb2⟩
      have HPA2 := Lib.hid (HPA.out.below hb2); have HB2 := Lib.hid (below_trans HB.out hb2)
      clear hb2
      go_wp2_with fail
      refine (none_any _).mono ?_
      rintro r w3 ⟨rfl, hb3⟩
      have HPA3 := Lib.hid (HPA2.out.below hb3); have HB3 := Lib.hid (below_trans HB2.out hb3)
      clear hb3
      go_wp2_with fail
      refine (parse_n _ (partsL V) (V.length + 2) _ (HT.out.below HB3.out) HSTS.out HFL.out (partsL_told V hm1 HSM.out) (by simp [partsL]) HCL.out).mono ?_
      rintro r w4 ⟨g, cap, rfl, hg, hltg, hcap, hc, hb4⟩
      have HPA4 := Lib.hid (HPA3.out.below hb4); have HB4 := Lib.hid (below_trans HB3.out hb4)
      have cN : w4.cell? ⟨g, V.length + 1, none⟩ = some (.string ⟨#[78, 79, 78, 69, 10]⟩) := by
        rw [hc (V.length + 1) (by rw [← HCL.out]; omega), partsL_none V]; rfl
      have cT : w4.cell? ⟨g, V.length, none⟩ = some (.string T) := by
        rw [hc V.length (by rw [← HCL.out]; omega), partsL_pairs V]
        exact congrArg (fun s => some (Value.string s)) (ba_eq (by rw [HTD.out]))
      have HC := Lib.hid hc
      clear hb4 hc hg
      go_wp2_with fail
      go_loopw [9] (fun iv wr => Ln2Inv w4 V iv wr) (fun iv _ => V.length - (intOf iv).toNat)
      case atStart => exact ⟨0, rfl, Nat.zero_le _, Below.refl _ _⟩
      case round =>
        obtain ⟨k, rfl, hk, hbr⟩ := hrel
        have HBR := Lib.hid hbr
        clear hbr cN
        by_cases hlt2 : k < V.length
        · obtain ⟨a, rfl, ha, hcl2, hby, hvl⟩ := HV.out k hlt2
          have hsm := HSM.out _ (List.getElem_mem hlt2)
          have hck := HC.out k (by rw [← HCL.out]; omega)
          rw [partsL_value V k hlt2] at hck
          obtain ⟨⟨A1, c1, l1⟩, hv⟩ : ∃ v, v = V[k] := ⟨_, rfl⟩
          rw [← hv] at hcl2 hby hck hsm
          simp only at hcl2 hby hck hsm
          obtain ⟨P, hP⟩ : ∃ P : ByteArray, P = valueS l1 := ⟨_, rfl⟩
          have hPd : P.data.toList = RqF.valueT l1 := by rw [hP]; simp [valueS]
          have ck : wr.cell? ⟨g, k, none⟩ = some (.string P) := by
            rw [hP]; exact cell_later HBR.out hck
          have HB5 := Lib.hid (below_trans HB4.out HBR.out)
          have cl : wr.cell? (a.add k) = some (.slice A1 l1.length c1) := (HB5.out.cell (by rw [add_block]; exact ha)).trans hcl2
          obtain ⟨D, hD⟩ : ∃ D : ByteArray, D = ⟨(Lib.decDigits l1.length).toArray⟩ := ⟨_, rfl⟩
          have hDs : D.size ≤ 15 := by rw [hD, size_of]; exact RqF.dec_len (by omega)
          obtain ⟨Y, hY⟩ : ∃ Y : ByteArray, Y = ⟨l1.toArray⟩ := ⟨_, rfl⟩
          have hYs : Y.size ≤ 500 := by rw [hY, size_of]; exact hsm
          have hcv : ∀ n, (convert 44 9 (.slice A1 l1.length c1)).run Tryz.prog (wr.drewN n) = .ok (.string Y) (wr.drewN n) := fun n => bytes_back Y hY (show BytesAt A1 l1 (wr.drewN n) from hby.below (below_dn HB5.out n))
          have heq : (P.toList == ({ data := #[86, 65, 76, 85, 69, 32] } ++ D ++ { data := #[10] } ++ Y ++ { data := #[10] } : ByteArray).toList) = true := ln_eq l1 P D Y hPd hD hY
          have hne : (P.toList != ({ data := #[86, 65, 76, 85, 69, 32] } ++ D ++ { data := #[10] } ++ Y ++ { data := #[10] } : ByteArray).toList) = false := by rw [bne, heq]; rfl
          have hkL : k < L.length := by have := HM.out; omega
          have hs1 : ¬ 9223372036854775807 < 6 + D.size + 1 + Y.size := by omega
          have hs2 : ¬ 9223372036854775807 < 6 + D.size + 1 + Y.size + 1 := by omega
          have HD := Lib.hid hD
          clear hP hPd hck hD hY hv hcl2 hby ha hvl cT
          go_wp2_with fail
          refine (digits_is l1.length D _ (by omega) HD.out).mono ?_
          rintro r w5 ⟨rfl, rfl⟩
          have hi0 : (0 : Int) ≤ (k : Int) := by omega
          have hi1 : (k : Int) < ((V.length + 2 : Nat) : Int) := by omega
          have hi2 : (k : Int) < (V.length : Int) + 2 := by omega
          have hi3 : (k : Int) < (L.length : Int) := by omega
          go_wp2_with fail
          go_quiet (fail)
          go_wp2_with fail
          go_roundw
          case measure => simp [intOf]; omega
          case rel => exact ⟨k + 1, by go_num, by omega, below_dn HBR.out _⟩
        · obtain rfl : k = V.length := by omega
          have cT2 := cell_later HBR.out cT
          clear cT
          have HB5 := Lib.hid (below_trans HB4.out HBR.out)
          have HPA5 := Lib.hid (HPA4.out.below HBR.out)
          clear hlt hk
          go_wp2_with fail
          have hi0 : (0 : Int) ≤ (V.length : Int) := by omega
          have hi1 : (V.length : Int) < ((V.length + 2 : Nat) : Int) := by omega
          have hi2 : (V.length : Int) < (V.length : Int) + 2 := by omega
          have heq : (T.toList == T.toList) = true := beq_self_eq_true _
          go_region_held3 (fun w' => w'.cell? ⟨g, V.length, none⟩ = some (.string T))
            (first | exact cT2 | exact cell_later (Below.drew (Below.refl _ _)) cT2 | exact cell_later hb6 cT2 | exact cell_later hb7 (cell_later hb6 cT2))
            (first | (go_at_call 16; refine (pairs_as Az cz (pvs V) V.length T _ (pvs_len V).symm HTT.out ((HT.out.below HB5.out.drew).toTabs) (HPA5.out.below (Below.drew (Below.refl _ _))) (by omega) (Nat.le_trans HTL.out (by decide))).mono ?_; rintro r w6 ⟨rfl, hb6⟩) | (go_at_call 7; refine (awake19_any _ ((HT.out.below (below_trans HB5.out.drew hb6)).toTabs)).mono ?_; rintro r w7 ⟨rfl, hb7⟩))
          all_goals
            have HB7 := Lib.hid (below_trans (below_trans HB5.out.drew hb6) hb7)
            clear hi0 hi1 hi2 heq cT2 hb6 hb7
            go_wp2_with fail
            go_ret
            exact ⟨rfl, HB7.out⟩
end Go.Proofs.YtnjmhneobgmejaaGreatDoor
