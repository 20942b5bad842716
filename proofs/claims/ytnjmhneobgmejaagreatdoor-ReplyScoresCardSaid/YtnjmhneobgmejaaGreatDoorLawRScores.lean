/- The walk of ReplyScores. Conditions: the library's tables are as they are laid. -/
import Derived.Test.YtnjmhneobgmejaaGreatDoorLawRErrors
import Derived.Test.YtnjmhneobgmejaaGreatDoorRepS
import Derived.Test.YtnjmhneobgmejaaGreatDoorRefParse
namespace Go.Proofs.YtnjmhneobgmejaaGreatDoor
open Go.RowKit

/-- Words of 64 bits in a row (a row of none may lie nowhere). -/
def U64sAt (A : Option Addr) (U : List Nat) (w : World) : Prop :=
  ∀ (i : Nat) (h : i < U.length), ∃ a : Addr, A = some a ∧ a.block < w.heap.size ∧ w.cell? (a.add i) = some (.int .u64 ((U[i] : Nat) : Int)) ∧ U[i] < 2 * RqF.sgn
theorem U64sAt.below {A : Option Addr} {U : List Nat} {w w' : World} (h : U64sAt A U w) (hb : Below w.heap.size w w') : U64sAt A U w' := by
  intro i hi
  obtain ⟨a, h1, h2, h3, h4⟩ := h i hi
  exact ⟨a, h1, Nat.lt_of_lt_of_le h2 hb.size, (hb.cell (by rw [add_block]; exact h2)).trans h3, h4⟩
def memV (x : Nat) : ByteArray × Nat := (⟨#[109]⟩, x)
def memCells (X : List Nat) : List Value := X.flatMap fun x => [.string ⟨#[109]⟩, .float .f64 x]
theorem memCells_len (X : List Nat) : (memCells X).length = X.length * 2 := by
  unfold memCells; induction X with
  | nil => rfl
  | cons x X ih => rw [List.flatMap_cons, List.length_append, ih, List.length_cons, List.length_cons, List.length_cons, List.length_nil]; omega
theorem memCells_snoc (X : List Nat) (x : Nat) : memCells (X ++ [x]) = memCells X ++ [.string ⟨#[109]⟩, .float .f64 x] := by unfold memCells; simp
theorem memCells_get : ∀ (X : List Nat) (i : Nat) (h : i < X.length), (memCells X)[i * 2]? = some (.string ⟨#[109]⟩) ∧ (memCells X)[i * 2 + 1]? = some (.float .f64 X[i]) := by
  intro X
  induction X with
  | nil => intro i h; exact absurd h (by simp)
  | cons x X ih =>
    intro i h
    cases i with
    | zero => exact ⟨rfl, rfl⟩
    | succ i =>
      have h2 := ih i (by simpa using h)
      have e : memCells (x :: X) = [.string ⟨#[109]⟩, .float .f64 x] ++ memCells X := rfl
      rw [e]
      have e1 : (i + 1) * 2 = i * 2 + 2 := by omega
      rw [e1]
      refine ⟨?_, ?_⟩
      · show ([Value.string ⟨#[109]⟩, .float .f64 x] ++ memCells X)[i * 2 + 2]? = _
        rw [List.getElem?_append_right (by simp)]; simpa using h2.1
      · show ([Value.string ⟨#[109]⟩, .float .f64 x] ++ memCells X)[i * 2 + 2 + 1]? = _
        rw [List.getElem?_append_right (by simp)]; simpa using h2.2
theorem info_mem : (Tryz.prog.info? 35).map (fun i => (i.zero, i.size, i.bytes)) = some (some (.agg #[.string ⟨#[]⟩, .float .f64 0]), 2, 24) := by kernel_rfl
theorem two_new (w : World) (x y : Value) (t : TypeId) : ∀ j u, [x, y][j]? = some u → (w.alloc (.cells #[x, y] t)).cell? ((⟨w.heap.size, 0, none⟩ : Addr).add j) = some u := by
  intro j u hj
  match j, hj with
  | 0, hj => simp at hj; subst hj; simp [Addr.add]
  | 1, hj => simp at hj; subst hj; simp [Addr.add]
/-- The row of members as the law lays it. -/
def MemRow (base : Nat) (v : Value) (X : List Nat) (w : World) : Prop := w.ownsRow base 35 2 v X.length (memCells X)
theorem members_of_row {base : Nat} {A : Option Addr} {c : Nat} {X : List Nat} {w : World} (h : MemRow base (.slice A X.length c) X w) : MembersAt A (X.map memV) w := by
  intro i hi
  rw [List.length_map] at hi
  rcases h.2 with ⟨hv, hz⟩ | ⟨g, cap, cur, hv, _, hg, _⟩
  · omega
  · injection hv with hA _ _
    subst hA
    obtain ⟨h1, h2⟩ := memCells_get X i hi
    refine ⟨_, rfl, lt_of_block hg, ?_, ?_⟩
    · rw [Addr.add_lit, Nat.zero_add]
      have := h.cellAt (i * 2) (by omega)
      rw [this, h1]; simp [memV]
    · have e : (⟨g, 0, none⟩ : Addr).add (i * 2) = ⟨g, i * 2, none⟩ := by rw [Addr.add_lit, Nat.zero_add]
      rw [e]
      have := h.cellAt (i * 2 + 1) (by omega)
      rw [this, h2]; simp [memV]
theorem row_shape {base : Nat} {v : Value} {X : List Nat} {w : World} (h : MemRow base v X w) : ∃ A c, v = .slice A X.length c := by
  rcases h.2 with ⟨hv, hz⟩ | ⟨g, cap, cur, hv, _⟩
  · exact ⟨none, 0, by rw [hv, hz]⟩
  · exact ⟨_, _, hv⟩
def scoresT (X : List Nat) : List UInt8 := (X.map RqF.scoreT).flatten
theorem scoresT_len (X : List Nat) : (scoresT X).length ≤ X.length * 40 := by
  unfold scoresT; induction X with
  | nil => simp
  | cons x X ih =>
    have := scoreT_len x
    rw [List.map_cons, List.flatten_cons, List.length_append, List.length_cons]; omega
theorem scoresT_snoc (X : List Nat) (x : Nat) : scoresT (X ++ [x]) = scoresT X ++ RqF.scoreT x := by unfold scoresT; simp
theorem score_as (x : Nat) (T : ByteArray) (w : World) (hT : T = scoreS x) (ht : Tabs w) (hx : x < 2 * RqF.sgn) : Calls Tryz.prog 10 #[.float .f64 x] w fun r w' => r = .returned (.string T) ∧ Below w.heap.size w w' := by
  subst hT; exact score_tells x w ht hx
theorem scored_as (A : Option Addr) (c : Nat) (l : List (ByteArray × Nat)) (n : Nat) (T : ByteArray) (w : World) (hn : n = l.length) (hT : T = ⟨(memsT n l).toArray⟩) (ht : Tabs w) (hm : MembersAt A l w) (hx : ∀ p ∈ l, p.2 < 2 * RqF.sgn) (hn2 : n ≤ 1099511627776) (hlen : (memsT n l).length ≤ 1099511627776) :
    Calls Tryz.prog 11 #[.slice A n c] w fun r w' => r = .returned (.string T) ∧ Below w.heap.size w w' := by
  subst hn; subst hT; exact scored_tells A c l w ht hm hx hn2 hlen
theorem parse_as (s : ByteArray) (cs : List (List UInt8)) (n : Nat) (w : World) (ht : TabsM w) (hs : s.size < 4294967281) (h : s.data.toList = cs.flatten) (hall : ∀ c ∈ cs, RqF.Told c) (h0 : cs ≠ []) (hn : n = cs.length) :
    Calls Tryz.prog 8 #[.string s] w fun e w' => ∃ g cap, e = .returned (.tuple #[.slice (some ⟨g, 0, none⟩) n cap, .int .i64 0]) ∧ w.heap.size ≤ g ∧ g < w'.heap.size ∧ n ≤ cap ∧ (∀ (j : Nat) (h : j < cs.length), w'.cell? ⟨g, j, none⟩ = some (.string ⟨(cs[j]).toArray⟩)) ∧ Below w.heap.size w w' := by
  subst hn; exact parse_told s cs w ht hs h hall h0
theorem memsT_told (X : List Nat) : memsT X.length (X.map memV) = RqF.scoredT (X.map fun x => ([109], x)) := by
  unfold memsT RqF.scoredT
  rw [List.length_map, List.map_map, List.map_map]; rfl
theorem memsT_small (X : List Nat) (h : X.length ≤ 10) : (memsT X.length (X.map memV)).length ≤ 1000 := by
  unfold memsT
  rw [List.length_append]
  have h1 : (RqF.tellR [RqF.sSCORED, Lib.itoa (X.length : Int)]).length ≤ 100 := by
    have := itoa_len X.length (by omega)
    unfold RqF.tellR
    rw [RqF.joinW_cons2, RqF.joinW_one]
    simp [RqF.sSCORED]; omega
  have h2 : ∀ Y : List Nat, ((Y.map memV).map memT).flatten.length ≤ Y.length * 40 := by
    intro Y
    induction Y with
    | nil => simp
    | cons x Y ih =>
      have h3 : (memT (memV x)).length ≤ 40 := by
        have := RqF.text_len30 x
        unfold memT memV RqF.tellR
        rw [RqF.joinW_cons2, RqF.joinW_one]
        simp; omega
      rw [List.map_cons, List.map_cons, List.flatten_cons, List.length_append, List.length_cons]
      omega
  have := h2 X
  omega
theorem told_all (X : List Nat) (hx : ∀ x ∈ X, x < 2 * RqF.sgn) (hn : X.length < 1000000000) : ∀ c ∈ X.map RqF.scoreT ++ [RqF.scoredT (X.map fun x => ([109], x))], RqF.Told c := by
  intro c hc
  rcases List.mem_append.1 hc with hc | hc
  · obtain ⟨x, hxm, rfl⟩ := List.mem_map.1 hc
    exact RqF.told_score (hx x hxm)
  · simp only [List.mem_cons, List.mem_nil_iff, or_false] at hc
    subst hc
    refine RqF.told_scored (by rw [List.length_map]; exact hn) fun p hp => ?_
    obtain ⟨x, hxm, rfl⟩ := List.mem_map.1 hp
    exact ⟨by show RqF.isWord [109] = true; decide, hx x hxm⟩
theorem digits_as (n : Nat) (D : ByteArray) (w : World) (hn : n ≤ 1099511627776) (hD : D = ⟨(Lib.decDigits n).toArray⟩) : Calls Tryz.prog 12 #[.int .u64 n] w fun r w' => r = .returned (.string D) ∧ w = w' := by
  subst hD; exact digits_any n w (Nat.lt_of_le_of_lt hn (by decide))
/-- What stands at each round's head of the second loop. -/
def Sc2Inv (w3 : World) (X : List Nat) (av iv : Value) (wr : World) : Prop :=
  ∃ k : Nat, iv = .int .i64 k ∧ k ≤ X.length ∧ av = .int .i64 (((memsT X.length ((X.take k).map memV)).length : Nat) : Int) ∧ Below w3.heap.size w3 wr
theorem sc2_start (X : List Nat) (D : ByteArray) (hD : D = ⟨(Lib.decDigits X.length).toArray⟩) : ((memsT X.length ((X.take 0).map memV)).length : Nat) = 7 + D.size + 1 := by
  have e : D.size = (Lib.itoa (X.length : Int)).length := by rw [hD, size_of, RqF.itoa_nat]
  rw [e]
  unfold memsT RqF.tellR
  rw [RqF.joinW_cons2, RqF.joinW_one]
  simp [RqF.sSCORED]; omega
theorem row_cell {base : Nat} {A : Option Addr} {c : Nat} {X : List Nat} {w : World} (h : MemRow base (.slice A X.length c) X w) (k : Nat) (hk : k < X.length) : ∃ g, A = some ⟨g, 0, none⟩ ∧ g < w.heap.size ∧ w.cell? ⟨g, k * 2 + 1, none⟩ = some (.float .f64 X[k]) := by
  rcases h.2 with ⟨hv, hz⟩ | ⟨g, cap, cur, hv, _, hg, _⟩
  · omega
  · injection hv with hA _ _
    subst hA
    exact ⟨g, rfl, lt_of_block hg, by rw [h.cellAt (k * 2 + 1) (by omega)]; exact (memCells_get X k hk).2⟩
theorem scoreT_form (x : Nat) : RqF.scoreT x = [83, 67, 79, 82, 69, 32] ++ (RqF.textF x ++ [10]) := by
  unfold RqF.scoreT RqF.tellR; rw [RqF.joinW_cons2, RqF.joinW_one]; simp [RqF.sSCORE]
theorem text_pos (x : Nat) : 1 ≤ (RqF.textF x).length := by
  unfold RqF.textF
  split
  · simp
  split
  · simp
  split
  · simp
  split
  · rename_i v hv
    have := List.length_pos_iff.2 (RqF.dec_head v).1
    split
    · simp
    · omega
  · simp
theorem score_facts (x : Nat) (P : ByteArray) (hP : P = scoreS x) : 8 ≤ P.size ∧ P.size ≤ 40 ∧ ((P.extract 0 6).toList == [83, 67, 79, 82, 69, 32]) = true ∧ (P.extract 6 (P.size - 1)).data.toList = RqF.textF x := by
  have hd : P.data.toList = RqF.scoreT x := by rw [hP]; simp [scoreS]
  have hl : P.size = 7 + (RqF.textF x).length := by rw [Lib.size_eq, hd, scoreT_form]; simp; omega
  have h1 := text_pos x
  have h2 := scoreT_len x
  refine ⟨by omega, by rw [Lib.size_eq, hd]; exact h2, ?_, ?_⟩
  · rw [beq_iff_eq, ByteArray.toList_eq, Lib.extract_data, hd, scoreT_form]; rfl
  · rw [Lib.extract_data, hd, scoreT_form, hl]
    have e : 7 + (RqF.textF x).length - 1 - 6 = (RqF.textF x).length := by omega
    rw [e]; simp [List.drop_append]
theorem below_drewN' {B : Nat} {w w' : World} (h : Below B w w') (n : Nat) : Below B w (w'.drewN n) := ⟨h.os, h.tape, h.output, h.size, h.block⟩
theorem memsT_add (n : Nat) (l : List (ByteArray × Nat)) (p : ByteArray × Nat) : memsT n (l ++ [p]) = memsT n l ++ memT p := by
  unfold memsT; rw [List.map_append, List.flatten_append, ← List.append_assoc]; simp
theorem code_back (x : Nat) : RqF.code (if RqF.nan x then 9221120237041090561 else x) = RqF.code x := by
  by_cases h : RqF.nan x = true
  · rw [if_pos h]; unfold RqF.code; rw [if_pos h]; rfl
  · rw [if_neg h]
theorem cmpI_self (c : Nat) : (cmpI c c == 0) = true := by unfold cmpI; simp
theorem cmp_back (x : Nat) : (cmpF (if RqF.nan x then 9221120237041090561 else x) x == 0) = true := by unfold cmpF; rw [code_back]; exact cmpI_self _
theorem cmp_back2 (x : Nat) : (cmpF x (if RqF.nan x then 9221120237041090561 else x) == 0) = true := by unfold cmpF; rw [code_back]; exact cmpI_self _
theorem r3same_any (a b : Nat) (w : World) (ha : a < 2 * RqF.sgn) (hb : b < 2 * RqF.sgn) :
    Calls Tryz.prog 14 #[.float .f64 a, .float .f64 b] w fun e w' => e = .returned (.bool (cmpF a b == 0)) ∧ w = w' := by
  have HA := Lib.hid ha; clear ha
  have HB := Lib.hid hb; clear hb
  go_enter Tryz.func14, Tryz.ntmps14
  go_wp2_with (first | (go_at_call 33; refine (r3cmp_any _ _ _ HA.out HB.out).mono ?_; rintro e w' ⟨rfl, rfl⟩) | go_in)
  go_ret
  exact ⟨rfl, rfl⟩
theorem parse_back (Y : ByteArray) (x : Nat) (w : World) (hs : Y.size ≤ 9223372036854775807) (hx : x < 2 * RqF.sgn) (hY : Y.data.toList = RqF.textF x) :
    Calls Tryz.prog 13 #[.string Y] w fun e w' => e = .returned (.tuple #[.float .f64 (if RqF.nan x then 9221120237041090561 else x), .bool true]) ∧ w = w' := by
  refine (refparse_any Y w hs).mono fun e w' ⟨he, hw⟩ => ⟨?_, hw⟩
  unfold RefRet at he
  rw [he, hY, RqF.refP_eq, RqF.parseP_textF hx]; rfl
theorem sc2_ext (X : List Nat) (k : Nat) (hk : k < X.length) (h : Nat) (hh : h = (memsT X.length ((X.take k).map memV)).length) (T : ByteArray) (hT : T = ⟨(memsT X.length (X.map memV)).toArray⟩) (Y : ByteArray) (x : Nat) (hY : Y.data.toList = RqF.textF x) (hx : x = X[k]) :
    ((T.extract h (h + (2 + Y.size + 1))).toList == (({ data := #[109, 32] } ++ Y ++ { data := #[10] } : ByteArray)).toList) = true := by
  rw [beq_iff_eq, ByteArray.toList_eq, ByteArray.toList_eq, Lib.extract_data, ba_cat, ba_cat, hY]
  have e1 : X.map memV = (X.take k).map memV ++ (memV x :: (X.drop (k + 1)).map memV) := by
    rw [hx, ← List.map_cons (f := memV), ← List.map_append, ← List.drop_eq_getElem_cons hk, List.take_append_drop]
  have e2 : memsT X.length (X.map memV) = memsT X.length ((X.take k).map memV) ++ (memT (memV x) ++ (((X.drop (k + 1)).map memV).map memT).flatten) := by
    rw [e1]
    unfold memsT
    rw [List.map_append, List.flatten_append, List.map_cons, List.flatten_cons, List.append_assoc]
  have e3 : T.data.toList = memsT X.length (X.map memV) := by rw [hT]
  rw [e3, e2, hh, List.drop_left]
  have e4 : memT (memV x) = [109, 32] ++ (RqF.textF x ++ [10]) := by
    unfold memT memV RqF.tellR; rw [RqF.joinW_cons2, RqF.joinW_one]; simp
  have e5 : (memsT X.length ((X.take k).map memV)).length + (2 + Y.size + 1) - (memsT X.length ((X.take k).map memV)).length = (memT (memV x)).length := by
    rw [Nat.add_sub_cancel_left, e4, Lib.size_eq, hY]; simp; omega
  rw [e5, List.take_left, e4]; simp
/-- What stands at each round's head of the first loop. -/
def ScInv (w : World) (X : List Nat) (z s iv : Value) (wr : World) : Prop :=
  ∃ (k : Nat) (S : ByteArray), iv = .int .i64 k ∧ k ≤ X.length ∧ s = .string S ∧ S.data.toList = scoresT (X.take k) ∧ MemRow w.heap.size z (X.take k) wr ∧ Below w.heap.size w wr

set_option maxRecDepth 100000 in
set_option maxHeartbeats 8000000 in
theorem replyScores_any (A : Option Addr) (c : Nat) (U : List Nat) (w : World) (ht : TabsM w) (hU : U64sAt A U w) (hn : U.length ≤ 9223372036854775807) :
    Calls Tryz.prog 4 #[.slice A U.length c] w fun r w' => r = .returned (.bool true) ∧ Below w.heap.size w w' := by
  obtain ⟨X, hX⟩ : ∃ X, X = U.take 10 := ⟨_, rfl⟩
  have hm : X.length ≤ 10 ∧ X.length ≤ U.length ∧ (X.length = 10 ∨ X.length = U.length) := by rw [hX, List.length_take]; omega
  obtain ⟨hm1, hm2, hm3⟩ := hm
  have hXU : Hid (∀ (i : Nat) (h : i < X.length), ∃ a : Addr, A = some a ∧ a.block < w.heap.size ∧ w.cell? (a.add i) = some (.int .u64 ((X[i] : Nat) : Int)) ∧ X[i] < 2 * RqF.sgn) := by
    intro i hi
    obtain ⟨a, h1, h2, h3, h4⟩ := hU i (by omega)
    have e : X[i] = U[i]'(by omega) := by simp [hX]
    rw [e]; exact ⟨a, h1, h2, h3, h4⟩
  have HT := Lib.hid ht
  clear hX hU ht
  obtain ⟨i0, hi, hz0, hz1, hz2⟩ := info_parts info_mem
  go_enter Tryz.func4, Tryz.ntmps4
  go_wp2_with fail
  go_loopw [3, 4, 5] (fun z s iv wr => ScInv w X z s iv wr) (fun _ _ iv _ => X.length - (intOf iv).toNat)
  case atStart => exact ⟨0, ⟨#[]⟩, rfl, Nat.zero_le _, rfl, rfl, World.ownsRow_nil _ _ _ _, Below.refl _ _⟩
  case round =>
    obtain ⟨k, S, rfl, hk, rfl, hS, hrow, hbr⟩ := hrel
    have hSs : S.size ≤ 400 := by
      rw [Lib.size_eq, hS]
      have := scoresT_len (X.take k)
      rw [List.length_take] at this; omega
    have HS := Lib.hid hS; have HR := Lib.hid hrow; have HB := Lib.hid hbr
    clear hS hrow hbr
    by_cases hlt : k < X.length
    · obtain ⟨a, rfl, ha, hc, hx⟩ := hXU.out k hlt
      obtain ⟨x, hxe⟩ : ∃ x, x = X[k] := ⟨_, rfl⟩
      rw [← hxe] at hc hx
      have hcr : wr.cell? (a.add k) = some (.int .u64 ((x : Nat) : Int)) := (HB.out.cell (by rw [add_block]; exact ha)).trans hc
      have hTs : (scoreS x).size ≤ 40 := by rw [Lib.size_eq]; have := scoreT_len x; simp [scoreS]; omega
      obtain ⟨T, hT⟩ : ∃ T, T = scoreS x := ⟨_, rfl⟩
      rw [← hT] at hTs
      have HXE := Lib.hid hxe; have HX := Lib.hid hx; have HTT := Lib.hid hT
      have hkU : k < U.length := by omega
      have hk10 : k < 10 := by omega
      clear hxe hx hT hc ha
      go_wp2_with fail
      refine (score_as x T _ HTT.out (HT.out.below HB.out).toTabs HX.out).mono ?_
      rintro r w2 ⟨rfl, hb2⟩
      have HR2 := Lib.hid (HR.out.kept (grown_of_below hb2 none) (by cases hv : Value.ownBlock _ <;> simp))
      have HB2 := Lib.hid (below_trans HB.out hb2)
      clear hb2
      have hkl : (X.take k).length = k := by rw [List.length_take]; omega
      have HKL := Lib.hid hkl; clear hkl
      go_wp2_with (at_builtin; refine wpList_append_own_at _ rfl _ _ 29 rfl w.heap.size 35 i0 (.agg #[.string ⟨#[]⟩, .float .f64 0]) 2 24 Tryz.underlying29 hi hz0 hz1 hz2 rfl (by decide) _ _ _ rfl (HR2.out.alloc _) ⟨w2.heap.size, 0, none⟩ 1 1 [.string ⟨#[109]⟩, .float .f64 x] rfl rfl (two_new _ _ _ _) ?c2 ?c3 ?c4 ?c5 ?_)
      case c2 => intro u hu; simp at hu; rcases hu with rfl | rfl <;> rfl
      case c3 => have := HKL.out; unfold maxLen; omega
      case c4 => have := HKL.out; omega
      case c5 => have := HB2.out.size; simp; omega
      intro v' w3 hown3 hgrow3 _ _
      have htk : X.take (k + 1) = X.take k ++ [x] := by rw [List.take_succ_eq_append_getElem hlt, HXE.out]
      have HROW3 : Hid (MemRow w.heap.size v' (X.take (k + 1)) w3) := by
        show World.ownsRow _ _ _ _ _ _ _
        rw [htk, memCells_snoc, List.length_append, HKL.out]
        exact hown3
      have HB3 : Hid (Below w.heap.size w w3) := by
        have h1 : Below w.heap.size w (w2.alloc (.cells #[.string ⟨#[109]⟩, .float .f64 x] 35)) := HB2.out.alloc HB2.out.size _
        exact h1.grown hgrow3 h1.size (fun j hj => (HR2.out.lt j hj).1)
      have HS3 : Hid ((S ++ T).data.toList = scoresT (X.take (k + 1))) := by
        show _ = _
        rw [htk, scoresT_snoc, ba_cat, HS.out, HTT.out]; simp [scoreS]
      clear hown3 hgrow3 htk
      go_wp2_with fail
      go_roundw
      case measure => simp [intOf]; omega
      case rel => exact ⟨k + 1, S ++ T, by go_num, by omega, rfl, HS3.out, HROW3.out, HB3.out⟩
    · obtain rfl : k = X.length := by omega
      rw [List.take_length] at HS HR
      obtain ⟨Az, cz, hz⟩ := row_shape HR.out
      subst hz
      obtain ⟨T, hT⟩ : ∃ T : ByteArray, T = ⟨(memsT X.length (X.map memV)).toArray⟩ := ⟨_, rfl⟩
      have hTd : T.data.toList = RqF.scoredT (X.map fun x => ([109], x)) := by rw [hT]; simp only []; exact memsT_told X
      have hTl : (memsT X.length (X.map memV)).length ≤ 1000 := memsT_small X hm1
      have hTs : T.size ≤ 1000 := by rw [hT, size_of]; exact hTl
      have hall : ∀ c ∈ X.map RqF.scoreT ++ [RqF.scoredT (X.map fun x => ([109], x))], RqF.Told c := told_all X (fun x hx => by obtain ⟨i, hi, rfl⟩ := List.getElem_of_mem hx; obtain ⟨_, _, _, _, h⟩ := hXU.out i hi; exact h) (by omega)
      have hfl : (S ++ T).data.toList = (X.map RqF.scoreT ++ [RqF.scoredT (X.map fun x => ([109], x))]).flatten := by
        rw [ba_cat, HS.out, hTd, List.flatten_append]; simp [scoresT]
      have hcl : X.length + 1 = (X.map RqF.scoreT ++ [RqF.scoredT (X.map fun x => ([109], x))]).length := by simp
      have HTT := Lib.hid hT; have HTD := Lib.hid hTd; have HTL := Lib.hid hTl; have HALL := Lib.hid hall; have HFL := Lib.hid hfl; have HCL := Lib.hid hcl
      clear hT hTd hTl hall hfl hcl
      have hSTs : (S ++ T).size < 4294967281 := by rw [ByteArray.size_append]; omega
      have hSTs2 := Lib.hid hSTs; clear hSTs
      have hcase : (X.length < U.length ∧ ¬ X.length < 10) ∨ (¬ X.length < U.length ∧ True) := by
        by_cases h : X.length < U.length
        · exact .inl ⟨h, by omega⟩
        · exact .inr ⟨h, trivial⟩
      rcases hcase with ⟨hU10, h10⟩ | ⟨hU10, h10⟩
      all_goals
        go_wp2_with fail
        refine (scored_as Az cz (X.map memV) X.length T _ (by simp) HTT.out (HT.out.below HB.out).toTabs (members_of_row HR.out) (fun p hp => ?_) (by omega) (Nat.le_trans HTL.out (by decide))).mono ?_
        · obtain ⟨x, hx, rfl⟩ := List.mem_map.1 hp
          obtain ⟨i, hi, rfl⟩ := List.getElem_of_mem hx
          obtain ⟨_, _, _, _, h⟩ := hXU.out i hi
          exact h
        rintro r w2 ⟨rfl, hb2⟩
        have HR2 : Hid (MemRow w.heap.size (.slice Az X.length cz) X w2) := HR.out.kept (grown_of_below hb2 none) (by cases hv : Value.ownBlock _ <;> simp)
        have HB2 := Lib.hid (below_trans HB.out hb2)
        clear hb2
        go_wp2_with fail
        refine (parse_as _ _ (X.length + 1) _ (HT.out.below HB2.out) hSTs2.out HFL.out HALL.out (by simp) HCL.out).mono ?_
        rintro r w3 ⟨g, cap, rfl, hg, hlt, hcap, hc, hb3⟩
        have HR3 : Hid (MemRow w.heap.size (.slice Az X.length cz) X w3) := HR2.out.kept (grown_of_below hb3 none) (by cases hv : Value.ownBlock _ <;> simp)
        have HB3 := Lib.hid (below_trans HB2.out hb3)
        have cT : w3.cell? ⟨g, X.length, none⟩ = some (.string T) := by
          have := hc X.length (by rw [← HCL.out]; omega)
          rw [this, HTT.out]; simp [← memsT_told]
        have HC := Lib.hid hc
        clear hb3 hc hg
        obtain ⟨D, hD⟩ : ∃ D : ByteArray, D = ⟨(Lib.decDigits X.length).toArray⟩ := ⟨_, rfl⟩
        have hDs : D.size ≤ 15 := by rw [hD, size_of]; exact RqF.dec_len (by omega)
        have HD := Lib.hid hD; clear hD
        go_wp2_with fail
        refine (digits_as X.length D _ (by omega) HD.out).mono ?_
        rintro r w4 ⟨rfl, rfl⟩
        go_wp2_with fail
        go_loopw [11, 12] (fun av iv wr => Sc2Inv w3 X av iv wr) (fun _ iv _ => X.length - (intOf iv).toNat)
        case atStart => exact ⟨0, rfl, Nat.zero_le _, by rw [sc2_start X D HD.out]; go_num, Below.refl _ _⟩
        case round =>
          obtain ⟨k, rfl, hk, rfl, hbr⟩ := hrel
          obtain ⟨h, hh⟩ : ∃ h, h = (memsT X.length ((X.take k).map memV)).length := ⟨_, rfl⟩
          rw [← hh]
          have HH := Lib.hid hh; have HBR := Lib.hid hbr
          clear hh hbr
          by_cases hlt2 : k < X.length
          · have hx : X[k] < 2 * RqF.sgn := by obtain ⟨_, _, _, _, h⟩ := hXU.out k hlt2; exact h
            obtain ⟨gz, hgz, hcz⟩ := row_cell HR3.out k hlt2
            subst hgz
            have hcz2 := HBR.out.cell (p := ⟨gz, k * 2 + 1, none⟩) hcz.1
            obtain ⟨x, hxe⟩ : ∃ x, x = X[k] := ⟨_, rfl⟩
            rw [hcz.2, ← hxe] at hcz2
            rw [← hxe] at hx
            obtain ⟨P, hP⟩ : ∃ P, P = scoreS x := ⟨_, rfl⟩
            obtain ⟨p1, p2, p3, p4⟩ := score_facts x P hP
            have ck : wr.cell? ⟨g, k, none⟩ = some (.string P) := by
              have h1 := HC.out k (by rw [← HCL.out]; omega)
              have h2 : (X.map RqF.scoreT ++ [RqF.scoredT (X.map fun x => ([109], x))])[k]'(by rw [← HCL.out]; omega) = RqF.scoreT x := by
                rw [List.getElem_append_left (by rw [List.length_map]; exact hlt2), List.getElem_map, hxe]
              rw [h2] at h1
              rw [hP]
              exact cell_later HBR.out h1
            have HXE := Lib.hid hxe; have HX := Lib.hid hx; have HPP := Lib.hid hP
            clear hxe hx hP hcz
            have hsub : IntKind.i64.wrap ((P.size : Int) - 1) = (P.size : Int) - 1 := IntWalk.i64_in _ (by omega)
            have hsub0 : (6 : Int) ≤ (P.size : Int) - 1 := by omega
            have hsub1 : (P.size : Int) - 1 ≤ (P.size : Int) := by omega
            have hsubN : ((P.size : Int) - 1).toNat = P.size - 1 := by omega
            go_wp2_with fail
            go_quiet (fail)
            clear hsub hsub0 hsub1 hsubN
            obtain ⟨Y, hY⟩ : ∃ Y, Y = P.extract 6 (P.size - 1) := ⟨_, rfl⟩
            have hYd : Y.data.toList = RqF.textF x := by rw [hY]; exact p4
            have hYs : Y.size ≤ 30 := by rw [Lib.size_eq, hYd]; exact RqF.text_len30 x
            rw [← hY]
            have HY := Lib.hid hYd; clear hY hYd p4
            obtain ⟨y, hy⟩ : ∃ y, y = if RqF.nan x then 9221120237041090561 else x := ⟨_, rfl⟩
            have hy1 : (cmpF y x == 0) = true := by rw [hy]; exact cmp_back x
            have hy2 : (cmpF x y == 0) = true := by rw [hy]; exact cmp_back2 x
            have hy3 : y < 2 * RqF.sgn := by rw [hy]; exact RqF.back_lt_sgn HX.out
            have HYY := Lib.hid hy; clear hy
            have HN : Hid ((memsT X.length ((X.take (k + 1)).map memV)).length = h + (2 + Y.size + 1)) := by
              show _ = _
              rw [List.take_succ_eq_append_getElem hlt2, List.map_append, List.map_cons, List.map_nil, memsT_add, List.length_append, ← HH.out]
              rw [Lib.size_eq Y, HY.out, ← HXE.out]
              unfold memT memV RqF.tellR
              rw [RqF.joinW_cons2, RqF.joinW_one]
              simp; omega
            have hle : h + (2 + Y.size + 1) ≤ T.size := by
              rw [← HN.out, HTT.out, size_of, List.map_take]
              exact memsT_le _ _ _
            have hext : ((T.extract h (h + (2 + Y.size + 1))).toList == (({ data := #[109, 32] } ++ Y ++ { data := #[10] } : ByteArray)).toList) = true := sc2_ext X k hlt2 h HH.out T HTT.out Y x HY.out HXE.out
            have hN1 : ((h : Int) + (2 + (Y.size : Int) + 1)).toNat = h + (2 + Y.size + 1) := by omega
            clear p1 p2 p3
            go_wp2_with fail
            refine (parse_back Y x _ (by omega) HX.out HY.out).mono ?_
            rw [← HYY.out]
            rintro r w5 ⟨rfl, rfl⟩
            go_wp2_with fail
            refine (r3same_any y x _ hy3 HX.out).mono ?_
            rw [hy1]
            rintro r w5 ⟨rfl, rfl⟩
            go_wp2_with fail
            refine (r3same_any x y _ HX.out hy3).mono ?_
            rw [hy2]
            rintro r w5 ⟨rfl, rfl⟩
            go_wp2_with fail
            go_roundw
            case measure => simp [intOf]; omega
            case rel => exact ⟨k + 1, by go_num, by omega, by rw [HN.out]; go_num, below_drewN' HBR.out _⟩
          · obtain rfl : k = X.length := by omega
            have hhT : h = T.size := by rw [HH.out, HTT.out, size_of, List.take_length]
            subst hhT
            go_wp2_with fail
            refine (awake19_any _ (HT.out.below (below_trans HB3.out HBR.out)).toTabs).mono ?_
            rintro r w5 ⟨rfl, hb5⟩
            go_wp2_with fail
            go_ret
            exact ⟨rfl, below_trans (below_trans HB3.out HBR.out) hb5⟩
end Go.Proofs.YtnjmhneobgmejaaGreatDoor
