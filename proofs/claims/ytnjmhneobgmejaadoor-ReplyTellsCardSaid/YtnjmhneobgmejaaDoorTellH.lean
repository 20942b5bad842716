/- The contracts that the law ReplyTells leans on, what is told behind a letter. Conditions: the library's tables are as they are laid. -/
import Derived.Test.YtnjmhneobgmejaaDoorTellG
namespace Go.Proofs.YtnjmhneobgmejaaDoor
open Go.RowKit

theorem err_as (e : Int) (X : ByteArray) (hX : X = errS e) (w : World) : Calls Tryd.prog 9 #[.int .i64 e] w fun r w' => r = .returned (.string X) ∧ Below w.heap.size w w' := by
  subst hX; exact err_any e w
theorem r18err_as (e : Int) (X : ByteArray) (hX : X = errS e) (w : World) : Calls Tryd.prog 10 #[.int .i64 e] w fun r w' => r = .returned (.string X) ∧ w = w' := by
  subst hX; exact r18err_any e w
theorem value_as (A : Option Addr) (c : Nat) (l : List UInt8) (T : ByteArray) (w : World) (hT : T = valueS l) (ht : Tabs w) (hl : BytesAt A l w) (hs : l.length ≤ 1099511627776) :
    Calls Tryd.prog 11 #[.slice A l.length c] w fun r w' => r = .returned (.string T) ∧ Below w.heap.size w w' := by
  subst hT; exact value_tells A c l w ht hl hs
theorem r18value_as (b T : ByteArray) (l : List UInt8) (w : World) (hb : b = ⟨l.toArray⟩) (hT : T = valueS l) (hs : b.size ≤ 1099511627776) :
    Calls Tryd.prog 12 #[.string b] w fun r w' => r = .returned (.string T) ∧ w = w' := by
  subst hT; subst hb; simpa using r18value_any ⟨l.toArray⟩ w hs
theorem pairs_as (A : Option Addr) (c : Nat) (l : List PairV) (n : Nat) (T : ByteArray) (w : World) (hn : n = l.length) (hT : T = ⟨(prsT n l).toArray⟩) (ht : Tabs w) (hm : PairsAt A l w) (hn2 : n ≤ 1000) (hlen : (prsT n l).length ≤ 1099511627776) :
    Calls Tryd.prog 13 #[.slice A n c] w fun r w' => r = .returned (.string T) ∧ Below w.heap.size w w' := by
  subst hn; subst hT; exact pairs_tells A c l w ht hm (by omega) hlen
theorem r18pairs_as (A : Option Addr) (c : Nat) (l : List PairV) (n : Nat) (T : ByteArray) (w : World) (hn : n = l.length) (hT : T = ⟨(prsT n l).toArray⟩) (hm : RPairsAt A l w) (hn2 : n ≤ 1000) (hlen : (prsT n l).length ≤ 1099511627776) :
    Calls Tryd.prog 14 #[.slice A n c] w fun r w' => r = .returned (.string T) ∧ Below w.heap.size w w' := by
  subst hn; subst hT; exact r18pairs_any A c l w hm hn2 hlen
theorem bool_as (b : Bool) (T : ByteArray) (w : World) (hT : T = boolS b) : Calls Tryd.prog 15 #[.bool b] w fun r w' => r = .returned (.string T) ∧ Below w.heap.size w w' := by
  subst hT; exact bool_tells b w
theorem r18bool_as (b : Bool) (T : ByteArray) (w : World) (hT : T = boolS b) : Calls Tryd.prog 16 #[.bool b] w fun r w' => r = .returned (.string T) ∧ w = w' := by
  subst hT; exact r18bool_any b w
theorem scored_as (A : Option Addr) (c : Nat) (l : List (ByteArray × Nat)) (n : Nat) (T : ByteArray) (w : World) (hn : n = l.length) (hT : T = ⟨(memsT n l).toArray⟩) (ht : Tabs w) (hm : MembersAt A l w) (hx : ∀ p ∈ l, p.2 < 2 * RqF.sgn) (hn2 : n ≤ 1000) (hlen : (memsT n l).length ≤ 1099511627776) :
    Calls Tryd.prog 17 #[.slice A n c] w fun r w' => r = .returned (.string T) ∧ Below w.heap.size w w' := by
  subst hn; subst hT; exact scored_tells A c l w ht hm hx (by omega) hlen
theorem r18scored_as (A B : Option Addr) (c d : Nat) (l : List (ByteArray × Nat)) (n : Nat) (T : ByteArray) (w : World) (hn : n = l.length) (hT : T = ⟨(memsT n l).toArray⟩) (hA : StrsAt A (l.map (·.1)) w) (hB : F64sAt B (l.map (·.2)) w) (hx : ∀ p ∈ l, p.2 < 2 * RqF.sgn) (hn2 : n ≤ 1000) (hlen : (memsT n l).length ≤ 1099511627776) :
    Calls Tryd.prog 18 #[.slice A n c, .slice B n d] w fun r w' => r = .returned (.string T) ∧ Below w.heap.size w w' := by
  subst hn; subst hT; exact r18scored_any A B c d l w hA hB hx hn2 hlen
theorem numbers_as (A : Option Addr) (c : Nat) (l : List Int) (T : ByteArray) (w : World) (hT : T = numsS l) (ht : Tabs w) (hl : NumsAt A l w) (hn : l.length ≤ 1000) :
    Calls Tryd.prog 19 #[.slice A l.length c] w fun r w' => r = .returned (.string T) ∧ Below w.heap.size w w' := by
  subst hT; exact numbers_tells A c l w ht hl hn
theorem r18numbers_as (A : Option Addr) (c : Nat) (l : List Int) (T : ByteArray) (w : World) (hT : T = numsS l) (hl : NumsAt A l w) (hn : l.length ≤ 1000) :
    Calls Tryd.prog 20 #[.slice A l.length c] w fun r w' => r = .returned (.string T) ∧ w = w' := by
  subst hT; exact r18numbers_any A c l w hl hn
structure SpreadOk (n : Int) (a b c d : Nat) : Prop where
  n0 : -9223372036854775808 < n
  n1 : n ≤ 9223372036854775807
  a : a < 2 * RqF.sgn
  b : b < 2 * RqF.sgn
  c : c < 2 * RqF.sgn
  d : d < 2 * RqF.sgn
theorem spread_as (n : Int) (a b c d : Nat) (T : ByteArray) (w : World) (hT : T = spreadS n a b c d) (ht : Tabs w) (h : SpreadOk n a b c d) :
    Calls Tryd.prog 21 #[.agg #[.int .i64 n, .float .f64 a, .float .f64 b, .float .f64 c, .float .f64 d]] w fun r w' => r = .returned (.string T) ∧ Below w.heap.size w w' := by
  subst hT; exact spread_tells n a b c d w ht h.n0 h.n1 h.a h.b h.c h.d
theorem r18spread_as (n : Int) (a b c d : Nat) (T : ByteArray) (w : World) (hT : T = spreadS n a b c d) (h : SpreadOk n a b c d) :
    Calls Tryd.prog 22 #[.agg #[.int .i64 n, .float .f64 a, .float .f64 b, .float .f64 c, .float .f64 d]] w fun r w' => r = .returned (.string T) ∧ Below w.heap.size w w' := by
  subst hT; exact r18spread_any n a b c d w h.n0 h.n1 h.a h.b h.c h.d
theorem number_as (n : Int) (T : ByteArray) (w : World) (hT : T = numberS n) (ht : Tabs w) (h0 : -9223372036854775808 < n) (h1 : n ≤ 9223372036854775807) :
    Calls Tryd.prog 23 #[.int .i64 n] w fun r w' => r = .returned (.string T) ∧ Below w.heap.size w w' := by
  subst hT; exact number_tells n w ht h0 h1
theorem r18num_as (n : Int) (T : ByteArray) (w : World) (hT : T = numberS n) (h0 : -9223372036854775808 < n) (h1 : n ≤ 9223372036854775807) :
    Calls Tryd.prog 24 #[.int .i64 n] w fun r w' => r = .returned (.string T) ∧ w = w' := by
  subst hT; exact r18num_any n w h0 h1
theorem score_as (x : Nat) (T : ByteArray) (w : World) (hT : T = scoreS x) (ht : Tabs w) (hx : x < 2 * RqF.sgn) :
    Calls Tryd.prog 25 #[.float .f64 x] w fun r w' => r = .returned (.string T) ∧ Below w.heap.size w w' := by
  subst hT; exact score_tells x w ht hx
theorem r18score_as (x : Nat) (T : ByteArray) (w : World) (hT : T = scoreS x) (hx : x < 2 * RqF.sgn) :
    Calls Tryd.prog 26 #[.float .f64 x] w fun r w' => r = .returned (.string T) ∧ w = w' := by
  subst hT; exact r18score_any x w hx

theorem row_dn {w : World} {base : Nat} {e : TypeId} {size n : Nat} {v : Value} {xs : List Value} (h : w.ownsRow base e size v n xs) (m : Nat) : (w.drewN m).ownsRow base e size v n xs := h
theorem f64s_of {A : Option Addr} {Z : List (ByteArray × Nat)} {w : World} (h : ∀ (i : Nat) (hi : i < Z.length), ∃ a : Addr, A = some a ∧ a.block < w.heap.size ∧ w.cell? (a.add i) = some (scV Z[i])) : F64sAt A (Z.map (·.2)) w := by
  intro i hi
  rw [List.length_map] at hi
  obtain ⟨a, h1, h2, h3⟩ := h i hi
  exact ⟨a, h1, h2, by rw [List.getElem_map]; exact h3⟩
theorem least_as (A : Option Addr) (c n : Nat) (X : List Nat) (w : World) (he : n = X.length) (hX : F64sAt A X w) (hall : ∀ x ∈ X, x < 2 * RqF.sgn) (hn : n ≤ 1000) :
    Calls Tryd.prog 6 #[.slice A n c] w fun r w' => (∃ b, b < 2 * RqF.sgn ∧ r = .returned (.float .f64 b)) ∧ w = w' := by
  subst he; exact least_any A c X w hX hall hn
theorem most_as (A : Option Addr) (c n : Nat) (X : List Nat) (w : World) (he : n = X.length) (hX : F64sAt A X w) (hall : ∀ x ∈ X, x < 2 * RqF.sgn) (hn : n ≤ 1000) :
    Calls Tryd.prog 7 #[.slice A n c] w fun r w' => (∃ b, b < 2 * RqF.sgn ∧ r = .returned (.float .f64 b)) ∧ w = w' := by
  subst he; exact most_any A c X w hX hall hn
theorem sum_as (A : Option Addr) (c n : Nat) (X : List Nat) (w : World) (he : n = X.length) (hX : F64sAt A X w) (hall : ∀ x ∈ X, x < 2 * RqF.sgn) (hn : n ≤ 1000) :
    Calls Tryd.prog 8 #[.slice A n c] w fun r w' => (∃ b, b < 2 * RqF.sgn ∧ r = .returned (.float .f64 b)) ∧ Below w.heap.size w w' := by
  subst he; exact sum_any A c X w hX hall hn
theorem sp_keep {wd w' : World} {g : Nat} {n : Int} {a b c d : Nat} (h : wd.heap[g]? = some (.cells #[.int .i64 n, .float .f64 a, .float .f64 b, .float .f64 c, .float .f64 d] 42 (0, 0))) (hb : Below wd.heap.size wd w') :
    Below wd.heap.size wd w' ∧ w'.heap[g]? = some (.cells #[.int .i64 n, .float .f64 a, .float .f64 b, .float .f64 c, .float .f64 d] 42 (0, 0)) ∧ w'.cell? ⟨g, 0, none⟩ = some (.int .i64 n) ∧ w'.cell? ⟨g, 1, none⟩ = some (.float .f64 a) ∧ w'.cell? ⟨g, 2, none⟩ = some (.float .f64 b) ∧ w'.cell? ⟨g, 3, none⟩ = some (.float .f64 c) ∧ w'.cell? ⟨g, 4, none⟩ = some (.float .f64 d) :=
  ⟨hb, below_blk hb h, spread_cells (below_blk hb h)⟩
theorem one_keep {wr w' : World} {p : Addr} {v : Value} (h : wr.cell? p = some v) (hb : Below wr.heap.size wr w') : Below wr.heap.size wr w' ∧ w'.cell? p = some v := by
  refine ⟨hb, (hb.cell ?_).trans h⟩
  rcases Nat.lt_or_ge p.block wr.heap.size with h' | h'
  · exact h'
  · simp [World.cell?, Array.getElem?_eq_none h'] at h
/-- Loop 1's head: the pairs so far are laid. -/
def TlA (w : World) (L : List PairV) (p iv : Value) (wr : World) : Prop :=
  ∃ k : Nat, iv = .int .i64 k ∧ k ≤ L.length ∧ wr.ownsRow w.heap.size 32 2 p k (cells2 keyV valV (L.take k)) ∧ (∀ q ∈ L.take k, q.key.size + q.val.length ≤ 2000) ∧ Below w.heap.size w wr
/-- Loop 2's head: the doubles and the members so far are laid. -/
def TlB (w : World) (Z : List (ByteArray × Nat)) (z x iv : Value) (wr : World) : Prop :=
  ∃ k : Nat, iv = .int .i64 k ∧ k ≤ Z.length ∧ wr.ownsRow w.heap.size 35 1 x k ((Z.take k).map scV) ∧ wr.ownsRow w.heap.size 39 2 z k (cells2 nmV scV (Z.take k)) ∧ (∀ q ∈ Z.take k, q.1.size ≤ 200) ∧ Below w.heap.size w wr
/-- Loop 3's head. -/
def TlC (I : List Int) (iv : Value) : Prop := ∃ k : Nat, iv = .int .i64 k ∧ k ≤ I.length ∧ ∀ x ∈ I.take k, x ≠ -9223372036854775808
/-- Loops 4's and 5's heads. -/
def TlD (w : World) (n : Nat) (iv : Value) (wr : World) : Prop := ∃ k : Nat, iv = .int .i64 k ∧ k ≤ n ∧ Below w.heap.size w wr
theorem take_all {α : Type} {l : List α} {k : Nat} {p : α → Prop} (h : ∀ q ∈ l.take k, p q) (hk : k < l.length) (hp : p l[k]) : ∀ q ∈ l.take (k + 1), p q := by
  intro q hq
  rw [List.take_succ_eq_append_getElem hk] at hq
  rcases List.mem_append.1 hq with hq | hq
  · exact h q hq
  · simp only [List.mem_cons, List.mem_nil_iff, or_false] at hq
    rw [hq]; exact hp
end Go.Proofs.YtnjmhneobgmejaaDoor
