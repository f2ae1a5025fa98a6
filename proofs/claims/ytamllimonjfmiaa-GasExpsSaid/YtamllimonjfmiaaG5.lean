/- The law GasExps: what an exponent costs. No condition beyond the kinds of the numbers. -/
import Derived.Test.YtamllimonjfmiaaG2
namespace Go.Proofs.Ytamllimonjfmiaa.W
open Go Go.Proofs.Ytamllimonjfmiaa.Sh Go.RowKit
set_option linter.unusedVariables false
set_option maxRecDepth 100000
variable {w W : World} {K : Value → World → Prop}

/-! ### How many bits -/
/-- L is the number of bits of n. -/
def BitsOf (n L : Nat) : Prop := (n = 0 ∧ L = 0) ∨ (0 < L ∧ 2 ^ (L - 1) ≤ n ∧ n < 2 ^ L)
instance (n L : Nat) : Decidable (BitsOf n L) := by unfold BitsOf; infer_instance
theorem bits_shift {n L s : Nat} (h : BitsOf (n / 2 ^ s) L) (hn : 2 ^ s ≤ n) : BitsOf n (L + s) := by
  have hp : 0 < 2 ^ s := Nat.two_pow_pos s
  rcases h with ⟨h0, _⟩ | ⟨h0, h1, h2⟩
  · have := Nat.div_pos hn hp; omega
  · refine .inr ⟨by omega, ?_, ?_⟩
    · rw [show L + s - 1 = (L - 1) + s by omega, Nat.pow_add]
      exact (Nat.le_div_iff_mul_le hp).1 h1
    · rw [Nat.pow_add]
      exact (Nat.div_lt_iff_lt_mul hp).1 h2
theorem str0_size : str0.size = 256 := by decide +kernel
def tab (i : Nat) : Nat := (str0.data.getD i 0).toNat
theorem tab_bits : ∀ i, i < 256 → BitsOf i (tab i) := by decide +kernel
theorem tab_at {i : Nat} (h : i < str0.size) : (str0[i]'h).toNat = tab i := by
  unfold tab
  congr 1
  have h' : i < str0.data.size := h
  rw [Array.getD, dif_pos h']
  rfl
theorem tab_le : ∀ i, i < 256 → tab i ≤ 8 := by decide +kernel
theorem tabK {v : Int} {F : Value → World → Prop} (h0 : 0 ≤ v) (h1 : v < 256) (k : F (.int .u8 (tab v.toNat)) w) : semK Try.prog (Instr.index 9 (.string str0) (.int .u8 v)) w F := by
  have hs := str0_size
  refine ixStr (by kernel_rfl) h0 (by omega) ?_
  rw [tab_at (by omega)]; exact k

theorem len_end {x : Nat} {s : Nat} (hx : x < 65536) (hs : s ≤ 48) (k : ∀ L : Nat, BitsOf x L → L ≤ 16 → K (.int .i64 ((s + L : Nat) : Int)) w) : J45_1 K x s w := by
  unfold J45_1
  refine ifD (fun h => ?_) fun h => ?_
  · have e : Int.fdiv (x : Int) (2 ^ (min (8 : Int).toNat 64)) = ((x / 256 : Nat) : Int) := by
      rw [show (min (8 : Int).toNat 64) = 8 by decide, show ((2 : Int) ^ 8) = ((256 : Nat) : Int) by decide]; exact Int.ofNat_fdiv x 256 |>.symm
    rw [e]
    have hq : x / 256 < 256 := by omega
    rw [show IntKind.wrap .u8 ((x / 256 : Nat) : Int) = ((x / 256 : Nat) : Int) by rw [u8w]; omega]
    refine tabK (by omega) (by omega) (asI_of ?_)
    have ht := tab_le (x / 256) hq
    have hb : BitsOf x (tab (x / 256) + 8) := bits_shift (s := 8) (tab_bits _ hq) (by omega)
    rw [show ((x / 256 : Nat) : Int).toNat = x / 256 from Int.toNat_natCast _, show IntKind.wrap .i64 ((s : Int) + 8) = (s : Int) + 8 from i64w (by omega) (by omega), show IntKind.wrap .i64 (tab (x / 256) : Int) = (tab (x / 256) : Int) from i64w (by omega) (by omega), show IntKind.wrap .i64 ((s : Int) + 8 + (tab (x / 256) : Int)) = ((s + (tab (x / 256) + 8) : Nat) : Int) by rw [i64w (by omega) (by omega)]; omega]
    exact k _ hb (by omega)
  · have hq : x < 256 := by omega
    rw [show IntKind.wrap .u8 (x : Int) = (x : Int) by rw [u8w]; omega]
    refine tabK (by omega) (by omega) (asI_of ?_)
    have ht := tab_le x hq
    rw [show (x : Int).toNat = x from Int.toNat_natCast _, show IntKind.wrap .i64 (tab x : Int) = (tab x : Int) from i64w (by omega) (by omega), show IntKind.wrap .i64 ((s : Int) + (tab x : Int)) = ((s + tab x : Nat) : Int) by rw [i64w (by omega) (by omega)]; omega]
    exact k _ (tab_bits _ hq) (by omega)
theorem len_mid {x : Nat} {s : Nat} (hx : x < 4294967296) (hs : s ≤ 32) (k : ∀ L : Nat, BitsOf x L → L ≤ 32 → K (.int .i64 ((s + L : Nat) : Int)) w) : J45_0 K x s w := by
  unfold J45_0
  refine ifD (fun h => ?_) fun h => ?_
  · have e : Int.fdiv (x : Int) (2 ^ (min (16 : Int).toNat 64)) = ((x / 65536 : Nat) : Int) := by
      rw [show (min (16 : Int).toNat 64) = 16 by decide, show ((2 : Int) ^ 16) = ((65536 : Nat) : Int) by decide]; exact Int.ofNat_fdiv x 65536 |>.symm
    rw [e, show IntKind.wrap .i64 ((s : Int) + 16) = ((s + 16 : Nat) : Int) by rw [i64w (by omega) (by omega)]; omega]
    refine len_end (by omega) (by omega) fun L hL hl => ?_
    rw [show s + 16 + L = s + (L + 16) by omega]
    exact k _ (bits_shift (s := 16) hL (by omega)) (by omega)
  · exact len_end (by omega) (by omega) fun L hL hl => k L hL (by omega)
theorem len64 {x : Nat} (hx : x < 18446744073709551616) (k : ∀ L : Nat, BitsOf x L → L ≤ 64 → K (.int .i64 (L : Int)) w) : CallV Try.prog 45 #[.int .u64 (x : Int)] w K := by
  refine call45 x w K ?_
  unfold F45
  refine ifD (fun h => ?_) fun h => ?_
  · have e : Int.fdiv (x : Int) (2 ^ (min (32 : Int).toNat 64)) = ((x / 4294967296 : Nat) : Int) := by
      rw [show (min (32 : Int).toNat 64) = 32 by decide, show ((2 : Int) ^ 32) = ((4294967296 : Nat) : Int) by decide]; exact Int.ofNat_fdiv x 4294967296 |>.symm
    rw [e]
    refine len_mid (s := 32) (by omega) (by omega) fun L hL hl => ?_
    rw [show 32 + L = L + 32 by omega]
    exact k _ (bits_shift (s := 32) hL (by omega)) (by omega)
  · exact len_mid (s := 0) (by omega) (by omega) fun L hL hl => by rw [Nat.zero_add]; exact k L hL (by omega)
theorem zeros64 {x : Nat} (hx : x < 18446744073709551616) (k : ∀ L : Nat, BitsOf x L → L ≤ 64 → K (.int .i64 ((64 - L : Nat) : Int)) w) : CallV Try.prog 44 #[.int .u64 (x : Int)] w K := by
  refine call44 x w K ?_
  unfold F44
  refine len64 hx fun L hL hl => asI_of ?_
  rw [show IntKind.wrap .i64 (64 - (L : Int)) = ((64 - L : Nat) : Int) by rw [i64w (by omega) (by omega)]; omega]
  exact k L hL hl

/-! ### How many bytes -/
def byteN (xs : Nat → Nat) (k : Nat) : Nat := xs (k / 8) / 256 ^ (k % 8) % 256
/-- Of the first m bytes, the last that is not 0 is the one ahead of S. -/
def SizeTo (xs : Nat → Nat) (m S : Nat) : Prop := (∀ k, S ≤ k → k < m → byteN xs k = 0) ∧ (S = 0 ∨ byteN xs (S - 1) ≠ 0) ∧ S ≤ m
theorem size_one {xs : Nat → Nat} {m S T : Nat} (h : SizeTo xs m S) (k : SizeTo xs m T) : S = T := by
  obtain ⟨h1, h2, h3⟩ := h
  obtain ⟨k1, k2, k3⟩ := k
  rcases Nat.lt_trichotomy S T with hl | hl | hl
  · rcases k2 with k2 | k2
    · omega
    · exact absurd (h1 (T - 1) (by omega) (by omega)) k2
  · exact hl
  · rcases h2 with h2 | h2
    · omega
    · exact absurd (k1 (S - 1) (by omega) (by omega)) h2
theorem pow_256 (n : Nat) : 256 ^ n = 2 ^ (8 * n) := by rw [show (256 : Nat) = 2 ^ 8 by decide, ← Nat.pow_mul]
theorem size_bits {xs : Nat → Nat} {j L : Nat} (hj : j < 4) (hz : ∀ i, j < i → i < 4 → xs i = 0) (hb : BitsOf (xs j) L) (h0 : 0 < L) (hl : L ≤ 64) : SizeTo xs 32 (8 * j + (L + 7) / 8) := by
  rcases hb with ⟨_, h⟩ | ⟨_, h1, h2⟩
  · omega
  generalize hB : (L + 7) / 8 = B
  have hB1 : 1 ≤ B ∧ B ≤ 8 ∧ L ≤ 8 * B ∧ 8 * (B - 1) ≤ L - 1 := by omega
  refine ⟨fun k hk hk2 => ?_, .inr ?_, by omega⟩
  · unfold byteN
    by_cases hj2 : k / 8 = j
    · have : xs (k / 8) < 256 ^ (k % 8) := by
        rw [hj2, pow_256]
        exact Nat.lt_of_lt_of_le h2 (Nat.pow_le_pow_right (by decide) (by omega))
      rw [Nat.div_eq_of_lt this]
    · rw [hz (k / 8) (by omega) (by omega)]; simp
  · unfold byteN
    rw [show (8 * j + B - 1) / 8 = j by omega, show (8 * j + B - 1) % 8 = B - 1 by omega]
    have p : 0 < 256 ^ (B - 1) := Nat.pow_pos (by decide)
    have q1 : 1 ≤ xs j / 256 ^ (B - 1) := by
      rw [Nat.le_div_iff_mul_le p, Nat.one_mul, pow_256]
      exact Nat.le_trans (Nat.pow_le_pow_right (by decide) hB1.2.2.2) h1
    have q2 : xs j / 256 ^ (B - 1) < 256 := by
      rw [Nat.div_lt_iff_lt_mul p, Nat.mul_comm, ← Nat.pow_succ, show (B - 1).succ = B by omega, pow_256]
      exact Nat.lt_of_lt_of_le h2 (Nat.pow_le_pow_right (by decide) hB1.2.2.1)
    rw [Nat.mod_eq_of_lt q2]; omega
theorem size_none {xs : Nat → Nat} (hz : ∀ i, i < 4 → xs i = 0) : SizeTo xs 32 0 :=
  ⟨fun k _ hk => by unfold byteN; rw [hz (k / 8) (by omega)]; simp, .inl rfl, by decide⟩

/-- The four numbers in a block, by their places. -/
def Lim (w : World) (b : Nat) (xs : Nat → Nat) : Prop := ∀ j, j < 4 → w.cell? ⟨b, j, none⟩ = some (.int .u64 (xs j : Int))
theorem Lim.bl {w w' : World} {b : Nat} {xs : Nat → Nat} (h : Lim w b xs) (k : Bl w w') : Lim w' b xs := fun j hj => k.cell (h j hj)
def limbs (x : Q4) : Nat → Nat | 0 => x.a.toNat | 1 => x.b.toNat | 2 => x.c.toNat | _ => x.d.toNat
theorem lim_of {b : Nat} {x : Q4} (hx : x.ok) (h : WQ w b x) : Lim w b (limbs x) := by
  obtain ⟨⟨a0, a1⟩, ⟨b0, b1⟩, ⟨c0, c1⟩, ⟨d0, d1⟩⟩ := hx
  intro j hj
  match j, hj with
  | 0, _ => rw [h.w4.c0]; simp only [limbs]; rw [Int.toNat_of_nonneg a0]
  | 1, _ => rw [h.w4.c1]; simp only [limbs]; rw [Int.toNat_of_nonneg b0]
  | 2, _ => rw [h.w4.c2]; simp only [limbs]; rw [Int.toNat_of_nonneg c0]
  | 3, _ => rw [h.w4.c3]; simp only [limbs]; rw [Int.toNat_of_nonneg d0]
theorem limbs_lt {x : Q4} (hx : x.ok) (j : Nat) : limbs x j < 18446744073709551616 := by
  obtain ⟨⟨a0, a1⟩, ⟨b0, b1⟩, ⟨c0, c1⟩, ⟨d0, d1⟩⟩ := hx
  match j with
  | 0 => simp only [limbs]; omega
  | 1 => simp only [limbs]; omega
  | 2 => simp only [limbs]; omega
  | n + 3 => simp only [limbs]; omega
theorem ixW {b : Nat} {j : Nat} {F : Value → World → Prop} (hj : j < 4) (k : F (.pointer (some ⟨b, j, none⟩)) w) : semK Try.prog (Instr.indexAt 39 (.pointer (some ⟨b, 0, none⟩)) (.int .i64 (j : Int))) w F :=
  ixA (n := 4) (e := 22) (z := 1) (by kernel_rfl) (by kernel_rfl) (by omega) (by omega) (by
    have : (⟨b, 0, none⟩ : Addr).add ((j : Int).toNat * 1) = ⟨b, j, none⟩ := by
      simp only [Addr.add, Int.toNat_natCast, Nat.mul_one, Nat.zero_add]
      try (simp; try omega)
    rw [this]; exact k)

/-- Size's number, out of ahead's. -/
def sizeOfA (A : Nat) : Nat := (263 - A) / 8
theorem ahead_loop {b : Nat} {xs : Nat → Nat} (hl : Lim w b xs) (hx : ∀ j, xs j < 18446744073709551616) (k : ∀ A : Nat, A ≤ 256 → SizeTo xs 32 (sizeOfA A) → K (.int .i64 (A : Int)) w) :
    ∀ (m : Nat) (n : Nat), m ≤ 4 → n + 64 * m = 256 → (∀ i, m ≤ i → i < 4 → xs i = 0) → L43_0 K (m + 1) ⟨b, 0, none⟩ n ((m : Int) - 1) w := by
  intro m
  induction m with
  | zero =>
    intro n hm hn hz
    simp only [L43_0]
    refine ifD (fun h => by omega) fun _ => k n (by omega) ?_
    rw [show sizeOfA n = 0 by unfold sizeOfA; omega]
    exact size_none fun i hi => hz i (by omega) hi
  | succ m ih =>
    intro n hm hn hz
    rw [L43_0]
    refine ifD (fun h => ?_) fun h => by omega
    rw [show (((m + 1 : Nat) : Int) - 1) = (m : Int) by omega]
    refine ixW (by omega) (show asA (.pointer (some _)) _ from ldI (hl m (by omega)) (zeros64 (hx m) fun L hL hl64 => asI_of (ifD (fun h2 => ?_) fun h2 => ?_)))
    · rw [show IntKind.wrap .i64 ((n : Int) + ((64 - L : Nat) : Int)) = ((n + (64 - L) : Nat) : Int) by rw [i64w (by omega) (by omega)]; omega]
      refine k _ (by omega) ?_
      have h3 : 0 < L := by omega
      rw [show sizeOfA (n + (64 - L)) = 8 * m + (L + 7) / 8 by unfold sizeOfA; omega]
      exact size_bits (by omega) (fun i h1 h2 => hz i (by omega) h2) hL h3 hl64
    · have h3 : L = 0 := by omega
      have h4 : xs m = 0 := by
        rcases hL with h | h
        · exact h.1
        · omega
      rw [show IntKind.wrap .i64 ((n : Int) + ((64 - L : Nat) : Int)) = ((n + 64 : Nat) : Int) by rw [i64w (by omega) (by omega)]; omega, show IntKind.wrap .i64 ((m : Int) - 1) = (m : Int) - 1 from i64w (by omega) (by omega)]
      refine ih (n + 64) (by omega) (by omega) fun i h1 h2 => ?_
      by_cases h5 : i = m
      · rw [h5]; exact h4
      · exact hz i (by omega) h2

variable {x : Q4}
theorem ahead (hx : x.ok) (k : ∀ (A : Nat) (w' : World), Bl w w' → A ≤ 256 → SizeTo (limbs x) 32 (sizeOfA A) → K (.int .i64 (A : Int)) w') : CallV Try.prog 43 #[x.v] w K := by
  refine call43 x.a x.b x.c x.d w K ?_
  unfold F43
  exact alQ fun w1 h1 b1 s1 => ⟨5, ahead_loop (lim_of hx h1) (limbs_lt hx) (fun A hA hs => k A w1 b1 hA hs) 4 0 (by decide) (by decide) fun i h1 h2 => by omega⟩
theorem wsize (hx : x.ok) (k : ∀ (S : Nat) (w' : World), Bl w w' → S ≤ 32 → SizeTo (limbs x) 32 S → K (.int .i64 (S : Int)) w') : CallV Try.prog 39 #[x.v] w K := by
  refine call39 x.a x.b x.c x.d w K ?_
  unfold F39
  refine alQ fun w1 h1 b1 s1 => ldQ h1 (ahead hx fun A w2 b2 hA hs => asI_of ?_)
  rw [show IntKind.wrap .i64 (263 - (A : Int)) = ((263 - A : Nat) : Int) by rw [i64w (by omega) (by omega)]; omega, show Int.tdiv ((263 - A : Nat) : Int) 8 = (((263 - A) / 8 : Nat) : Int) from rfl, show IntKind.wrap .i64 (((263 - A) / 8 : Nat) : Int) = (((263 - A) / 8 : Nat) : Int) from i64w (by omega) (by omega)]
  exact k _ w2 (b1.trans b2) (by unfold sizeOfA at hs; omega) hs
theorem expW (hx : x.ok) (k : ∀ (S : Nat) (w' : World), Bl w w' → SizeTo (limbs x) 32 S → K (.int .u64 ((50 * S : Nat) : Int)) w') : CallV Try.prog 33 #[x.v] w K := by
  refine call33 x.a x.b x.c x.d w K ?_
  unfold F33
  refine alQ fun w1 h1 b1 s1 => ldQ h1 (wsize hx fun S w2 b2 hS hs => asI_of ?_)
  rw [show IntKind.wrap .u64 (50 * IntKind.wrap .u64 (S : Int)) = ((50 * S : Nat) : Int) by rw [u64w, u64w]; omega]
  exact k S w2 (b1.trans b2) hs

/-! ### Byte by byte -/
theorem ref_inner {C : Addr → Int → Int → World → Prop} {a : Addr} {n i v : Int} (q : Nat) (hi : Int.tmod i 8 = (q : Int)) (hv : 0 ≤ v ∧ v < 18446744073709551616) (hq : q < 8)
    (k : J34_3 K C a n i (v / ((256 ^ q : Nat) : Int)) w) : ∀ (m j : Nat), j + m = q → L34_4 K C (m + 1) a n i (v / ((256 ^ j : Nat) : Int)) j w := by
  intro m
  induction m with
  | zero =>
    intro j hj
    simp only [L34_4]
    rw [hi]
    refine ifD (fun h => by omega) fun _ => ?_
    rw [show j = q by omega]; exact k
  | succ m ih =>
    intro j hj
    rw [L34_4]
    simp only []
    rw [hi]
    refine ifD (fun h => ?_) fun h => by omega
    have p : (0 : Int) < ((256 ^ j : Nat) : Int) := by have : 0 < 256 ^ j := Nat.pow_pos (by decide); omega
    have d0 : 0 ≤ v / ((256 ^ j : Nat) : Int) := Int.ediv_nonneg hv.1 (by omega)
    have d1 : v / ((256 ^ j : Nat) : Int) ≤ v := Int.ediv_le_self _ hv.1
    have e : IntKind.wrap .u64 (Int.tdiv (v / ((256 ^ j : Nat) : Int)) 256) = v / ((256 ^ (j + 1) : Nat) : Int) := by
      rw [Int.tdiv_eq_ediv_of_nonneg d0, Int.ediv_ediv_of_nonneg (by omega), show ((256 ^ j : Nat) : Int) * 256 = ((256 ^ (j + 1) : Nat) : Int) by rw [Nat.pow_succ]; push_cast; rfl, u64w]
      have p2 : (0 : Int) < ((256 ^ (j + 1) : Nat) : Int) := by have : 0 < 256 ^ (j + 1) := Nat.pow_pos (by decide); omega
      have d2 : 0 ≤ v / ((256 ^ (j + 1) : Nat) : Int) := Int.ediv_nonneg hv.1 (by omega)
      have d3 : v / ((256 ^ (j + 1) : Nat) : Int) ≤ v := Int.ediv_le_self _ hv.1
      omega
    rw [e, show IntKind.wrap .i64 ((j : Int) + 1) = ((j + 1 : Nat) : Int) by rw [i64w (by omega) (by omega)]; rfl]
    exact ih (j + 1) (by omega)
theorem ref_loop {b : Nat} {xs : Nat → Nat} (hl : Lim w b xs) (hx : ∀ j, xs j < 18446744073709551616) (k : ∀ S : Nat, SizeTo xs 32 S → K (.int .u64 ((50 * S : Nat) : Int)) w) :
    ∀ (m i n : Nat), i + m = 32 → SizeTo xs i n → L34_1 K (m + 1) ⟨b, 0, none⟩ n i w := by
  intro m
  induction m with
  | zero =>
    intro i n hi hs
    simp only [L34_1]
    refine ifD (fun h => by omega) fun _ => ?_
    unfold J34_0
    have hn : n ≤ 32 := by have := hs.2.2; omega
    rw [show IntKind.wrap .u64 (IntKind.wrap .i64 (50 * (n : Int))) = ((50 * n : Nat) : Int) by rw [i64w (by omega) (by omega), u64w]; omega]
    exact k n (by rw [show i = 32 by omega] at hs; exact hs)
  | succ m ih =>
    intro i n hi hs
    have hn : n ≤ i := hs.2.2
    rw [L34_1]
    refine ifD (fun h => ?_) fun h => by omega
    rw [show IntKind.wrap .i64 (Int.tdiv (i : Int) 8) = ((i / 8 : Nat) : Int) by rw [show Int.tdiv (i : Int) 8 = ((i / 8 : Nat) : Int) from rfl]; exact i64w (by omega) (by omega)]
    refine ixW (by omega) (show asA (.pointer (some _)) _ from ldI (hl (i / 8) (by omega)) ⟨i % 8 + 1, ?_⟩)
    have hx8 := hx (i / 8)
    have := ref_inner (K := K) (w := w) (C := L34_1 K (m + 1)) (a := ⟨b, 0, none⟩) (n := n) (i := i) (v := (xs (i / 8) : Int)) (i % 8) rfl ⟨by omega, by omega⟩ (by omega) ?_ (i % 8) 0 (by omega)
    · simpa using this
    unfold J34_3
    have hb : Int.tmod ((xs (i / 8) : Int) / ((256 ^ (i % 8) : Nat) : Int)) 256 = ((byteN xs i : Nat) : Int) := rfl
    rw [hb]
    have e1 : IntKind.wrap .i64 ((i : Int) + 1) = ((i + 1 : Nat) : Int) := by rw [i64w (by omega) (by omega)]; rfl
    refine ifNe (fun h2 => ?_) fun h2 => ?_
    · unfold J34_2
      rw [e1]
      exact ih (i + 1) (i + 1) (by omega) ⟨fun k h1 h3 => by omega, .inr (by simpa using fun h => h2 (by omega)), Nat.le_refl _⟩
    · unfold J34_2
      rw [e1]
      refine ih (i + 1) n (by omega) ⟨fun k h1 h3 => ?_, hs.2.1, by omega⟩
      by_cases h4 : k = i
      · rw [h4]; omega
      · exact hs.1 k h1 (by omega)
theorem expRef (hx : x.ok) (k : ∀ (S : Nat) (w' : World), Bl w w' → SizeTo (limbs x) 32 S → K (.int .u64 ((50 * S : Nat) : Int)) w') : CallV Try.prog 34 #[x.v] w K := by
  refine call34 x.a x.b x.c x.d w K ?_
  unfold F34
  exact alQ fun w1 h1 b1 s1 => ⟨33, ref_loop (lim_of hx h1) (limbs_lt hx) (fun S hs => k S w1 b1 hs) 32 0 0 (by decide) ⟨fun k h1 h2 => by omega, .inl rfl, Nat.le_refl _⟩⟩
theorem gasExps (hx : x.ok) (k : ∀ w', Bl w w' → K (.bool true) w') : CallV Try.prog 8 #[x.v] w K := by
  refine call8 x.a x.b x.c x.d w K ?_
  unfold F8
  refine alQ fun w1 h1 b1 s1 => ldQ h1 (expW hx fun S w2 b2 hS => asI_of (expW (x := ⟨256, 0, 0, 0⟩) ⟨⟨by decide, by decide⟩, ⟨by decide, by decide⟩, ⟨by decide, by decide⟩, ⟨by decide, by decide⟩⟩ fun T w3 b3 hT => asI_of (ldQ ((h1.bl b2).bl b3) (expRef hx fun S' w4 b4 hS' => asI_of ?_))))
  have e1 := size_one hS hS'
  have e2 : T = 2 := size_one hT ⟨fun k h1 h2 => (show ∀ k, k < 32 → 2 ≤ k → byteN (limbs ⟨256, 0, 0, 0⟩) k = 0 by decide +kernel) k h2 h1, .inr (by decide +kernel), by decide⟩
  subst e1 e2
  refine ifB_t (by simp) ?_
  exact k w4 (((b1.trans b2).trans b3).trans b4)
theorem gasExps_walk (a b c e : Int) (W : World) (wa : (Lit.int .u64 a).wf = true) (wb : (Lit.int .u64 b).wf = true) (wc : (Lit.int .u64 c).wf = true) (we : (Lit.int .u64 e).wf = true) :
    Calls Try.prog 8 #[.agg #[.int .u64 a, .int .u64 b, .int .u64 c, .int .u64 e]] W fun e W' => e = .returned (.bool true) ∧ Below W.heap.size W W' :=
  Calls.mono (gasExps (x := ⟨a, b, c, e⟩) (K := fun v w' => v = .bool true ∧ Below W.heap.size W w') ⟨bounds_u64 wa, bounds_u64 wb, bounds_u64 wc, bounds_u64 we⟩ fun w' b => ⟨rfl, b⟩) fun e w' ⟨v, he, hv, hb⟩ => ⟨by rw [he, hv], hb⟩
end Go.Proofs.Ytamllimonjfmiaa.W
