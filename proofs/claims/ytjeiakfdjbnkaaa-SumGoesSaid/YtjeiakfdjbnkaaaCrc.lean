/-
  The checksum's register, in plain bit vectors: one shift, a byte, a list of bytes; each shift is linear and one to one; a burst of at most 32 bits turns the sum.
-/
namespace Go.Proofs.Ytjeiakfdjbnkaaa.Crc

/-- One shift of the register. -/
def stp (s : BitVec 32) : BitVec 32 := if s.getLsbD 0 then (s >>> 1) ^^^ 0xEDB88320#32 else s >>> 1

/-- So many shifts. -/
def stpN : Nat → BitVec 32 → BitVec 32
  | 0, s => s
  | n + 1, s => stp (stpN n s)

/-- A byte. -/
def byt (s : BitVec 32) (z : Int) : BitVec 32 := stpN 8 (s ^^^ BitVec.ofInt 32 z)

/-- The register behind a list of bytes. -/
def reg (s : BitVec 32) (zs : List Int) : BitVec 32 := zs.foldl byt s

/-- The sum that goes on from s. -/
def mor (s : BitVec 32) (zs : List Int) : BitVec 32 := ~~~ (reg (~~~ s) zs)

theorem reg_append (s : BitVec 32) (a b : List Int) : reg s (a ++ b) = reg (reg s a) b := by
  simp [reg, List.foldl_append]

theorem mor_append (s : BitVec 32) (a b : List Int) : mor s (a ++ b) = mor (mor s a) b := by
  simp [mor, reg_append]

theorem mor_nil (s : BitVec 32) : mor s [] = s := by simp [mor, reg]

theorem stp_xor (a b : BitVec 32) : stp (a ^^^ b) = stp a ^^^ stp b := by
  unfold stp
  rw [BitVec.getLsbD_xor, BitVec.ushiftRight_xor_distrib]
  cases a.getLsbD 0 <;> cases b.getLsbD 0 <;> simp
  · rw [BitVec.xor_assoc]
  · ac_rfl
  · rw [show (a >>> 1 ^^^ 3988292384#32) ^^^ (b >>> 1 ^^^ 3988292384#32) = (a >>> 1 ^^^ b >>> 1) ^^^ (3988292384#32 ^^^ 3988292384#32) by ac_rfl]
    simp

theorem stp_zero : stp 0#32 = 0#32 := by decide

theorem stpN_xor (n : Nat) (a b : BitVec 32) : stpN n (a ^^^ b) = stpN n a ^^^ stpN n b := by
  induction n with
  | zero => rfl
  | succ n ih => simp [stpN, ih, stp_xor]

theorem stpN_zero (n : Nat) : stpN n 0#32 = 0#32 := by
  induction n with
  | zero => rfl
  | succ n ih => simp [stpN, ih, stp_zero]

theorem stp_eq_zero {d : BitVec 32} (h : stp d = 0#32) : d = 0#32 := by
  have h31 : (stp d).getLsbD 31 = false := by rw [h]; simp
  unfold stp at h h31
  cases h0 : d.getLsbD 0 with
  | true => rw [h0] at h31; simp at h31
  | false =>
    rw [h0] at h
    simp only [Bool.false_eq_true, if_false] at h
    apply BitVec.eq_of_getLsbD_eq
    intro i hi
    cases i with
    | zero => simpa using h0
    | succ i =>
      have := congrArg (fun x => x.getLsbD i) h
      simp only [BitVec.getLsbD_ushiftRight, BitVec.getLsbD_zero] at this
      rw [show i + 1 = 1 + i by omega, this]; simp

theorem stpN_eq_zero {n : Nat} {d : BitVec 32} (h : stpN n d = 0#32) : d = 0#32 := by
  induction n with
  | zero => exact h
  | succ n ih => exact ih (stp_eq_zero h)

theorem xor_eq_zero {a b : BitVec 32} (h : a ^^^ b = 0#32) : a = b := by
  have : (a ^^^ b) ^^^ b = 0#32 ^^^ b := by rw [h]
  simpa [BitVec.xor_assoc] using this

theorem stpN_inj {n : Nat} {a b : BitVec 32} (h : stpN n a = stpN n b) : a = b := by
  apply xor_eq_zero
  apply stpN_eq_zero (n := n)
  rw [stpN_xor, h, BitVec.xor_self]

theorem byt_inj {a b : BitVec 32} {z : Int} (h : byt a z = byt b z) : a = b := by
  have h1 := stpN_inj h
  have : (a ^^^ BitVec.ofInt 32 z) ^^^ BitVec.ofInt 32 z = (b ^^^ BitVec.ofInt 32 z) ^^^ BitVec.ofInt 32 z := by rw [h1]
  simpa [BitVec.xor_assoc] using this

theorem reg_inj {a b : BitVec 32} (zs : List Int) (h : reg a zs = reg b zs) : a = b := by
  induction zs generalizing a b with
  | nil => exact h
  | cons z zs ih => exact byt_inj (ih h)

theorem mor_inj {a b : BitVec 32} (zs : List Int) (h : mor a zs = mor b zs) : a = b := by
  unfold mor at h
  have h1 : reg (~~~ a) zs = reg (~~~ b) zs := by
    have := congrArg (fun x => ~~~ x) h
    simpa using this
  have h2 := reg_inj zs h1
  have := congrArg (fun x => ~~~ x) h2
  simpa using this

/-! ### Bit by bit -/

/-- A bit. -/
def bst (s : BitVec 32) (c : Bool) : BitVec 32 := stp (s ^^^ (if c then 1#32 else 0#32))

/-- The register behind bits. -/
def bfold (s : BitVec 32) (l : List Bool) : BitVec 32 := l.foldl bst s

theorem stp_low {v : BitVec 32} (h : v.getLsbD 0 = false) : stp v = v >>> 1 := by
  unfold stp; rw [h]; rfl

theorem stp_split (s v : BitVec 32) : stp (s ^^^ v) = bst s (v.getLsbD 0) ^^^ (v >>> 1) := by
  unfold bst
  have e : s ^^^ v = (s ^^^ (if v.getLsbD 0 then 1#32 else 0#32)) ^^^ (v ^^^ (if v.getLsbD 0 then 1#32 else 0#32)) := by
    rw [show (s ^^^ (if v.getLsbD 0 then 1#32 else 0#32)) ^^^ (v ^^^ (if v.getLsbD 0 then 1#32 else 0#32)) = (s ^^^ v) ^^^ ((if v.getLsbD 0 then 1#32 else 0#32) ^^^ (if v.getLsbD 0 then 1#32 else 0#32)) by ac_rfl]
    simp
  rw [e, stp_xor]
  congr 1
  rw [stp_low (by rw [BitVec.getLsbD_xor]; cases v.getLsbD 0 <;> simp)]
  rw [BitVec.ushiftRight_xor_distrib]
  cases v.getLsbD 0 <;> simp

/-- The low bits of a number, the lowest first. -/
def lows : Nat → BitVec 32 → List Bool
  | 0, _ => []
  | n + 1, v => v.getLsbD 0 :: lows n (v >>> 1)

theorem stpN_succ' (n : Nat) (s : BitVec 32) : stpN (n + 1) s = stpN n (stp s) := by
  induction n with
  | zero => rfl
  | succ n ih => rw [stpN, ih]; rfl

theorem stpN_lows (n : Nat) (s v : BitVec 32) : stpN n (s ^^^ v) = bfold s (lows n v) ^^^ (v >>> n) := by
  induction n generalizing s v with
  | zero => simp [stpN, bfold, lows]
  | succ n ih =>
    rw [stpN_succ', stp_split, ih, lows]
    show bfold _ _ ^^^ _ = bfold (bst s (v.getLsbD 0)) (lows n (v >>> 1)) ^^^ _
    rw [← BitVec.shiftRight_add, Nat.add_comm]

/-- The bits of bytes. -/
def bitsOf (zs : List Int) : List Bool := zs.flatMap fun z => lows 8 (BitVec.ofInt 32 z)

theorem byt_bits (s : BitVec 32) (z : Int) (h : 0 ≤ z ∧ z ≤ 255) : byt s z = bfold s (lows 8 (BitVec.ofInt 32 z)) := by
  unfold byt
  rw [stpN_lows]
  have : (BitVec.ofInt 32 z) >>> 8 = 0#32 := by
    obtain ⟨n, rfl⟩ := Int.eq_ofNat_of_zero_le h.1
    apply BitVec.eq_of_toNat_eq
    simp [BitVec.toNat_ushiftRight, BitVec.ofInt_natCast, Nat.shiftRight_eq_div_pow]
    omega
  rw [this]; simp

theorem reg_bits (s : BitVec 32) (zs : List Int) (h : ∀ z ∈ zs, 0 ≤ z ∧ z ≤ 255) : reg s zs = bfold s (bitsOf zs) := by
  induction zs generalizing s with
  | nil => rfl
  | cons z zs ih =>
    rw [bitsOf, List.flatMap_cons, bfold, List.foldl_append]
    show reg (byt s z) zs = bfold (bfold s (lows 8 (BitVec.ofInt 32 z))) (bitsOf zs)
    rw [← byt_bits s z (h z (by simp)), ih _ (fun y hy => h y (by simp [hy]))]

theorem lows_length (n : Nat) (v : BitVec 32) : (lows n v).length = n := by
  induction n generalizing v with
  | zero => rfl
  | succ n ih => simp [lows, ih]

theorem lows_get (n : Nat) (v : BitVec 32) (k : Nat) (h : k < n) : (lows n v)[k]? = some (v.getLsbD k) := by
  induction n generalizing v k with
  | zero => omega
  | succ n ih =>
    cases k with
    | zero => simp [lows]
    | succ k => simp [lows, ih (v >>> 1) k (by omega), Nat.add_comm]

theorem bitsOf_length (zs : List Int) : (bitsOf zs).length = 8 * zs.length := by
  induction zs with
  | nil => rfl
  | cons z zs ih =>
    have : bitsOf (z :: zs) = lows 8 (BitVec.ofInt 32 z) ++ bitsOf zs := rfl
    rw [this, List.length_append, ih, lows_length, List.length_cons]; omega

theorem bitsOf_append (a b : List Int) : bitsOf (a ++ b) = bitsOf a ++ bitsOf b := by simp [bitsOf]

theorem bitsOf_get (zs : List Int) (j : Nat) (h : j < 8 * zs.length) :
    (bitsOf zs)[j]? = some ((BitVec.ofInt 32 (zs.getD (j / 8) 0)).getLsbD (j % 8)) := by
  induction zs generalizing j with
  | nil => simp at h
  | cons z zs ih =>
    have e : bitsOf (z :: zs) = lows 8 (BitVec.ofInt 32 z) ++ bitsOf zs := rfl
    rw [e]
    by_cases hj : j < 8
    · rw [List.getElem?_append_left (by rw [lows_length]; exact hj), lows_get _ _ _ hj]
      have h1 : j / 8 = 0 := by omega
      have h2 : j % 8 = j := by omega
      rw [h1, h2]; rfl
    · rw [List.getElem?_append_right (by rw [lows_length]; omega), lows_length, ih (j - 8) (by simp at h; omega)]
      have h1 : j / 8 = (j - 8) / 8 + 1 := by omega
      have h2 : (j - 8) % 8 = j % 8 := by omega
      rw [h1, h2]; rfl

/-! ### Two lists of bits beside one another -/

theorem bst_xor (s t : BitVec 32) (c d : Bool) : bst s c ^^^ bst t d = bst (s ^^^ t) (c ^^ d) := by
  unfold bst
  rw [← stp_xor]
  congr 1
  rw [show (s ^^^ (if c then 1#32 else 0#32)) ^^^ (t ^^^ (if d then 1#32 else 0#32)) = (s ^^^ t) ^^^ ((if c then 1#32 else 0#32) ^^^ (if d then 1#32 else 0#32)) by ac_rfl]
  cases c <;> cases d <;> simp

theorem bfold_xor (l m : List Bool) (h : l.length = m.length) (s t : BitVec 32) :
    bfold s l ^^^ bfold t m = bfold (s ^^^ t) (List.zipWith (· ^^ ·) l m) := by
  induction l generalizing m s t with
  | nil =>
    cases m with
    | nil => rfl
    | cons => simp at h
  | cons c l ih =>
    cases m with
    | nil => simp at h
    | cons d m =>
      simp only [List.zipWith_cons_cons]
      show bfold (bst s c) l ^^^ bfold (bst t d) m = bfold (bst (s ^^^ t) (c ^^ d)) _
      rw [ih m (by simpa using h), bst_xor]

theorem bst_false_inj {d : BitVec 32} (h : bst d false = 0#32) : d = 0#32 := by
  unfold bst at h
  have := stp_eq_zero h
  simpa using this

theorem bfold_falses_ne {d : BitVec 32} (h : d ≠ 0#32) (n : Nat) : bfold d (List.replicate n false) ≠ 0#32 := by
  induction n generalizing d with
  | zero => exact h
  | succ n ih =>
    rw [List.replicate_succ]
    exact ih (fun hd => h (bst_false_inj hd))

theorem bfold_falses (n : Nat) : bfold 0#32 (List.replicate n false) = 0#32 := by
  induction n with
  | zero => rfl
  | succ n ih => rw [List.replicate_succ]; exact ih

/-- The low bits of an odd pattern, from a register of nought: it isn't nought any more. -/
theorem bfold_lows_ne (n : Nat) (hn : 0 < n) (hn' : n ≤ 32) (v : BitVec 32) (h : v.getLsbD 0 = true) : bfold 0#32 (lows n v) ≠ 0#32 := by
  intro e
  have h1 := stpN_lows n 0#32 v
  rw [e] at h1
  simp only [BitVec.zero_xor] at h1
  -- the shifts of v are v's own shift to the right: so v is a multiple of 2^n
  have h2 : stpN n ((v >>> n) <<< n) = v >>> n := by
    have key : ∀ m, m ≤ n → stpN m ((v >>> n) <<< n) = (v >>> n) <<< (n - m) := by
      intro m
      induction m with
      | zero => intro _; rfl
      | succ m ih =>
        intro hm
        rw [stpN, ih (by omega), stp_low]
        · apply BitVec.eq_of_getLsbD_eq
          intro i hi
          simp only [BitVec.getLsbD_ushiftRight, BitVec.getLsbD_shiftLeft]
          by_cases hc : i < n - (m + 1)
          · have : 1 + i < n - m := by omega
            simp [hc, this]
          · have h3 : ¬ (1 + i < n - m) := by omega
            have h4 : n + (1 + i - (n - m)) = n + (i - (n - (m + 1))) := by omega
            by_cases h5 : 1 + i < 32
            · simp [hc, h3, h5, hi, h4]
            · simp only [h5, hi, hc, decide_true, decide_false, Bool.not_false, Bool.true_and, Bool.false_and]
              have h6 : n + (i - (n - (m + 1))) ≥ 32 := by omega
              exact (BitVec.getLsbD_of_ge v _ h6).symm
        · simp; omega
    have := key n (Nat.le_refl n)
    simpa using this
  have h3 : v = (v >>> n) <<< n := stpN_inj (h1.trans h2.symm)
  rw [h3] at h
  simp at h
  omega

theorem mor_ne_of_burst (zs ys : List Int) (hz : ∀ z ∈ zs, 0 ≤ z ∧ z ≤ 255) (hy : ∀ z ∈ ys, 0 ≤ z ∧ z ≤ 255) (hlen : ys.length = zs.length)
    (pt n : Nat) (v : BitVec 32) (hv : v.getLsbD 0 = true) (hn : 0 < n) (hn' : n ≤ 32)
    (hx : List.zipWith (· ^^ ·) (bitsOf ys) (bitsOf zs) = List.replicate pt false ++ lows n v ++ List.replicate (8 * zs.length - pt - n) false) (s : BitVec 32) :
    mor s ys ≠ mor s zs := by
  intro e
  unfold mor at e
  have e1 : reg (~~~ s) ys = reg (~~~ s) zs := by
    have := congrArg (fun x => ~~~ x) e
    simpa using this
  rw [reg_bits _ _ hz, reg_bits _ _ hy] at e1
  have e2 : bfold (~~~ s) (bitsOf ys) ^^^ bfold (~~~ s) (bitsOf zs) = 0#32 := by rw [e1]; exact BitVec.xor_self
  rw [bfold_xor _ _ (by rw [bitsOf_length, bitsOf_length, hlen]), hx, BitVec.xor_self] at e2
  rw [bfold, List.foldl_append, List.foldl_append] at e2
  change bfold (bfold (bfold 0#32 (List.replicate pt false)) (lows n v)) (List.replicate _ false) = 0#32 at e2
  rw [bfold_falses] at e2
  exact bfold_falses_ne (bfold_lows_ne n hn hn' v hv) _ e2

/-! ### Two bytes exchanged -/

theorem lows_shl (v : BitVec 32) : lows 8 (v <<< 8) = List.replicate 8 false := by
  apply List.ext_getElem?
  intro k
  by_cases hk : k < 8
  · rw [lows_get _ _ _ hk, List.getElem?_replicate, if_pos hk]
    simp [hk]
  · rw [List.getElem?_eq_none (by rw [lows_length]; omega), List.getElem?_eq_none (by simp; omega)]

theorem stpN_shl (z : Int) (h : 0 ≤ z ∧ z ≤ 255) : stpN 8 ((BitVec.ofInt 32 z) <<< 8) = BitVec.ofInt 32 z := by
  have e := stpN_lows 8 0#32 ((BitVec.ofInt 32 z) <<< 8)
  rw [lows_shl, bfold_falses] at e
  simp only [BitVec.zero_xor] at e
  rw [e]
  obtain ⟨n, rfl⟩ := Int.eq_ofNat_of_zero_le h.1
  apply BitVec.eq_of_toNat_eq
  simp [BitVec.toNat_ushiftRight, BitVec.toNat_shiftLeft, BitVec.ofInt_natCast, Nat.shiftRight_eq_div_pow, Nat.shiftLeft_eq]
  omega

theorem byt_two (s : BitVec 32) (x y : Int) (hy : 0 ≤ y ∧ y ≤ 255) :
    byt (byt s x) y = stpN 8 (stpN 8 (s ^^^ BitVec.ofInt 32 x ^^^ (BitVec.ofInt 32 y <<< 8))) := by
  unfold byt
  rw [stpN_xor 8 (s ^^^ BitVec.ofInt 32 x) (BitVec.ofInt 32 y <<< 8), stpN_shl y hy]

theorem byt_swap {s : BitVec 32} {x y : Int} (hx : 0 ≤ x ∧ x ≤ 255) (hy : 0 ≤ y ∧ y ≤ 255) (h : byt (byt s x) y = byt (byt s y) x) : x = y := by
  rw [byt_two s x y hy, byt_two s y x hx] at h
  have h1 := stpN_inj (stpN_inj h)
  have h2 : BitVec.ofInt 32 x ^^^ (BitVec.ofInt 32 y <<< 8) = BitVec.ofInt 32 y ^^^ (BitVec.ofInt 32 x <<< 8) := by
    have := congrArg (fun t => s ^^^ t) h1
    simpa [← BitVec.xor_assoc] using this
  obtain ⟨m, rfl⟩ := Int.eq_ofNat_of_zero_le hx.1
  obtain ⟨n, rfl⟩ := Int.eq_ofNat_of_zero_le hy.1
  have hm : m < 256 := by omega
  have hn : n < 256 := by omega
  congr 1
  apply Nat.eq_of_testBit_eq
  intro k
  by_cases hk : k < 8
  · have h3 := congrArg (fun t => t.getLsbD k) h2
    simp only [BitVec.getLsbD_xor, BitVec.getLsbD_shiftLeft, BitVec.ofInt_natCast, BitVec.getLsbD_ofNat] at h3
    have : k < 32 := by omega
    simpa [hk, this] using h3
  · rw [Nat.testBit_lt_two_pow (Nat.lt_of_lt_of_le hm (by rw [show 256 = 2 ^ 8 by rfl]; exact Nat.pow_le_pow_right (by omega) (by omega))),
      Nat.testBit_lt_two_pow (Nat.lt_of_lt_of_le hn (by rw [show 256 = 2 ^ 8 by rfl]; exact Nat.pow_le_pow_right (by omega) (by omega)))]

theorem mor_swap (s : BitVec 32) (l r : List Int) (x y : Int) (hx : 0 ≤ x ∧ x ≤ 255) (hy : 0 ≤ y ∧ y ≤ 255) :
    mor s (l ++ y :: x :: r) = mor s (l ++ x :: y :: r) ↔ x = y := by
  constructor
  · intro h
    rw [show l ++ y :: x :: r = (l ++ [y, x]) ++ r by simp, show l ++ x :: y :: r = (l ++ [x, y]) ++ r by simp, mor_append s (l ++ [y, x]), mor_append s (l ++ [x, y])] at h
    have h1 := mor_inj _ h
    rw [mor_append, mor_append] at h1
    unfold mor at h1
    have h2 := congrArg (fun t => ~~~ t) h1
    simp only [BitVec.not_not] at h2
    exact byt_swap hx hy h2.symm
  · rintro rfl; rfl

theorem set_two (bs : List Int) (i : Nat) (h : i + 1 < bs.length) :
    bs = bs.take i ++ bs.getD i 0 :: bs.getD (i + 1) 0 :: bs.drop (i + 2) ∧
    (bs.set i (bs.getD (i + 1) 0)).set (i + 1) (bs.getD i 0) = bs.take i ++ bs.getD (i + 1) 0 :: bs.getD i 0 :: bs.drop (i + 2) := by
  have e : bs = bs.take i ++ bs.getD i 0 :: bs.getD (i + 1) 0 :: bs.drop (i + 2) := by
    have h1 : bs.drop i = bs.getD i 0 :: bs.drop (i + 1) := by
      rw [List.drop_eq_getElem_cons (by omega)]
      simp [List.getD_eq_getElem?_getD, List.getElem?_eq_getElem (show i < bs.length by omega)]
    have h2 : bs.drop (i + 1) = bs.getD (i + 1) 0 :: bs.drop (i + 2) := by
      rw [List.drop_eq_getElem_cons (by omega)]
      simp [List.getD_eq_getElem?_getD, List.getElem?_eq_getElem h]
    rw [← h2, ← h1, List.take_append_drop]
  refine ⟨e, ?_⟩
  generalize bs.getD i 0 = x at *
  generalize bs.getD (i + 1) 0 = y at *
  have hl : (bs.take i).length = i := by rw [List.length_take]; omega
  generalize bs.take i = l at *
  generalize bs.drop (i + 2) = r at *
  subst e
  subst hl
  rw [List.set_append_right _ _ (Nat.le_refl _), List.set_append_right _ _ (by omega)]
  simp

theorem mor_exchanged (s : BitVec 32) (bs : List Int) (i : Nat) (h : i + 1 < bs.length) (hb : ∀ z ∈ bs, 0 ≤ z ∧ z ≤ 255) :
    mor s ((bs.set i (bs.getD (i + 1) 0)).set (i + 1) (bs.getD i 0)) = mor s bs ↔ bs.getD i 0 = bs.getD (i + 1) 0 := by
  obtain ⟨e1, e2⟩ := set_two bs i h
  have hx : 0 ≤ bs.getD i 0 ∧ bs.getD i 0 ≤ 255 := by
    apply hb
    rw [List.getD_eq_getElem?_getD, List.getElem?_eq_getElem (by omega)]
    exact List.getElem_mem _
  have hy : 0 ≤ bs.getD (i + 1) 0 ∧ bs.getD (i + 1) 0 ≤ 255 := by
    apply hb
    rw [List.getD_eq_getElem?_getD, List.getElem?_eq_getElem h]
    exact List.getElem_mem _
  have := mor_swap s (bs.take i) (bs.drop (i + 2)) (bs.getD i 0) (bs.getD (i + 1) 0) hx hy
  rw [← e2, ← e1] at this
  exact this

/-! ### Bits that are turned -/

/-- Bit j of bytes. -/
def bitAt (zs : List Int) (j : Nat) : Bool := (BitVec.ofInt 32 (zs.getD (j / 8) 0)).getLsbD (j % 8)

theorem bitsOf_at (zs : List Int) (j : Nat) (h : j < 8 * zs.length) : (bitsOf zs)[j]? = some (bitAt zs j) := bitsOf_get zs j h

/-- A byte with a bit turned. -/
def xb (y : Int) (m : Nat) : Int := ((BitVec.ofInt 8 y ^^^ BitVec.ofInt 8 (2 ^ m)).toNat : Int)

theorem xb_range (y : Int) (m : Nat) : 0 ≤ xb y m ∧ xb y m ≤ 255 := by
  have := (BitVec.ofInt 8 y ^^^ BitVec.ofInt 8 (2 ^ m)).isLt
  unfold xb
  omega

theorem xb_bit (y : Int) (hy : 0 ≤ y ∧ y ≤ 255) (m i : Nat) (hm : m < 8) (hi : i < 8) :
    (BitVec.ofInt 32 (xb y m)).getLsbD i = ((BitVec.ofInt 32 y).getLsbD i ^^ decide (i = m)) := by
  obtain ⟨n, rfl⟩ := Int.eq_ofNat_of_zero_le hy.1
  unfold xb
  rw [BitVec.ofInt_natCast, BitVec.ofInt_natCast, BitVec.ofInt_natCast, show (2 : Int) ^ m = ((2 ^ m : Nat) : Int) by simp, BitVec.ofInt_natCast]
  rw [BitVec.getLsbD_ofNat, BitVec.getLsbD_ofNat, BitVec.toNat_xor, Nat.testBit_xor, BitVec.toNat_ofNat, BitVec.toNat_ofNat]
  rw [Nat.mod_eq_of_lt (show n < 2 ^ 8 by omega), Nat.mod_eq_of_lt (Nat.pow_lt_pow_right (by omega) hm), Nat.testBit_two_pow]
  have h32 : i < 32 := by omega
  by_cases h : i = m
  · subst h; simp [h32]
  · have h' : m ≠ i := fun e => h e.symm
    simp [h32, h, h']

/-- What Turn has made of zs behind k rounds. -/
def Turned (zs ys : List Int) (pt : Nat) (p : BitVec 32) (k : Nat) : Prop :=
  ys.length = zs.length ∧ (∀ y ∈ ys, 0 ≤ y ∧ y ≤ 255) ∧ ∀ j, j < 8 * zs.length → bitAt ys j = (bitAt zs j ^^ (decide (pt ≤ j ∧ j < pt + k) && p.getLsbD (j - pt)))

theorem turned_zero (zs : List Int) (pt : Nat) (p : BitVec 32) (h : ∀ y ∈ zs, 0 ≤ y ∧ y ≤ 255) : Turned zs zs pt p 0 := by
  refine ⟨rfl, h, fun j _ => ?_⟩
  rw [decide_eq_false (show ¬ (pt ≤ j ∧ j < pt + 0) by omega)]
  simp

theorem turned_skip {zs ys : List Int} {pt : Nat} {p : BitVec 32} {k : Nat} (h : Turned zs ys pt p k) (hk : p.getLsbD k = false ∨ 8 * zs.length ≤ pt + k) : Turned zs ys pt p (k + 1) := by
  obtain ⟨h1, h2, h3⟩ := h
  refine ⟨h1, h2, fun j hj => ?_⟩
  rw [h3 j hj]
  congr 1
  by_cases hc : j = pt + k
  · subst hc
    rcases hk with hk | hk
    · simp [hk]
    · omega
  · have : (pt ≤ j ∧ j < pt + k) ↔ (pt ≤ j ∧ j < pt + (k + 1)) := by omega
    simp only [this]

theorem turned_flip {zs ys : List Int} {pt : Nat} {p : BitVec 32} {k : Nat} (h : Turned zs ys pt p k) (hk : p.getLsbD k = true) (hin : pt + k < 8 * zs.length) :
    Turned zs (ys.set ((pt + k) / 8) (xb (ys.getD ((pt + k) / 8) 0) ((pt + k) % 8))) pt p (k + 1) := by
  obtain ⟨h1, h2, h3⟩ := h
  have hlt : (pt + k) / 8 < ys.length := by omega
  have hy : 0 ≤ ys.getD ((pt + k) / 8) 0 ∧ ys.getD ((pt + k) / 8) 0 ≤ 255 := by
    apply h2
    rw [List.getD_eq_getElem?_getD, List.getElem?_eq_getElem hlt]
    exact List.getElem_mem _
  refine ⟨by rw [List.length_set, h1], fun y hm => ?_, fun j hj => ?_⟩
  · rcases List.mem_or_eq_of_mem_set hm with hm | rfl
    · exact h2 y hm
    · exact xb_range _ _
  · by_cases hb : j / 8 = (pt + k) / 8
    · have e : bitAt (ys.set ((pt + k) / 8) (xb (ys.getD ((pt + k) / 8) 0) ((pt + k) % 8))) j = (bitAt ys j ^^ decide (j % 8 = (pt + k) % 8)) := by
        unfold bitAt
        rw [hb, ← xb_bit _ hy _ _ (Nat.mod_lt _ (by omega)) (Nat.mod_lt _ (by omega))]
        rw [List.getD_eq_getElem?_getD (l := ys.set _ _), List.getElem?_set_self hlt]; rfl
      rw [e, h3 j hj, Bool.xor_assoc]
      congr 1
      by_cases hc : j = pt + k
      · subst hc
        simp [hk]
      · have h4 : ¬ j % 8 = (pt + k) % 8 := by omega
        have h5 : (pt ≤ j ∧ j < pt + k) ↔ (pt ≤ j ∧ j < pt + (k + 1)) := by omega
        simp only [h4, h5, decide_false, Bool.xor_false]
    · have e : bitAt (ys.set ((pt + k) / 8) (xb (ys.getD ((pt + k) / 8) 0) ((pt + k) % 8))) j = bitAt ys j := by
        unfold bitAt
        rw [List.getD_eq_getElem?_getD, List.getElem?_set_ne (fun e => hb e.symm), ← List.getD_eq_getElem?_getD]
      rw [e, h3 j hj]
      congr 1
      have h4 : ¬ j = pt + k := fun e => hb (by rw [e])
      have h5 : (pt ≤ j ∧ j < pt + k) ↔ (pt ≤ j ∧ j < pt + (k + 1)) := by omega
      simp only [h5]

theorem turned_ne {zs ys : List Int} {pt : Nat} {p : BitVec 32} (h : Turned zs ys pt p 32) (hz : ∀ y ∈ zs, 0 ≤ y ∧ y ≤ 255) (hp : p.getLsbD 0 = true) (hin : pt < 8 * zs.length) (s : BitVec 32) :
    mor s ys ≠ mor s zs := by
  obtain ⟨h1, h2, h3⟩ := h
  refine mor_ne_of_burst zs ys hz h2 h1 pt (min 32 (8 * zs.length - pt)) p hp (by omega) (by omega) ?_ s
  apply List.ext_getElem?
  intro j
  by_cases hj : j < 8 * zs.length
  · rw [List.getElem?_zipWith, bitsOf_at ys j (by omega), bitsOf_at zs j hj, h3 j hj]
    simp only
    have e : ((bitAt zs j ^^ (decide (pt ≤ j ∧ j < pt + 32) && p.getLsbD (j - pt))) ^^ bitAt zs j) = (decide (pt ≤ j ∧ j < pt + 32) && p.getLsbD (j - pt)) := by
      cases bitAt zs j <;> cases (decide (pt ≤ j ∧ j < pt + 32) && p.getLsbD (j - pt)) <;> rfl
    rw [e]
    by_cases hlo : j < pt
    · rw [List.getElem?_append_left (by simp [lows_length]; omega), List.getElem?_append_left (by simp; omega), List.getElem?_replicate, if_pos hlo]
      have : ¬ (pt ≤ j ∧ j < pt + 32) := by omega
      simp [this]
    · by_cases hhi : j < pt + min 32 (8 * zs.length - pt)
      · rw [List.getElem?_append_left (by simp [lows_length]; omega), List.getElem?_append_right (by simp; omega), List.length_replicate, lows_get _ _ _ (by omega)]
        have : pt ≤ j ∧ j < pt + 32 := by omega
        simp [this]
      · rw [List.getElem?_append_right (by simp [lows_length]; omega), List.getElem?_replicate, if_pos (by simp [lows_length]; omega)]
        have : ¬ (pt ≤ j ∧ j < pt + 32) := by omega
        simp [this]
  · rw [List.getElem?_eq_none (by rw [List.length_zipWith, bitsOf_length, bitsOf_length]; omega), List.getElem?_eq_none (by simp [lows_length]; omega)]

/-! ### The division, coefficient by coefficient -/

/-- 32 coefficients from place i on, as a register. -/
def win (l : List Bool) (i : Nat) : BitVec 32 := BitVec.ofBoolListLE ((List.range 32).map fun k => l.getD (i + k) false) |>.setWidth 32

theorem win_bit (l : List Bool) (i k : Nat) (h : k < 32) : (win l i).getLsbD k = l.getD (i + k) false := by
  unfold win
  rw [BitVec.getLsbD_setWidth, BitVec.getLsbD_ofBoolListLE]
  simp [h, List.getD_eq_getElem?_getD]

/-- A coefficient is turned. -/
def tog (l : List Bool) (q : Nat) : List Bool := l.set q (!l.getD q false)

/-- The divisor's powers below the highest. -/
def powers : List Nat := [26, 23, 22, 16, 12, 11, 10, 8, 7, 5, 4, 2, 1, 0]

/-- Those that are turned by a round at place i, so many of them. -/
def togs (l : List Bool) (i t : Nat) : List Bool := (powers.take t).foldl (fun l p => tog l (i + 32 - p)) l

/-- A round. -/
def divRound (l : List Bool) (i : Nat) : List Bool := if l.getD i false then togs l i 14 else l

/-- So many rounds. -/
def divTo (l : List Bool) : Nat → List Bool
  | 0 => l
  | i + 1 => divRound (divTo l i) i

theorem tog_length (l : List Bool) (q : Nat) : (tog l q).length = l.length := by simp [tog]

theorem togs_length (l : List Bool) (i t : Nat) : (togs l i t).length = l.length := by
  unfold togs
  generalize powers.take t = ps
  induction ps generalizing l with
  | nil => rfl
  | cons p ps ih => rw [List.foldl_cons, ih, tog_length]

theorem divRound_length (l : List Bool) (i : Nat) : (divRound l i).length = l.length := by
  unfold divRound; split
  · exact togs_length _ _ _
  · rfl

theorem divTo_length (l : List Bool) (i : Nat) : (divTo l i).length = l.length := by
  induction i with
  | zero => rfl
  | succ i ih => rw [divTo, divRound_length, ih]

theorem tog_get (l : List Bool) (q j : Nat) (h : q < l.length) : (tog l q).getD j false = (l.getD j false ^^ decide (j = q)) := by
  unfold tog
  by_cases e : j = q
  · subst e
    rw [List.getD_eq_getElem?_getD (l := l.set _ _), List.getElem?_set_self h]
    simp
  · rw [List.getD_eq_getElem?_getD (l := l.set _ _), List.getElem?_set_ne (fun x => e x.symm), ← List.getD_eq_getElem?_getD]
    simp [e]

theorem foldl_tog_get (ps : List Nat) (l : List Bool) (i j : Nat) (h : ∀ p ∈ ps, i + 32 - p < l.length) :
    (ps.foldl (fun l p => tog l (i + 32 - p)) l).getD j false = (l.getD j false ^^ (ps.filter (fun p => decide (j = i + 32 - p))).foldl (fun b _ => !b) false) := by
  induction ps generalizing l with
  | nil => simp
  | cons p ps ih =>
    rw [List.foldl_cons, ih _ (fun q hq => by rw [tog_length]; exact h q (by simp [hq])), tog_get _ _ _ (h p (by simp))]
    have flip : ∀ (qs : List Nat) (b : Bool), qs.foldl (fun b _ => !b) b = (b ^^ qs.foldl (fun b _ => !b) false) := by
      intro qs
      induction qs with
      | nil => simp
      | cons q qs ihq => intro b; rw [List.foldl_cons, List.foldl_cons, ihq, ihq (!false)]; cases b <;> simp
    by_cases e : j = i + 32 - p
    · rw [List.filter_cons_of_pos (by simpa using e), List.foldl_cons, flip _ (!false), decide_eq_true e]
      cases l.getD j false <;> simp
    · rw [List.filter_cons_of_neg (by simpa using e), decide_eq_false e]
      simp

/-- The divisor in the register, bit by bit. -/
theorem poly_bits (k : Nat) (h : k < 32) : (powers.filter (fun p => decide (k + 1 = 32 - p))).foldl (fun b _ => !b) false = (0xEDB88320#32).getLsbD k := by
  have : ∀ k : Fin 32, (powers.filter (fun p => decide (k.val + 1 = 32 - p))).foldl (fun b _ => !b) false = (0xEDB88320#32).getLsbD k.val := by decide +kernel
  exact this ⟨k, h⟩

theorem powers_le : ∀ p ∈ powers, p ≤ 26 := by decide

theorem win_round (l : List Bool) (i : Nat) (h : i + 32 < l.length) :
    win (divRound l i) (i + 1) = stp (win l i) ^^^ (if l.getD (i + 32) false then 1#32 <<< 31 else 0#32) := by
  apply BitVec.eq_of_getLsbD_eq
  intro k hk
  have hround : (divRound l i).getD (i + 1 + k) false = (l.getD (i + 1 + k) false ^^ (l.getD i false && (0xEDB88320#32).getLsbD k)) := by
    unfold divRound
    cases h0 : l.getD i false with
    | false => simp
    | true =>
      rw [if_pos rfl]
      unfold togs
      rw [show powers.take 14 = powers by rfl, foldl_tog_get _ _ _ _ (fun p hp => by have := powers_le p hp; omega), ← poly_bits k hk]
      congr 1
      rw [List.filter_congr (q := fun p => decide (k + 1 = 32 - p))]
      · simp
      · intro p hp
        have := powers_le p hp
        have e : (i + 1 + k = i + 32 - p) ↔ (k + 1 = 32 - p) := by omega
        simp only [e]
  rw [win_bit _ _ _ hk, hround, BitVec.getLsbD_xor]
  have hs : (stp (win l i)).getLsbD k = ((if k = 31 then false else l.getD (i + 1 + k) false) ^^ (l.getD i false && (0xEDB88320#32).getLsbD k)) := by
    unfold stp
    rw [win_bit l i 0 (by omega), Nat.add_zero]
    have hsh : ((win l i) >>> 1).getLsbD k = if k = 31 then false else l.getD (i + 1 + k) false := by
      rw [BitVec.getLsbD_ushiftRight]
      by_cases e : k = 31
      · rw [if_pos e]; exact BitVec.getLsbD_of_ge _ _ (by omega)
      · rw [if_neg e, win_bit _ _ _ (by omega), Nat.add_assoc]
    cases l.getD i false with
    | false => simp [hsh]
    | true => simp only [if_true]; rw [BitVec.getLsbD_xor, hsh]; simp
  rw [hs]
  by_cases e : k = 31
  · subst e
    rw [if_pos rfl, show i + 1 + 31 = i + 32 by omega]
    cases l.getD (i + 32) false <;> cases (l.getD i false && (0xEDB88320#32).getLsbD 31) <;> simp
  · rw [if_neg e]
    cases l.getD (i + 32) false with
    | false => simp
    | true =>
      have : ((1#32 <<< 31).getLsbD k) = false := by
        rw [BitVec.getLsbD_shiftLeft]
        have : k < 31 := by omega
        simp [this]
      simp only [if_true]
      rw [this, Bool.xor_false]

theorem divTo_far (l : List Bool) (i j : Nat) (hl : i + 32 ≤ l.length) (h : i + 32 ≤ j) : (divTo l i).getD j false = l.getD j false := by
  induction i with
  | zero => rfl
  | succ i ih =>
    rw [divTo, divRound]
    split
    · unfold togs
      rw [show powers.take 14 = powers by rfl, foldl_tog_get _ _ _ _ (fun p hp => by rw [divTo_length]; have := powers_le p hp; omega)]
      have : powers.filter (fun p => decide (j = i + 32 - p)) = [] := by
        apply List.filter_eq_nil_iff.2
        intro p hp
        simp; omega
      rw [this, List.foldl_nil, Bool.xor_false]
      exact ih (by omega) (by omega)
    · exact ih (by omega) (by omega)

/-- The window of a list whose first 32 places are met by a register. -/
theorem win_next (l : List Bool) (i : Nat) : win l (i + 1) = (win l i >>> 1) ^^^ (if l.getD (i + 32) false then 1#32 <<< 31 else 0#32) := by
  apply BitVec.eq_of_getLsbD_eq
  intro k hk
  rw [win_bit _ _ _ hk, BitVec.getLsbD_xor, BitVec.getLsbD_ushiftRight]
  by_cases e : k = 31
  · subst e
    rw [BitVec.getLsbD_of_ge _ (1 + 31) (by omega), show i + 1 + 31 = i + 32 by omega]
    cases l.getD (i + 32) false <;> simp
  · rw [win_bit _ _ _ (by omega), show i + (1 + k) = i + 1 + k by omega]
    cases l.getD (i + 32) false with
    | false => simp
    | true =>
      have : ((1#32 <<< 31).getLsbD k) = false := by
        rw [BitVec.getLsbD_shiftLeft]
        have : k < 31 := by omega
        simp [this]
      simp only [if_true]
      rw [this, Bool.xor_false]

/-- m: the message's bits and 32 zeros; l: the same, its first 32 places met by s. The window of what the division has made is the register met by the message's window. -/
theorem win_divTo (s : BitVec 32) (m l : List Bool) (hlen : l.length = m.length) (h0 : win l 0 = s ^^^ win m 0) (hfar : ∀ j, 32 ≤ j → l.getD j false = m.getD j false)
    (i : Nat) (hi : i + 32 ≤ m.length) : win (divTo l i) i = bfold s (m.take i) ^^^ win m i := by
  induction i with
  | zero => simpa [divTo, bfold] using h0
  | succ i ih =>
    rw [divTo, win_round _ _ (by rw [divTo_length]; omega), ih (by omega), stp_split, win_bit _ _ _ (by omega), Nat.add_zero, divTo_far l i (i + 32) (by omega) (by omega), hfar (i + 32) (by omega), win_next m i]
    have e : m.take (i + 1) = m.take i ++ [m.getD i false] := by
      rw [List.take_add_one, List.getD_eq_getElem?_getD, List.getElem?_eq_getElem (show i < m.length by omega)]; rfl
    rw [e]
    rw [show bfold s (m.take i ++ [m.getD i false]) = bst (bfold s (m.take i)) (m.getD i false) by simp [bfold]]
    rw [BitVec.xor_assoc]

/-- What the division leaves, all turned. -/
def left (l : List Bool) : BitVec 32 := ~~~ (win (divTo l (l.length - 32)) (l.length - 32))

theorem left_mor (s : BitVec 32) (zs : List Int) (hz : ∀ z ∈ zs, 0 ≤ z ∧ z ≤ 255) (l : List Bool) (hlen : l.length = 8 * zs.length + 32)
    (h0 : ∀ j, j < 32 → l.getD j false = ((bitsOf zs ++ List.replicate 32 false).getD j false ^^ !s.getLsbD j))
    (hfar : ∀ j, 32 ≤ j → l.getD j false = (bitsOf zs ++ List.replicate 32 false).getD j false) : left l = mor s zs := by
  unfold left mor
  have hm : (bitsOf zs ++ List.replicate 32 false).length = 8 * zs.length + 32 := by rw [List.length_append, bitsOf_length, List.length_replicate]
  rw [reg_bits _ _ hz, hlen, show 8 * zs.length + 32 - 32 = 8 * zs.length by omega]
  rw [win_divTo (~~~ s) (bitsOf zs ++ List.replicate 32 false) l (by rw [hm, hlen]) ?_ hfar _ (by omega)]
  · congr 1
    have e1 : (bitsOf zs ++ List.replicate 32 false).take (8 * zs.length) = bitsOf zs := by
      rw [← bitsOf_length, List.take_left]
    have e2 : win (bitsOf zs ++ List.replicate 32 false) (8 * zs.length) = 0#32 := by
      apply BitVec.eq_of_getLsbD_eq
      intro k hk
      rw [win_bit _ _ _ hk, List.getD_eq_getElem?_getD, List.getElem?_append_right (by rw [bitsOf_length]; omega), bitsOf_length, List.getElem?_replicate]
      simp
      split <;> rfl
    rw [e1, e2]; simp
  · apply BitVec.eq_of_getLsbD_eq
    intro k hk
    rw [win_bit _ _ _ hk, BitVec.getLsbD_xor, win_bit _ _ _ hk, Nat.zero_add, h0 k hk, BitVec.getLsbD_not]
    simp only [hk, decide_true, Bool.true_and]
    rw [Bool.xor_comm]

/-- The first places met by a register, so many of them. -/
def metTo (s : BitVec 32) (m : List Bool) : Nat → List Bool
  | 0 => m
  | k + 1 => if s.getLsbD k then metTo s m k else tog (metTo s m k) k

theorem metTo_length (s : BitVec 32) (m : List Bool) (k : Nat) : (metTo s m k).length = m.length := by
  induction k with
  | zero => rfl
  | succ k ih =>
    rw [metTo]
    split
    · exact ih
    · rw [tog_length, ih]

theorem metTo_get (s : BitVec 32) (m : List Bool) (k : Nat) (hk : k ≤ m.length) (j : Nat) : (metTo s m k).getD j false = (m.getD j false ^^ (decide (j < k) && !s.getLsbD j)) := by
  induction k with
  | zero => simp [metTo]
  | succ k ih =>
    rw [metTo]
    by_cases e : j = k
    · subst e
      cases h : s.getLsbD j with
      | true => rw [if_pos rfl, ih (by omega)]; simp
      | false =>
        rw [if_neg (by simp), tog_get _ _ _ (by rw [metTo_length]; omega), ih (by omega)]
        simp
    · have h2 : decide (j < k + 1) = decide (j < k) := by
        have : (j < k + 1) ↔ (j < k) := by omega
        simp only [this]
      rw [h2]
      cases h : s.getLsbD k with
      | true => rw [if_pos rfl, ih (by omega)]
      | false =>
        rw [if_neg (by simp), tog_get _ _ _ (by rw [metTo_length]; omega), ih (by omega), decide_eq_false e, Bool.xor_false]

theorem left_metTo (s : BitVec 32) (zs : List Int) (hz : ∀ z ∈ zs, 0 ≤ z ∧ z ≤ 255) : left (metTo s (bitsOf zs ++ List.replicate 32 false) 32) = mor s zs := by
  have hl : (bitsOf zs ++ List.replicate 32 false).length = 8 * zs.length + 32 := by rw [List.length_append, bitsOf_length, List.length_replicate]
  refine left_mor s zs hz _ (by rw [metTo_length, hl]) (fun j hj => ?_) (fun j hj => ?_)
  · rw [metTo_get _ _ _ (by omega), decide_eq_true hj, Bool.true_and]
  · rw [metTo_get _ _ _ (by omega), decide_eq_false (by omega), Bool.false_and, Bool.xor_false]

theorem awake_sum : mor 0#32 [49, 50, 51, 52, 53, 54, 55, 56, 57] = 0xCBF43926#32 := by decide +kernel

end Go.Proofs.Ytjeiakfdjbnkaaa.Crc
