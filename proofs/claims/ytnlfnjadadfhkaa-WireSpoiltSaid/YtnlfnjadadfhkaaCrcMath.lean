/-
  The plain law of the sum (layer 2): shifts of a sum, by Nat and exclusive or. No program in sight.
-/
namespace Go.Proofs.Ytnlfnjadadfhkaa.Crc

/-- a sum, shifted once -/
def sh (c : Nat) : Nat := (c / 2) ^^^ (if c % 2 = 1 then 2197175160 else 0)
/-- four times -/
def sh4 (c : Nat) : Nat := sh (sh (sh (sh c)))
/-- eight times -/
def sh8 (c : Nat) : Nat := sh4 (sh4 c)
/-- a byte more -/
def stepB (c : Nat) (x : UInt8) : Nat := sh8 (c ^^^ x.toNat)
/-- bytes more (of the turned sum) -/
def runB (c : Nat) (bs : List UInt8) : Nat := bs.foldl stepB c
/-- bytes more -/
def more (s : Nat) (bs : List UInt8) : Nat := 4294967295 - runB (4294967295 - s) bs

theorem xor_half (a b : Nat) : (a ^^^ b) / 2 = (a / 2) ^^^ (b / 2) := by
  apply Nat.eq_of_testBit_eq; intro i
  simp [Nat.testBit_div_two, Nat.testBit_xor]
theorem xor_par (a b : Nat) : (a ^^^ b) % 2 = (a % 2 + b % 2) % 2 := by
  have h := Nat.testBit_xor a b 0
  simp only [Nat.testBit_zero] at h
  rcases Nat.mod_two_eq_zero_or_one a with ha | ha <;> rcases Nat.mod_two_eq_zero_or_one b with hb | hb <;>
    rcases Nat.mod_two_eq_zero_or_one (a ^^^ b) with hc | hc <;> simp [ha, hb, hc] at h ⊢
theorem sh_xor (a b : Nat) : sh (a ^^^ b) = sh a ^^^ sh b := by
  unfold sh
  rw [xor_half, xor_par]
  rcases Nat.mod_two_eq_zero_or_one a with ha | ha <;> rcases Nat.mod_two_eq_zero_or_one b with hb | hb <;> simp [ha, hb]
  · exact Nat.xor_assoc _ _ _
  · rw [Nat.xor_assoc, Nat.xor_comm (b / 2), ← Nat.xor_assoc]
  · rw [Nat.xor_assoc (a / 2), Nat.xor_comm (b / 2), ← Nat.xor_assoc (2197175160), Nat.xor_self, Nat.zero_xor]
theorem sh4_xor (a b : Nat) : sh4 (a ^^^ b) = sh4 a ^^^ sh4 b := by simp [sh4, sh_xor]
theorem sh8_xor (a b : Nat) : sh8 (a ^^^ b) = sh8 a ^^^ sh8 b := by simp [sh8, sh4_xor]
theorem sh_zero : sh 0 = 0 := rfl
theorem sh8_zero : sh8 0 = 0 := rfl
theorem xor_lt {a b : Nat} (ha : a < 4294967296) (hb : b < 4294967296) : a ^^^ b < 4294967296 := Nat.xor_lt_two_pow (n := 32) ha hb
theorem sh_lt {c : Nat} (h : c < 4294967296) : sh c < 4294967296 := by
  unfold sh; apply xor_lt
  · omega
  · split <;> omega
theorem sh4_lt {c : Nat} (h : c < 4294967296) : sh4 c < 4294967296 := sh_lt (sh_lt (sh_lt (sh_lt h)))
theorem sh8_lt {c : Nat} (h : c < 4294967296) : sh8 c < 4294967296 := sh4_lt (sh4_lt h)
theorem stepB_lt {c : Nat} (h : c < 4294967296) (x : UInt8) : stepB c x < 4294967296 := by
  have hx := x.toNat_lt; exact sh8_lt (xor_lt h (by omega))
theorem runB_lt (bs : List UInt8) : ∀ {c : Nat}, c < 4294967296 → runB c bs < 4294967296 := by
  induction bs with
  | nil => intro c h; exact h
  | cons x r ih => intro c h; exact ih (stepB_lt h x)
theorem more_lt (s : Nat) (bs : List UInt8) : more s bs < 4294967296 := by unfold more; omega
theorem runB_snoc (c : Nat) (bs : List UInt8) (x : UInt8) : runB c (bs ++ [x]) = stepB (runB c bs) x := by simp [runB]
theorem runB_append (c : Nat) (a b : List UInt8) : runB c (a ++ b) = runB (runB c a) b := by simp [runB]

/-- part by part -/
theorem more_append {s : Nat} (hs : s < 4294967296) (a b : List UInt8) : more s (a ++ b) = more (more s a) b := by
  unfold more
  have := runB_lt a (c := 4294967295 - s) (by omega)
  rw [runB_append, Nat.sub_sub_self (by omega)]

/-- a sum that is shifted away to nothing was nothing -/
theorem sh_eq_zero {c : Nat} (h : c < 4294967296) (hz : sh c = 0) : c = 0 := by
  unfold sh at hz
  split at hz
  · rename_i ho
    have e : c / 2 = 2197175160 := by
      have := congrArg (· ^^^ 2197175160) hz
      simpa [Nat.xor_assoc] using this
    omega
  · simp at hz; omega
theorem sh4_eq_zero {c : Nat} (h : c < 4294967296) (hz : sh4 c = 0) : c = 0 :=
  sh_eq_zero h (sh_eq_zero (sh_lt h) (sh_eq_zero (sh_lt (sh_lt h)) (sh_eq_zero (sh_lt (sh_lt (sh_lt h))) hz)))
theorem sh8_eq_zero {c : Nat} (h : c < 4294967296) (hz : sh8 c = 0) : c = 0 := sh4_eq_zero h (sh4_eq_zero (sh4_lt h) hz)
theorem sh_double (c : Nat) : sh (2 * c) = c := by unfold sh; simp
theorem sh4_up (c : Nat) : sh4 (16 * c) = c := by
  have e : 16 * c = 2 * (2 * (2 * (2 * c))) := by omega
  rw [e]; simp [sh4, sh_double]
theorem sh8_up (c : Nat) : sh8 (256 * c) = c := by
  have e : 256 * c = 16 * (16 * c) := by omega
  rw [e]; simp [sh8, sh4_up]

/-- the table of the halves -/
def tab (j : Nat) : Nat := ([0x00000000, 0x105ec76f, 0x20bd8ede, 0x30e349b1, 0x417b1dbc, 0x5125dad3, 0x61c69362, 0x7198540d, 0x82f63b78, 0x92a8fc17, 0xa24bb5a6, 0xb21572c9, 0xc38d26c4, 0xd3d3e1ab, 0xe330a81a, 0xf36e6f75] : List Nat).getD j 0
theorem tab_eq : ∀ j, j < 16 → tab j = sh4 j := by decide +kernel
theorem split16 (c : Nat) : c = (16 * (c / 16)) ^^^ (c % 16) := by
  apply Nat.eq_of_testBit_eq; intro i
  have e1 : 16 * (c / 16) = c / 2 ^ 4 * 2 ^ 4 := by omega
  have e2 : c % 16 = c % 2 ^ 4 := rfl
  rw [Nat.testBit_xor, e1, e2, Nat.testBit_mul_two_pow, Nat.testBit_div_two_pow, Nat.testBit_mod_two_pow]
  by_cases h : i < 4
  · simp [h, show ¬ 4 ≤ i by omega]
  · have : 4 ≤ i := by omega
    simp [h, this]
/-- four shifts by the table -/
theorem half_step (c : Nat) : (c / 16) ^^^ tab (c % 16) = sh4 c := by
  rw [tab_eq _ (Nat.mod_lt _ (by omega))]
  conv => rhs; rw [split16 c, sh4_xor, sh4_up]
theorem tab_lt (j : Nat) : tab j < 4294967296 := by
  by_cases h : j < 16
  · have : ∀ j, j < 16 → tab j < 4294967296 := by decide +kernel
    exact this j h
  · unfold tab; rw [List.getD_eq_getElem?_getD, List.getElem?_eq_none (by simp; omega)]; decide

/-- exclusive or of three rows of as many bytes -/
theorem stepB_xor (c d : Nat) (x y : UInt8) : stepB (c ^^^ d) (x ^^^ y) = stepB c x ^^^ stepB d y := by
  unfold stepB
  rw [← sh8_xor, UInt8.toNat_xor]
  congr 1
  apply Nat.eq_of_testBit_eq; intro i; simp only [Nat.testBit_xor]
  cases c.testBit i <;> cases d.testBit i <;> cases x.toNat.testBit i <;> cases y.toNat.testBit i <;> rfl
theorem runB_xor : ∀ (a b : List UInt8) (c d : Nat), a.length = b.length → runB (c ^^^ d) (a.zipWith (· ^^^ ·) b) = runB c a ^^^ runB d b
  | [], [], c, d, _ => rfl
  | x :: a, y :: b, c, d, h => by
    simp only [runB, List.zipWith_cons_cons, List.foldl_cons]
    rw [stepB_xor]
    exact runB_xor a b _ _ (by simpa using h)
  | [], _ :: _, _, _, h => by simp at h
  | _ :: _, [], _, _, h => by simp at h

/-- the turned sum, by exclusive or -/
theorem turned {n : Nat} (h : n < 4294967296) : 4294967295 - n = 4294967295 ^^^ n := by
  have e : (4294967295 : Nat) = 2 ^ 32 - 1 := rfl
  apply Nat.eq_of_testBit_eq; intro i
  have h1 := Nat.testBit_two_pow_sub_succ (x := n) (n := 32) h i
  have h2 : 2 ^ 32 - (n + 1) = 4294967295 - n := by omega
  rw [h2] at h1
  rw [h1, Nat.testBit_xor, e, Nat.testBit_two_pow_sub_one]
  by_cases hi : i < 32
  · simp [hi]
  · have : n.testBit i = false := Nat.testBit_lt_two_pow (Nat.lt_of_lt_of_le h (by
      have : (4294967296 : Nat) = 2 ^ 32 := rfl
      rw [this]; exact Nat.pow_le_pow_right (by omega) (by omega)))
    simp [hi, this]

/-- sums of three rows taken together -/
theorem more_three (a b c : List UInt8) (h1 : a.length = b.length) (h2 : b.length = c.length) :
    more 0 ((a.zipWith (· ^^^ ·) b).zipWith (· ^^^ ·) c) = more 0 a ^^^ more 0 b ^^^ more 0 c := by
  have hF : (4294967295 : Nat) < 4294967296 := by omega
  have la := runB_lt a (c := 4294967295) hF
  have lb := runB_lt b (c := 4294967295) hF
  have lc := runB_lt c (c := 4294967295) hF
  have l3 := runB_lt ((a.zipWith (· ^^^ ·) b).zipWith (· ^^^ ·) c) (c := 4294967295) hF
  have key : runB 4294967295 ((a.zipWith (· ^^^ ·) b).zipWith (· ^^^ ·) c) = runB 4294967295 a ^^^ runB 4294967295 b ^^^ runB 4294967295 c := by
    have e : (4294967295 : Nat) = (4294967295 ^^^ 4294967295) ^^^ 4294967295 := by simp
    conv => lhs; rw [e]
    rw [runB_xor _ _ _ _ (by simp; omega), runB_xor _ _ _ _ h1]
  unfold more
  simp only [Nat.sub_zero]
  rw [turned l3, turned la, turned lb, turned lc, key]
  apply Nat.eq_of_testBit_eq; intro i; simp only [Nat.testBit_xor]
  cases (4294967295 : Nat).testBit i <;> cases (runB 4294967295 a).testBit i <;> cases (runB 4294967295 b).testBit i <;> cases (runB 4294967295 c).testBit i <;> rfl

/-- what a change leaves: bytes taken together with a change, behind states taken together with another -/
def burst : List UInt8 → Nat → Nat
  | [], d => d
  | e :: r, d => burst r (sh8 (d ^^^ e.toNat))
theorem runB_burst (bs es : List UInt8) (c d : Nat) (h : bs.length = es.length) : runB (c ^^^ d) (bs.zipWith (· ^^^ ·) es) = runB c bs ^^^ burst es d := by
  induction bs generalizing es c d with
  | nil => cases es with
    | nil => rfl
    | cons _ _ => simp at h
  | cons x r ih => cases es with
    | nil => simp at h
    | cons e es =>
      simp only [runB, List.zipWith_cons_cons, List.foldl_cons, burst]
      rw [stepB_xor]
      exact ih es _ _ (by simpa using h)
theorem burst_zero (es : List UInt8) (h : ∀ e ∈ es, e = 0) : burst es 0 = 0 := by
  induction es with
  | nil => rfl
  | cons e r ih =>
    have he := h e (by simp)
    subst he
    simp only [burst]
    exact ih fun e he => h e (by simp [he])
/-- bytes as one number, the first lowest -/
def word : List UInt8 → Nat
  | [] => 0
  | e :: r => e.toNat + 256 * word r
theorem word_lt (es : List UInt8) : word es < 256 ^ es.length := by
  induction es with
  | nil => simp [word]
  | cons e r ih =>
    have he := e.toNat_lt
    simp only [word, List.length_cons, Nat.pow_succ]
    omega
theorem low_xor (e w : Nat) (he : e < 256) : e + 256 * w = e ^^^ (256 * w) := by
  have h1 : e + 256 * w = 256 * w ||| e := by
    have := Nat.two_pow_add_eq_or_of_lt (i := 8) (b := e) he w
    simp only [show (2 : Nat) ^ 8 = 256 from rfl] at this
    omega
  rw [h1]
  apply Nat.eq_of_testBit_eq; intro i
  have e1 : 256 * w = w * 2 ^ 8 := by omega
  rw [Nat.testBit_or, Nat.testBit_xor, e1, Nat.testBit_mul_two_pow]
  by_cases hi : 8 ≤ i
  · have : e.testBit i = false := Nat.testBit_lt_two_pow (Nat.lt_of_lt_of_le he (by
      have : (256 : Nat) = 2 ^ 8 := rfl
      rw [this]; exact Nat.pow_le_pow_right (by omega) hi))
    simp [hi, this]
  · simp [hi]
def shN : Nat → Nat → Nat
  | 0, c => c
  | n + 1, c => shN n (sh8 c)
theorem shN_eq_zero : ∀ (n c : Nat), c < 4294967296 → shN n c = 0 → c = 0
  | 0, _, _, h => h
  | n + 1, _, hc, h => sh8_eq_zero hc (shN_eq_zero n _ (sh8_lt hc) h)
theorem burst_word (es : List UInt8) (d : Nat) : burst es d = shN es.length (d ^^^ word es) := by
  induction es generalizing d with
  | nil => simp [burst, word, shN]
  | cons e r ih =>
    simp only [burst, word, List.length_cons, shN]
    rw [ih, low_xor _ _ e.toNat_lt]
    congr 1
    rw [← Nat.xor_assoc, sh8_xor (d ^^^ e.toNat), sh8_up]
theorem word_zero (es : List UInt8) (h : word es = 0) : ∀ e ∈ es, e = 0 := by
  induction es with
  | nil => simp
  | cons a r ih =>
    simp only [word] at h
    intro e he
    rcases List.mem_cons.1 he with rfl | he
    · exact UInt8.toNat_inj.1 (by simp; omega)
    · exact ih (by omega) e he
theorem burst_shows (es : List UInt8) (hl : es.length ≤ 4) (h : burst es 0 = 0) : ∀ e ∈ es, e = 0 := by
  apply word_zero
  rw [burst_word, Nat.zero_xor] at h
  apply shN_eq_zero _ _ _ h
  have hw := word_lt es
  have : (256 : Nat) ^ es.length ≤ 256 ^ 4 := Nat.pow_le_pow_right (by omega) hl
  have e4 : (256 : Nat) ^ 4 = 4294967296 := by decide
  omega
theorem burst_lt (es : List UInt8) : ∀ {d : Nat}, d < 4294967296 → burst es d < 4294967296 := by
  induction es with
  | nil => intro d h; exact h
  | cons e r ih => intro d h; have he := e.toNat_lt; exact ih (sh8_lt (xor_lt h (by omega)))
theorem burst_keeps (es : List UInt8) (h : ∀ e ∈ es, e = 0) {d : Nat} (hd : d < 4294967296) (hz : burst es d = 0) : d = 0 := by
  induction es generalizing d with
  | nil => exact hz
  | cons e r ih =>
    have he := h e (by simp)
    subst he
    simp only [burst] at hz
    have := ih (fun e he => h e (by simp [he])) (sh8_lt (by simpa using hd)) hz
    simpa using sh8_eq_zero (by simpa using hd) this
theorem burst_append (a b : List UInt8) (d : Nat) : burst (a ++ b) d = burst b (burst a d) := by
  induction a generalizing d with
  | nil => rfl
  | cons e r ih => simp only [List.cons_append, burst]; exact ih _

/-- A CHANGE OF UP TO FOUR BYTES THAT STAND TOGETHER SHOWS: the sums are the same just if nothing was changed -/
theorem bursts (pre mid post es : List UInt8) (h1 : mid.length = es.length) (h4 : es.length ≤ 4) :
    (more 0 (pre ++ mid.zipWith (· ^^^ ·) es ++ post) = more 0 (pre ++ mid ++ post)) ↔ ∀ e ∈ es, e = 0 := by
  have hF : (4294967295 : Nat) < 4294967296 := by omega
  have hp := runB_lt pre (c := 4294967295) hF
  generalize hc : runB 4294967295 pre = c at hp
  have key : runB 4294967295 (pre ++ mid.zipWith (· ^^^ ·) es ++ post) = runB 4294967295 (pre ++ mid ++ post) ^^^ burst (List.replicate post.length 0) (burst es 0) := by
    have e1 := runB_burst mid es c 0 h1
    rw [Nat.xor_zero] at e1
    have e2 := runB_burst post (List.replicate post.length 0) (runB c mid) (burst es 0) (by simp)
    have e3 : post.zipWith (· ^^^ ·) (List.replicate post.length 0) = post := by
      clear e2
      induction post with
      | nil => rfl
      | cons x r ih => simp only [List.length_cons, List.replicate_succ, List.zipWith_cons_cons, ih]; simp
    rw [e3] at e2
    simp only [runB_append, hc]
    rw [e1, e2]
  have l1 := runB_lt (pre ++ mid.zipWith (· ^^^ ·) es ++ post) (c := 4294967295) hF
  have l2 := runB_lt (pre ++ mid ++ post) (c := 4294967295) hF
  constructor
  · intro h
    unfold more at h
    simp only [Nat.sub_zero] at h
    have h' : runB 4294967295 (pre ++ mid.zipWith (· ^^^ ·) es ++ post) = runB 4294967295 (pre ++ mid ++ post) := by omega
    rw [key] at h'
    have hz : burst (List.replicate post.length 0) (burst es 0) = 0 := by
      have := congrArg (runB 4294967295 (pre ++ mid ++ post) ^^^ ·) h'
      simpa [← Nat.xor_assoc] using this
    exact burst_shows es h4 (burst_keeps _ (by simp) (burst_lt es (by omega)) hz)
  · intro h
    unfold more
    simp only [Nat.sub_zero]
    rw [key, burst_zero es h, burst_zero _ (by simp), Nat.xor_zero]

end Go.Proofs.Ytnlfnjadadfhkaa.Crc
