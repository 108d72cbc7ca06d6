/- The field with 256 elements: products by tables, by bits, and their laws. -/
namespace Go.AI
/-- The powers of 2 and the logarithms, eight bits each. -/
def powP : Nat := 70160881166704368827218703435136616750530459438269794890424969378298545675077208731798828898087927652446353395360628748027273188182808436399538186061104243134188885576122562338679313492324190829158544377810568631194580132524405266702234305646236648896994794467054525044798919765581988418950285252905306116225263236585714808161311289784028762024137133735135393922581566890382566480334369299400480864790538739986285574563168380416343369614948461817839620668187777978661530364712890858126432457562886306102556561631759900551331094983229723298224611133722330829711659991602983068895685602467964643306841827719562658305
def logP : Nat := 22135253156888987530748098150270024343632497605293634117281264061560962248099620766229961468867162294233796152347975563017024165690400661622462404646302566225833645086064538892198543335321514950294300187779610338557442029018619797274438901674641748676613670242915365385819254959901651105240253464034662486586186382979728982817772067067513442677601938078891989292316012868233806586592927239821351197800766822366321181463280924672822998103315976779850880337712374790938628529953751181886374687897611504386983350015558142994211516619836411558782076806704747441947939324473761869443721989389604670425385080942269787340800
def powN (i : Nat) : Nat := (powP >>> (8 * i)) % 256
def logN (a : Nat) : Nat := (logP >>> (8 * a)) % 256
def mulN (a b : Nat) : Nat := bif a == 0 || b == 0 then 0 else powN ((logN a + logN b) % 255)
def xtN (a : Nat) : Nat := bif decide (2 * a < 256) then 2 * a else (2 * a) ^^^ 285
def clN : Nat → Nat → Nat → Nat
  | 0, _, _ => 0
  | k + 1, a, b => (bif b.testBit 0 then a else 0) ^^^ clN k (xtN a) (b >>> 1)
def allB (n : Nat) (p : Nat → Bool) : Bool := Nat.rec true (fun i r => p i && r) n
theorem allB_iff {n : Nat} {p : Nat → Bool} (h : allB n p = true) : ∀ i, i < n → p i = true := by
  induction n with
  | zero => intro i hi; omega
  | succ n ih =>
    have h' : (p n && allB n p) = true := h
    rw [Bool.and_eq_true] at h'
    intro i hi
    by_cases e : i = n
    · subst e; exact h'.1
    · exact ih h'.2 i (by omega)
theorem mul_cl_all : (allB 256 fun a => allB 256 fun b => mulN a b == clN 8 a b) = true := by decide +kernel
theorem pow_log_all : (allB 256 fun a => a == 0 || (powN (logN a) == a && decide (logN a < 255))) = true := by decide +kernel
theorem log_pow_all : (allB 255 fun i => (logN (powN i) == i) && decide (powN i < 256) && !(powN i == 0)) = true := by decide +kernel

theorem mul_cl {a b : Nat} (ha : a < 256) (hb : b < 256) : mulN a b = clN 8 a b := by
  have := allB_iff (allB_iff mul_cl_all a ha) b hb
  simpa using this
theorem pow_log {a : Nat} (ha : a < 256) (h0 : a ≠ 0) : powN (logN a) = a ∧ logN a < 255 := by
  have := allB_iff pow_log_all a ha
  simpa [h0] using this
theorem log_pow {i : Nat} (hi : i < 255) : logN (powN i) = i ∧ powN i < 256 ∧ powN i ≠ 0 := by
  have := allB_iff log_pow_all i hi
  simp only [Bool.and_eq_true, beq_iff_eq, decide_eq_true_eq, Bool.not_eq_true', beq_eq_false_iff_ne, ne_eq] at this
  exact ⟨this.1.1, this.1.2, this.2⟩
theorem cl_xor : ∀ (k a b c : Nat), clN k a (b ^^^ c) = clN k a b ^^^ clN k a c
  | 0, _, _, _ => by rw [clN, clN, clN, Nat.xor_self]
  | k + 1, a, b, c => by
    rw [clN, clN, clN, Nat.testBit_xor, Nat.shiftRight_xor_distrib, cl_xor k]
    cases b.testBit 0 <;> cases c.testBit 0 <;> simp only [Bool.false_bne, Bool.true_bne, Bool.not_false, cond_true, cond_false, bne_self_eq_false, Nat.zero_xor]
    · ac_rfl
    · ac_rfl
    · rw [show (a ^^^ clN k (xtN a) (b >>> 1)) ^^^ (a ^^^ clN k (xtN a) (c >>> 1)) = (a ^^^ a) ^^^ (clN k (xtN a) (b >>> 1) ^^^ clN k (xtN a) (c >>> 1)) by ac_rfl, Nat.xor_self, Nat.zero_xor]
theorem mulN_lt (a b : Nat) : mulN a b < 256 := by
  unfold mulN powN
  cases a == 0 || b == 0
  · exact Nat.mod_lt _ (by omega)
  · exact Nat.zero_lt_succ _
theorem mulN_comm (a b : Nat) : mulN a b = mulN b a := by
  unfold mulN
  rw [Bool.or_comm, Nat.add_comm]
theorem mulN_zero (a : Nat) : mulN a 0 = 0 := by simp [mulN]
theorem mulN_xor {a b c : Nat} (ha : a < 256) (hb : b < 256) (hc : c < 256) : mulN a (b ^^^ c) = mulN a b ^^^ mulN a c := by
  rw [mul_cl ha hb, mul_cl ha hc, mul_cl ha (Nat.xor_lt_two_pow (n := 8) hb hc), cl_xor]
theorem mulN_nz {a b : Nat} (h1 : a ≠ 0) (h2 : b ≠ 0) : mulN a b = powN ((logN a + logN b) % 255) := by
  unfold mulN
  rw [show (a == 0) = false from beq_eq_false_iff_ne.2 h1, show (b == 0) = false from beq_eq_false_iff_ne.2 h2]; rfl
theorem mulN_assoc {a b c : Nat} : mulN (mulN a b) c = mulN a (mulN b c) := by
  by_cases h1 : a = 0
  · subst h1; simp [mulN]
  by_cases h2 : b = 0
  · subst h2; simp [mulN]
  by_cases h3 : c = 0
  · subst h3; simp [mulN]
  have p1 := log_pow (i := (logN a + logN b) % 255) (Nat.mod_lt _ (by omega))
  have p2 := log_pow (i := (logN b + logN c) % 255) (Nat.mod_lt _ (by omega))
  rw [mulN_nz h1 h2, mulN_nz h2 h3, mulN_nz p1.2.2 h3, mulN_nz h1 p2.2.2, p1.1, p2.1]
  congr 1; omega
theorem log_one : logN 1 = 0 := by decide +kernel
theorem mulN_one {a : Nat} (ha : a < 256) : mulN a 1 = a := by
  by_cases h : a = 0
  · subst h; rfl
  · have := pow_log ha h
    rw [mulN_nz h (by omega), log_one, Nat.add_zero, Nat.mod_eq_of_lt this.2, this.1]
def invN (a : Nat) : Nat := powN ((255 - logN a) % 255)
theorem mulN_inv {a : Nat} (ha : a < 256) (h : a ≠ 0) : mulN a (invN a) = 1 := by
  have h1 := pow_log ha h
  have p := log_pow (i := (255 - logN a) % 255) (Nat.mod_lt _ (by omega))
  unfold invN
  rw [mulN_nz h p.2.2, p.1]
  have e : (logN a + (255 - logN a) % 255) % 255 = 0 := by omega
  rw [e]; rfl
end Go.AI
