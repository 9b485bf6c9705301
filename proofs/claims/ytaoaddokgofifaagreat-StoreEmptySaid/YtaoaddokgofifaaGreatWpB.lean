/- Slots, memory and single operations, for the logic. -/
import Derived.Test.YtaoaddokgofifaaGreatWpA
namespace Go.Wp
open Go Go.Ev Go.Fv

/-- What a slot holds. -/
def sl (l : List Value) (t : Nat) : Value := l.getD t undef
section
variable {l : List Value} {t t' : Nat} {v : Value}
@[simp] theorem sl_same (h : t < l.length) : sl (l.set t v) t = v := by
  unfold sl
  rw [List.getD_eq_getElem?_getD, List.getElem?_set_self h]; rfl
@[simp] theorem sl_ne (h : t ≠ t') : sl (l.set t v) t' = sl l t' := by
  unfold sl
  rw [List.getD_eq_getElem?_getD, List.getElem?_set_ne h, ← List.getD_eq_getElem?_getD]
theorem put_some (d : Nat) : putL l (some d) v = l.set d v := rfl
theorem put_none : putL l none v = l := rfl
@[simp] theorem env_tmp (t : Nat) : envL l (.tmp t) = sl l t := rfl
@[simp] theorem env_const : envL l (.const v) = v := rfl
@[simp] theorem env_func (f : Nat) : envL l (.func f) = .func (.func f) #[] #[] := rfl
theorem sl_args {a : List Value} {n i : Nat} (h : i < a.length) : sl (a ++ List.replicate n undef) i = a.getD i undef := by
  unfold sl
  rw [List.getD_eq_getElem?_getD, List.getElem?_append_left h, ← List.getD_eq_getElem?_getD]
end

/-! ### memory -/
theorem next_set (H : AH) (b : Nat) (o : AObj) : (H.set b o).next = H.next := rfl
theorem next_kill (H : AH) (b : Nat) : (H.kill b).next = H.next := rfl
theorem next_alloc (H : AH) (o : AObj) : (H.alloc o).next = H.next + 1 := rfl

theorem ah_ext {H H' : AH} (h1 : H.tr = H'.tr) (h2 : H.next = H'.next) : H = H' := by cases H; cases H'; simp_all
theorem alloc_set (H : AH) (o o' : AObj) : (H.alloc o).set H.next o' = H.alloc o' := ah_ext (Tr.set_set ..) rfl
theorem get_alloc (H : AH) (o : AObj) (b : Nat) : (H.alloc o).get b = if b = H.next then some o else H.get b := by
  split
  · rename_i h; subst h; exact AH.get_alloc_same H o
  · rename_i h; exact AH.get_alloc_other H o h
theorem get_set (H : AH) (o : AObj) (k b : Nat) : (H.set k o).get b = if b = k then some o else H.get b := by
  split
  · rename_i h; subst h; exact AH.get_set_same H o _
  · rename_i h; exact AH.get_set_other H o (Ne.symm h)

/-- A loop by what holds at each turn, and a number that falls. -/
theorem W.loop_inv {P : Program} {T : TT} {X : Prims} {a : Code} {Q : Ex → List Value → AH → Prop} (I : Nat → List Value → AH → Prop)
    (step : ∀ d l H, I d l H → W P T X a l H (thenN Q fun l' H' => ∃ d', d' < d ∧ I d' l' H')) : ∀ (d : Nat) (l : List Value) (H : AH), I d l H → W P T X (.loop a) l H Q := by
  intro d
  induction d using Nat.strongRecOn with
  | ind d ih =>
    intro l H h
    refine W.loop ((step d l H h).mono ?_)
    intro e l' H' hq
    cases e with
    | normal =>
      obtain ⟨d', h1, h2⟩ := hq
      exact ih d' h1 l' H' h2
    | exit i => exact hq
    | ret => exact hq

theorem get_kill (H : AH) (k b : Nat) : (H.kill k).get b = if b = k then none else H.get b := by
  split
  · rename_i h; subst h; exact AH.get_kill_same H _
  · rename_i h; exact AH.get_kill_other H (Ne.symm h)

/-- Memory has grown, and what was there is as it was. -/
def Ext (H H' : AH) : Prop := H.next ≤ H'.next ∧ ∀ b, b < H.next → H'.get b = H.get b
theorem Ext.refl (H : AH) : Ext H H := ⟨Nat.le_refl _, fun _ _ => rfl⟩
theorem Ext.trans {H H' H2 : AH} (h : Ext H H') (k : Ext H' H2) : Ext H H2 := ⟨Nat.le_trans h.1 k.1, fun b hb => (k.2 b (Nat.lt_of_lt_of_le hb h.1)).trans (h.2 b hb)⟩
theorem Ext.alloc (H : AH) (o : AObj) : Ext H (H.alloc o) := ⟨Nat.le_succ _, fun _ hb => AH.get_alloc_other H o (Nat.ne_of_lt hb)⟩
theorem Ext.get {H H' : AH} (h : Ext H H') {b : Nat} (hb : b < H.next) {o : Option AObj} (hg : H.get b = o) : H'.get b = o := (h.2 b hb).trans hg
theorem Ext.set {H H' : AH} (h : Ext H H') {k : Nat} {o : AObj} (hk : H.next ≤ k) : Ext H (H'.set k o) := ⟨h.1, fun b hb => (AH.get_set_other H' o (by omega)).trans (h.2 b hb)⟩
theorem Ext.kill {H H' : AH} (h : Ext H H') {k : Nat} (hk : H.next ≤ k) : Ext H (H'.kill k) := ⟨h.1, fun b hb => (AH.get_kill_other H' (by omega)).trans (h.2 b hb)⟩

/-- A part of code that runs on: what holds behind it is all that is carried on. -/
theorem W.cut {P : Program} {T : TT} {X : Prims} {c : Code} {l : List Value} {H : AH} {Q : Ex → List Value → AH → Prop} {K : List Value → AH → Prop} (p : List Value → AH → Prop) (h : W P T X c l H (fun e l' H' => e = .normal ∧ p l' H'))
    (k : ∀ l' H', p l' H' → K l' H') : W P T X c l H (thenN Q K) := h.mono fun e l' H' hq => by
  obtain ⟨rfl, hp⟩ := hq
  exact k l' H' hp
theorem W.cutN {P : Program} {T : TT} {X : Prims} {c : Code} {l : List Value} {H : AH} {Q : Ex → List Value → AH → Prop} (p : List Value → AH → Prop) (h : W P T X c l H (fun e l' H' => e = .normal ∧ p l' H'))
    (k : ∀ l' H', p l' H' → Q .normal l' H') : W P T X c l H Q := h.mono fun e l' H' hq => by
  obtain ⟨rfl, hp⟩ := hq
  exact k l' H' hp

/-! ### numbers -/
section
variable (P : Program) (T : TT) (t : TypeId) (x y : Operand) (k : IntKind) (a b : Int)
theorem bin_lss : binV P T .lss t x y (.int k a) (.int k b) = some (.bool (decide (a < b))) := by
  rw [cmpI_ok (c := .lss) rfl]; simp only [CmpOp.fI, ltI_eq]
theorem bin_gtr : binV P T .gtr t x y (.int k a) (.int k b) = some (.bool (decide (b < a))) := by
  rw [cmpI_ok (c := .gtr) rfl]; simp only [CmpOp.fI, ltI_eq]
theorem bin_leq : binV P T .leq t x y (.int k a) (.int k b) = some (.bool (decide (a ≤ b))) := by
  rw [cmpI_ok (c := .leq) rfl]
  congr 2
  rw [Bool.eq_iff_iff]; simp [CmpOp.fI, ltI_eq]
theorem bin_geq : binV P T .geq t x y (.int k a) (.int k b) = some (.bool (decide (b ≤ a))) := by
  rw [cmpI_ok (c := .geq) rfl]
  congr 2
  rw [Bool.eq_iff_iff]; simp [CmpOp.fI, ltI_eq]
theorem bin_eql : binV P T .eql t x y (.int k a) (.int k b) = some (.bool (decide (a = b))) := by
  rw [cmpI_ok (c := .eql) rfl]
  congr 2
  rw [Bool.eq_iff_iff]; simp [CmpOp.fI, eqI_eq]
theorem bin_neq : binV P T .neq t x y (.int k a) (.int k b) = some (.bool (decide (a ≠ b))) := by
  rw [cmpI_ok (c := .neq) rfl]
  congr 2
  rw [Bool.eq_iff_iff]; simp [CmpOp.fI, eqI_eq]
theorem bin_add : binV P T .add t x y (.int k a) (.int k b) = some (.int k (k.wrap (a + b))) := by
  refine binV_int ?_ rfl
  simp [binOp, Op.intArith]; rfl
theorem bin_sub : binV P T .sub t x y (.int k a) (.int k b) = some (.int k (k.wrap (a - b))) := by
  refine binV_int ?_ rfl
  simp [binOp, Op.intArith]; rfl
theorem bin_mul : binV P T .mul t x y (.int k a) (.int k b) = some (.int k (k.wrap (a * b))) := by
  refine binV_int ?_ rfl
  simp [binOp, Op.intArith]; rfl
theorem bin_or_nat {a b : Nat} (h : Nat.lor a b < limN k) (ha : a < limN k) (hb : b < limN k) : binV P T .or t x y (.int k (a : Int)) (.int k (b : Int)) = some (.int k (Nat.lor a b : Nat)) :=
  ar_ok (c := .bor) rfl P T t x y k a b (by simp only [ArOp.ok, ArOp.f, Bool.and_eq_true, Nat.blt_eq]; exact ⟨h, ha, hb⟩)
theorem bin_shl_nat {k' : IntKind} {a b : Nat} (hb : b ≤ bitsN k) (h : a * 2 ^ b < limN k) : binV P T .shl t x y (.int k (a : Int)) (.int k' (b : Int)) = some (.int k (a * 2 ^ b : Nat)) :=
  sh_ok (c := .shl) rfl P T t x y k k' a b hb h
theorem bin_shr_nat {k' : IntKind} {a b : Nat} (hb : b ≤ bitsN k) (h : a < limN k) : binV P T .shr t x y (.int k (a : Int)) (.int k' (b : Int)) = some (.int k (a / 2 ^ b : Nat)) :=
  sh_ok (c := .shr) rfl P T t x y k k' a b hb (Nat.lt_of_le_of_lt (Nat.div_le_self _ _) h)
theorem bin_xor_nat {a b : Nat} (h : Nat.xor a b < limN k) (ha : a < limN k) (hb : b < limN k) : binV P T .xor t x y (.int k (a : Int)) (.int k (b : Int)) = some (.int k (Nat.xor a b : Nat)) :=
  ar_ok (c := .bxor) rfl P T t x y k a b (by simp only [ArOp.ok, ArOp.f, Bool.and_eq_true, Nat.blt_eq]; exact ⟨h, ha, hb⟩)
theorem un_not (c : Bool) : unV P .not (.bool c) = some (.bool (!c)) := by
  cases c <;> rfl
end

theorem wrap_u8 (n : Nat) : IntKind.u8.wrap (n : Int) = ((n % 256 : Nat) : Int) := by
  unfold IntKind.wrap
  simp [IntKind.bits, IntKind.signed]
theorem wrap_i64 {n : Int} (h0 : -9223372036854775808 ≤ n) (h : n < 9223372036854775808) : IntKind.i64.wrap n = n := by
  unfold IntKind.wrap
  simp only [IntKind.bits, IntKind.signed]
  simp only [Bool.true_and]
  split <;> simp_all <;> omega

section
variable {P : Program} {T : TT} {t : TypeId} {x y : Operand} {k : IntKind} {a b : Int}
theorem bin_eql_yes (h : a = b) : binV P T .eql t x y (.int k a) (.int k b) = some (.bool true) := by rw [bin_eql, decide_eq_true h]
theorem bin_eql_no (h : a ≠ b) : binV P T .eql t x y (.int k a) (.int k b) = some (.bool false) := by rw [bin_eql, decide_eq_false h]
theorem bin_cmp_nat {op : BinOp} {a b : Nat} {v : Value} (h : binV P T op t x y (.int k (a : Int)) (.int k (b : Int)) = some v) : binV P T op t x y (.int k (a : Int)) (.int k (b : Int)) = some v := h
theorem bin_lss_nat (a b : Nat) : binV P T .lss t x y (.int k (a : Int)) (.int k (b : Int)) = some (.bool (decide (a < b))) := by
  rw [bin_lss]; congr 2; rw [Bool.eq_iff_iff]; simp
theorem bin_eql_nat (a b : Nat) : binV P T .eql t x y (.int k (a : Int)) (.int k (b : Int)) = some (.bool (decide (a = b))) := by
  rw [bin_eql]; congr 2; rw [Bool.eq_iff_iff]; simp only [decide_eq_true_eq]; omega
theorem bin_lss_yes (h : a < b) : binV P T .lss t x y (.int k a) (.int k b) = some (.bool true) := by rw [bin_lss, decide_eq_true h]
theorem bin_lss_no (h : ¬ a < b) : binV P T .lss t x y (.int k a) (.int k b) = some (.bool false) := by rw [bin_lss, decide_eq_false h]
end

/-! ### guards -/
section
variable {ops : Array Oper} {l : List Value} {o : Oper} {j d : Nat} {want : Bool}
theorem wanted_is (hg : o.guard = some (j, want)) (hd : (ops[j]?).bind (·.dst) = some d) {b : Bool} (hs : sl l d = .bool b) (hl : d < l.length) : wantedL ops l o = (b == want) := by
  have h : l[d]? = some (.bool b) := by
    rw [List.getElem?_eq_getElem hl]
    have : l.getD d undef = l[d] := by rw [List.getD_eq_getElem?_getD, List.getElem?_eq_getElem hl]; rfl
    rw [← this]; exact congrArg some hs
  unfold wantedL
  rw [hg]
  dsimp only
  rw [hd]
  show ((match l[d]? with | some (.bool b) => some b | _ => none) == some want) = _
  rw [h]
  cases b <;> cases want <;> rfl
theorem wanted_yes (hg : o.guard = some (j, want)) (hd : (ops[j]?).bind (·.dst) = some d) (hl : d < l.length) (hs : sl l d = .bool want) : wantedL ops l o = true := by
  rw [wanted_is hg hd hs hl]; cases want <;> rfl
theorem wanted_no (hg : o.guard = some (j, want)) (hd : (ops[j]?).bind (·.dst) = some d) (hl : d < l.length) (hs : sl l d = .bool (!want)) : wantedL ops l o = false := by
  rw [wanted_is hg hd hs hl]; cases want <;> rfl
end

/-! ### operations -/
section
variable {P : Program} {T : TT} {ρ : Operand → Value} {H : AH}
theorem ev_move (x : Operand) : evOp P T ρ (.move x) H = some (ρ x, H) := rfl
theorem ev_assign (x : Operand) : evOp P T ρ (.assign x) H = some (ρ x, H) := rfl
theorem ev_pick {c a b : Operand} {t : Bool} (h : ρ c = .bool t) : evOp P T ρ (.pick c a b) H = some (if t then ρ a else ρ b, H) := by
  simp only [evOp, h]
theorem ev_alloc {e : TypeId} {z : List Value} (h : zeroT T e = some z) : evOp P T ρ (.alloc e) H = some (ptr H.next 0, H.alloc (.cells z e)) := by
  simp only [evOp, h]
theorem ev_box {e : TypeId} {x : Operand} {vs : List Value} (h : (ρ x).cells.toList = vs) (h1 : vs.all one1 = true) : evOp P T ρ (.box e x) H = some (ptr H.next 0, H.alloc (.cells vs e)) := by
  simp only [evOp, h, h1, if_true]
theorem ev_load {t : TypeId} {a : Operand} {b o : Nat} {c : List Value} {e : TypeId} {v : Value} (ha : ρ a = ptr b o) (hg : H.get b = some (.cells c e)) (ht : aggT T t = some false) (hv : c[o]? = some v) : evOp P T ρ (.load t a) H = some (v, H) := by
  simp only [evOp, ha, ptr, loadV, hg, ht, hv]; rfl
theorem ev_loadA {t : TypeId} {a : Operand} {b o n : Nat} {c : List Value} {e : TypeId} {vs : List Value} (ha : ρ a = ptr b o) (hg : H.get b = some (.cells c e)) (ht : aggT T t = some true) (hs : szT T t = some n) (hn : o + n ≤ c.length) (hv : (c.drop o).take n = vs) :
    evOp P T ρ (.load t a) H = some (.agg vs.toArray, H) := by
  subst hv
  simp only [evOp, ha, ptr, loadV, hg, ht, hs, if_pos hn]; rfl
theorem ev_store {t : TypeId} {a x : Operand} {b o n : Nat} {c vs : List Value} {e : TypeId} (ha : ρ a = ptr b o) (hg : H.get b = some (.cells c e)) (hs : szT T t = some n) (hv : (ρ x).cells.toList = vs) (hl : vs.length = n) (hn : o + n ≤ c.length)
    (h1 : vs.all one1 = true) : evOp P T ρ (.store t a x) H = some (undef, H.set b (.cells (setMany c o vs) e)) := by
  simp only [evOp, ha, ptr, storeV, hg, hs, hv]
  rw [if_pos ⟨hl, hn, h1⟩]; rfl
theorem ev_bin {op : BinOp} {t t' : TypeId} {x y : Operand} {v : Value} (h : binV P T op t x y (ρ x) (ρ y) = some v) : evOp P T ρ (.binOp op t x y t') H = some (v, H) := by
  simp only [evOp, h]; rfl
theorem ev_un {op : UnOp} {t : TypeId} {x : Operand} {v : Value} (h : unV P op (ρ x) = some v) : evOp P T ρ (.unOp op t x) H = some (v, H) := by
  simp only [evOp, h]; rfl
theorem ev_fieldAddr {s : TypeId} {x : Operand} {f b o off : Nat} (hx : ρ x = ptr b o) (hf : offT T s f = some off) : evOp P T ρ (.fieldAddr s x f) H = some (ptr b (o + off), H) := by
  simp only [evOp, hx, fieldAddrV, ptr]
  unfold offT at hf
  split at hf
  · rename_i fs hu
    rw [hu]
    split at hf
    · rename_i fd hfd
      simp only [hfd]
      split at hf
      · rename_i hz
        cases hf
        rw [hz]; rfl
      · cases hf
    · cases hf
  · cases hf
theorem ev_indexS {t e : TypeId} {x i : Operand} {b o n c sz : Nat} {k : IntKind} {j : Nat} (hu : T.und t = some (.slice e)) (hs : szT T e = some sz) (hx : ρ x = .slice (some ⟨b, o, none⟩) n c) (hi : ρ i = .int k j) (h : j < n) :
    evOp P T ρ (.indexAddr t x i) H = some (ptr b (o + j * sz), H) := by
  have : (0 : Int) ≤ (j : Int) ∧ (j : Int) < (n : Int) := ⟨by omega, by omega⟩
  simp only [evOp, hx, hi, indexAddrV, hu, hs, if_pos this]; rfl
theorem ev_indexA {t e : TypeId} {x i : Operand} {b o n sz : Nat} {k : IntKind} {j : Nat} (hu : T.und t = some (.array n e)) (hs : szT T e = some sz) (hx : ρ x = ptr b o) (hi : ρ i = .int k j) (h : j < n) :
    evOp P T ρ (.indexAddr t x i) H = some (ptr b (o + j * sz), H) := by
  have : (0 : Int) ≤ (j : Int) ∧ (j : Int) < (n : Int) := ⟨by omega, by omega⟩
  simp only [evOp, hx, hi, indexAddrV, hu, hs, ptr, if_pos this]; rfl
theorem ev_len {ts : Array TypeId} {t e : TypeId} {x : Operand} {a : Option Addr} {n c : Nat} (ht : ts[0]? = some t) (hu : T.und t = some (.slice e)) (hx : ρ x = .slice a n c) :
    evOp P T ρ (.call { callee := .builtin .len, args := #[x], argTypes := ts }) H = some (nat1 n, H) := by
  simp only [evOp, builtinV, lenB, ht, List.map, hx, hu]; rfl
theorem ev_index {t e : TypeId} {x i : Operand} {cs : Array Value} {n sz : Nat} {k : IntKind} {j : Nat} {v : Value} (hu : T.und t = some (.array n e)) (hs : szT T e = some sz) (ha : aggT T e = some false) (hx : ρ x = .agg cs) (hi : ρ i = .int k j) (h : j < n)
    (hv : cs.toList[j * sz]? = some v) : evOp P T ρ (.index t x i) H = some (v, H) := by
  have : (0 : Int) ≤ (j : Int) ∧ (j : Int) < (n : Int) := ⟨by omega, by omega⟩
  simp only [evOp, hx, hi, indexV, hu, hs, if_pos this, partV, ha, Int.toNat_natCast, hv]; rfl
theorem ev_build {t : TypeId} {ps : Array (Nat × Operand)} {qs : List (Nat × Value)} {v : Value} (hp : (ps.toList.map fun p => (p.1, ρ p.2)) = qs) (h : buildV T t qs = some v) : evOp P T ρ (.build t ps) H = some (v, H) := by
  simp only [evOp, hp, h]; rfl
theorem ev_func2 {f : FuncId} {x y : Operand} {b o b' o' : Nat} (h1 : ρ x = ptr b o) (h2 : ρ y = ptr b' o') : evOp P T ρ (.makeFunc (.func f) #[] #[x, y]) H = some (.func (.func f) #[] #[ptr b o, ptr b' o'], H) := by
  simp [evOp, h1, h2, ptr]
theorem res_cell {l : List Value} {a b o : Nat} {t e : TypeId} {c : List Value} {v : Value} (ha : sl l a = ptr b o) (hg : H.get b = some (.cells c e)) (ht : aggT T t = some false) (hv : c[o]? = some v) (hn : notTuple v = true) :
    resultsL T H l [.cell a t] = some [v] := by
  have ha : l.getD a undef = ptr b o := ha
  have : resultV T H l (.cell a t) = some v := by simp only [resultV, ha, ptr, loadV, hg, ht, hv]
  simp only [resultsL, this, hn, if_true]; rfl
theorem res_tmp {l : List Value} {a : Nat} {v : Value} (ha : sl l a = v) (hn : notTuple v = true) : resultsL T H l [.tmp a] = some [v] := by
  have ha : l.getD a undef = v := ha
  simp only [resultsL, resultV, ha, hn, if_true]; rfl
theorem W.abs {X : Prims} {c : Code} {l : List Value} {Q : Ex → List Value → AH → Prop} (p : List Value → Prop) (h : p l) (k : ∀ l, p l → W P T X c l H Q) : W P T X c l H Q := k l h
theorem W.absH {X : Prims} {c : Code} {l : List Value} {Q : Ex → List Value → AH → Prop} (p : AH → Prop) (h : p H) (k : ∀ H, p H → W P T X c l H Q) : W P T X c l H Q := k H h
theorem all1 {p : Operand → Bool} {x : Operand} (h : p x = true) : (#[x] : Array Operand).toList.all p = true := by simp [h]
theorem below_ptr {n b o : Nat} (h : b < n) : belowV n (ptr b o) = true := by
  show Nat.blt b n = true
  rw [Nat.blt_eq]; exact h
theorem below_slice {n b o m c : Nat} (h : b < n) : belowV n (.slice (some ⟨b, o, none⟩) m c) = true := by
  show Nat.blt b n = true
  rw [Nat.blt_eq]; exact h
theorem eqV_int (k : IntKind) (n : Int) : eqV (.int k n) (.int k n) = true := by simp [eqV, eq1]
theorem eqV_slice (a : Option Addr) (n c : Nat) : eqV (.slice a n c) (.slice a n c) = true := by simp [eqV, eq1]
/-- An operation that may be passed by, and leaves memory as it is. -/
theorem Os.maybe {X : Prims} {ops : Array Oper} {o : Oper} {r : List Oper} {l : List Value} {Q : List Value → AH → Prop} {b : Bool} {v0 : Value} (hw : wantedL ops l o = b) (hk : o.op.operands.toList.all okOperand = true) (hc : isCallV o.op = false)
    (he : b = true → evOp P T (envL l) o.op H = some (v0, H)) (hq : ∀ v, (b = true → v = v0) → Os P T X ops r (putL l o.dst v) H Q) : Os P T X ops (o :: r) l H Q := by
  cases b with
  | true => exact Os.op hw hk hc (he rfl) (hq v0 fun _ => rfl)
  | false => exact Os.pass hw (hq undef fun h => by cases h)
theorem ev_nilCheck {x : Operand} {b o : Nat} (h : ρ x = ptr b o) : evOp P T ρ (.nilCheck x) H = some (ptr b o, H) := by simp only [evOp, h, ptr]
theorem ev_slice {t : TypeId} {x : Operand} {lo hi mx : Option Operand} {v : Value} (h : sliceV T t (ρ x) (lo.map ρ) (hi.map ρ) (mx.map ρ) = some v) : evOp P T ρ (.slice t x lo hi mx) H = some (v, H) := by simp only [evOp, h]; rfl
theorem ev_convert {src dst : TypeId} {x : Operand} {d : TypeDesc} {k k' : IntKind} {n : Int} (hs : T.und src = some d) (hd : T.und dst = some (.int k)) (hx : ρ x = .int k' n) : evOp P T ρ (.convert src dst x) H = some (.int k (k.wrap n), H) := by
  simp only [evOp, convV, hs, hd, hx]
end
end Go.Wp
