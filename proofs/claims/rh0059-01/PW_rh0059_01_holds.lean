import PyProof.Rows.All
import Wide.All
import OpenK.AllK
import Wide.FinOn
import Lean
import PySem.Challenge.RW_rh0059_01
set_option Elab.async false
set_option maxRecDepth 100000
set_option maxHeartbeats 8000000

namespace Mine
section
theorem gcd_turn {f s : Int} {g : Nat} (hf : 0 ≤ f) (h0 : 0 ≤ s) (h : Int.gcd f s = g) (hs : s ≠ 0) : 0 ≤ s ∧ 0 ≤ f.fmod s ∧ Int.gcd s (f.fmod s) = g := by
  refine ⟨h0, ?_, ?_⟩
  · rw [Int.fmod_eq_emod_of_nonneg _ h0]; exact Int.emod_nonneg _ hs
  · rw [Int.fmod_eq_emod_of_nonneg _ h0, ← h]
    obtain ⟨a, rfl⟩ := Int.eq_ofNat_of_zero_le hf
    obtain ⟨b, rfl⟩ := Int.eq_ofNat_of_zero_le h0
    show Nat.gcd b (a % b) = Nat.gcd a b
    rw [Nat.gcd_comm b, ← Nat.gcd_rec, Nat.gcd_comm]
theorem gcd_less {f s : Int} (h0 : 0 ≤ s) (hs : s ≠ 0) : (f.fmod s).toNat < s.toNat := by
  have h1 := Int.emod_lt_of_pos f (show 0 < s by omega)
  have h2 := Int.emod_nonneg f hs
  rw [Int.fmod_eq_emod_of_nonneg _ h0]
  omega
theorem gcd_last {f s x y : Int} (hf : 0 ≤ f) (h : Int.gcd f s = Int.gcd (if x < 0 then -x else x) (if y < 0 then -y else y)) (hs : s = 0) : f = (Int.gcd x y : Int) := by
  have e : ∀ z : Int, (if z < 0 then -z else z).natAbs = z.natAbs := fun z => by split <;> omega
  subst hs
  unfold Int.gcd at h ⊢
  rw [e, e] at h
  rw [← h]
  simp
  omega
theorem sign_neg {x : Int} (h : x < 0) : -1 = x.sign := (Int.sign_eq_neg_one_of_neg h).symm
theorem sign_pos {x : Int} (h : 0 < x) : 1 = x.sign := (Int.sign_eq_one_of_pos h).symm
theorem sign_nil {x : Int} (h : ¬ x < 0) (h' : ¬ 0 < x) : 0 = x.sign := by
  have : x = 0 := by omega
  subst this; rfl
end
end Mine

namespace Mine
section
open PySem PySem.W PyProof.Rows
open_top hd for PySem.Challenge.rw_rh0059_01
end
end Mine

namespace Mine
section
open PySem PySem.W PyProof.Rows
/-- what a call of the def at address f with values vs does, in any frame of the run -/
def Calls (w : World) (f : Addr) (vs : List Value) (news : List (Addr × Obj)) (dn : Nat) (Ret : Heap → Heap → Addr → (Str → Option Value) → (Heap → Nat → Value → Prop) → Prop) : Prop :=
  ∀ (loose : List Str) (mean : ExcName → Option Value) (mg mb : Str → Option Value) (dp un : Nat) (gd : Option (List Code)) (cn : Str) (cs : Scope) (a : Addr) (ccd : Value) (cl : List (Str × Addr)) (outer : List Env) (A₀ : Around) (base h₀ : Heap) (L : Addr) (m : Str → Option Value) (s : Shared)
    (Q E : Value → Shared → Prop),
    Below A₀ base outer h₀ → Fr h₀ L s.heap m → (hd.heap_39 w.params).In h₀ → News h₀ L s.heap news → Top hd.view_39 loose mean mg mb h₀ → cs.kind = .function →
    dp + dn < recursionLimit → un + 8 * dn < cLine →
    Ret h₀ s.heap L m (fun h' tk' v => Q v { s with heap := h', toks := tk' }) →
    wpAny (model PySem.Challenge.rw_rh0059_01.row.prog w) (ktrTop dp un gd cn cs L a ccd cl outer) (call (.ref f) vs) Q E s

theorem sign_calls (w : World) (x : Int) (t : Tok) (news : List (Addr × Obj)) :
    Calls w 42 [.int x t] news 1 (fun h₀ _ L m K => ∀ t' h' tk', Fr h₀ L h' m → News h₀ L h' news → K h' tk' (.int x.sign t')) := by
  unfold Calls
  k_fill
  intro loose mean mg mb dp un gd cn cs a ccd cl outer A₀ base h₀ L m s Q E B F X N T hk hdp hun hret
  refine wpAny_call ?_
  k_dflt cell_enter
  k_steps
  all_goals exact cb_retI hret (by first | exact sign_neg (by assumption) | exact sign_pos (by assumption) | exact sign_nil (by assumption) (by assumption)) (by k_asm) (by k_asm)

theorem gd_calls (w : World) (x y : Int) (t u : Tok) (news : List (Addr × Obj)) :
    Calls w 35 [.int x t, .int y u] news 1 (fun h₀ _ L m K => ∀ t' h' tk', Fr h₀ L h' m → News h₀ L h' news → K h' tk' (.int (Int.gcd x y) t')) := by
  unfold Calls
  k_fill
  intro loose mean mg mb dp un gd cn cs a ccd cl outer A₀ base h₀ L m s Q E B F X N T hk hdp hun hret
  refine wpAny_call ?_
  k_dflt cell_enter
  k_with "exec While Name cons nil" => k_while_given ["first!", "second!"] (fun f0 s0 (_ : List Int) f s => 0 ≤ f ∧ 0 ≤ s ∧ Int.gcd f s = Int.gcd f0 s0) (fun _ _ _ _ s => s.toNat) "first" "second"
  k_with "state" => exact gcd_turn (by assumption) (by assumption) (by assumption) (by assumption)
  k_with "measure" => exact gcd_less (by assumption) (by assumption)
  k_steps
  exact cb_retI hret (gcd_last (by assumption) (by assumption) (by assumption)) (by k_asm) (by k_asm)
end
end Mine

namespace Mine
section
theorem absI (f : Int) : (if f < 0 then -f else f) = (f.natAbs : Int) := by split <;> omega
section
variable {f x y t z : Int}
theorem g0 (h : Int.gcd x y = 1) : Int.gcd (f * x) (f * y) = f.natAbs := by rw [Int.gcd_mul_left, h, Nat.mul_one]
theorem gA (h : Int.gcd x y = 1) : (Int.gcd (f * x) (f * y) : Int) = (if f < 0 then -f else f) := by rw [absI, g0 h]
theorem gB (h : Int.gcd x y = 1) : (Int.gcd (f * y) (f * x) : Int) = (if f < 0 then -f else f) := by rw [Int.gcd_comm]; exact gA h
theorem gA1 (h : Int.gcd x y = 1) : (Int.gcd (-(f * x)) (f * y) : Int) = (if f < 0 then -f else f) := by rw [Int.neg_gcd]; exact gA h
theorem gA2 (h : Int.gcd x y = 1) : (Int.gcd (f * x) (-(f * y)) : Int) = (if f < 0 then -f else f) := by rw [Int.gcd_neg]; exact gA h
theorem gA3 (h : Int.gcd x y = 1) : (Int.gcd (-(f * x)) (-(f * y)) : Int) = (if f < 0 then -f else f) := by rw [Int.neg_gcd]; exact gA2 h
theorem gB1 (h : Int.gcd x y = 1) : (Int.gcd (-(f * y)) (f * x) : Int) = (if f < 0 then -f else f) := by rw [Int.neg_gcd]; exact gB h
theorem gB2 (h : Int.gcd x y = 1) : (Int.gcd (f * y) (-(f * x)) : Int) = (if f < 0 then -f else f) := by rw [Int.gcd_neg]; exact gB h
theorem gB3 (h : Int.gcd x y = 1) : (Int.gcd (-(f * y)) (-(f * x)) : Int) = (if f < 0 then -f else f) := by rw [Int.neg_gcd]; exact gB2 h
theorem gC (h : Int.gcd x y = 1) : (Int.gcd (f * x + t * (f * y)) (f * y) : Int) = (if f < 0 then -f else f) := by
  rw [Int.gcd_add_mul_right_left]; exact gA h
theorem gD (h : Int.gcd x y = 1) : (Int.gcd (f * x) (f * y + t * (f * x)) : Int) = (if f < 0 then -f else f) := by
  rw [Int.gcd_comm, Int.gcd_add_mul_right_left]; exact gB h
theorem gE (h : Int.gcd x y = 1) : (Int.gcd (t * (f * x)) (t * (f * y)) : Int) = (if t < 0 then -t else t) * (if f < 0 then -f else f) := by
  rw [absI, absI, Int.gcd_mul_left, g0 h, Int.natCast_mul]
theorem gF (h : Int.gcd x y = 1) : (Int.gcd (f * x * (f * x)) (f * y * (f * y)) : Int) = (if f < 0 then -f else f) * (if f < 0 then -f else f) := by
  have e : ∀ a : Int, a * a = a ^ 2 := fun a => by rw [Int.pow_succ, Int.pow_succ, Int.pow_zero, Int.one_mul]
  rw [absI, e, e, Int.pow_gcd_pow, g0 h, Int.natCast_pow, ← e]
theorem gG (h : Int.gcd x y = 1) : (Int.gcd (f * x) (Int.gcd (f * y) z : Int) : Int) = (Int.gcd (if f < 0 then -f else f) z : Int) := by
  rw [← Int.gcd_assoc, g0 h, absI]
theorem gH (h : Int.gcd x y = 1) : (Int.gcd (Int.gcd z (f * x) : Int) (f * y) : Int) = (Int.gcd (if f < 0 then -f else f) z : Int) := by
  rw [Int.gcd_assoc, g0 h, absI, Int.gcd_comm]
theorem sgA : f.sign * (if f < 0 then -f else f) = f := by rw [absI]; exact Int.sign_mul_natAbs f
theorem sg0 (h : f = 0) : f.sign = 0 := by rw [h]; rfl
theorem posA (h : f ≠ 0) : 0 < (if f < 0 then -f else f) := by split <;> omega
theorem tdA (h : f ≠ 0) : (f * x).tdiv (if f < 0 then -f else f) = f.sign * x := by
  have e : f * x = (if f < 0 then -f else f) * (f.sign * x) := by
    conv => lhs; rw [← @sgA f]
    rw [Int.mul_comm f.sign, Int.mul_assoc]
  have hp := posA h
  generalize (if f < 0 then -f else f) = a at e hp ⊢
  rw [e, Int.mul_tdiv_cancel_left _ (by omega)]
theorem rmA (h : f ≠ 0) : f * x - (if f < 0 then -f else f) * (f * x).tdiv (if f < 0 then -f else f) = 0 := by
  rw [tdA h, ← Int.mul_assoc, Int.mul_comm _ f.sign, sgA, Int.sub_self]
/-- the turn of the law's loop -/
theorem turn_gcd (h : Int.gcd x y = 1) : Int.gcd (t * x + y) x = 1 := by
  rw [Int.add_comm, Int.gcd_add_mul_right_left, Int.gcd_comm]; exact h
theorem turn_size {k : Nat} (hq : -500000 ≤ t) (hq2 : t ≤ 500000) (hx : x.natAbs ≤ 2 ^ (19 * k)) (hy : y.natAbs ≤ 2 ^ (19 * k)) :
    (t * x + y).natAbs ≤ 2 ^ (19 * (k + 1)) ∧ x.natAbs ≤ 2 ^ (19 * (k + 1)) := by
  have e : 2 ^ (19 * (k + 1)) = 524288 * 2 ^ (19 * k) := by rw [show 19 * (k + 1) = 19 + 19 * k by omega, Nat.pow_add]
  rw [e]
  generalize 2 ^ (19 * k) = B at hx hy
  have h1 : (t * x).natAbs ≤ 500000 * B := by rw [Int.natAbs_mul]; exact Nat.mul_le_mul (by omega) hx
  have h2 := Int.natAbs_add_le (t * x) y
  omega
end
end
end Mine

namespace Mine
section
open PySem PySem.W PyProof.Rows
theorem dz_neg {x y : Int} (h : (decide (x < 0) != decide (y < 0)) = true) (hy : 0 < y) : -((if x < 0 then -x else x).fdiv (if y < 0 then -y else y)) = x.tdiv y := by
  have hx : x < 0 := by
    rw [decide_eq_false (show ¬ y < 0 by omega)] at h
    simpa using h
  rw [if_pos hx, if_neg (by omega), Int.fdiv_eq_tdiv_of_nonneg (by omega) (by omega), Int.neg_tdiv, Int.neg_neg]
theorem dz_pos {x y : Int} (h : (decide (x < 0) != decide (y < 0)) = false) (hy : 0 < y) : (if x < 0 then -x else x).fdiv (if y < 0 then -y else y) = x.tdiv y := by
  have hx : ¬ x < 0 := by
    rw [decide_eq_false (show ¬ y < 0 by omega)] at h
    simpa using h
  rw [if_neg hx, if_neg (by omega), Int.fdiv_eq_tdiv_of_nonneg (by omega) (by omega)]
def NoPy (y : Int) : Prop := ∀ a, Builtin.divisionGoesByPylong a y = false
theorem NoPy.at {y : Int} (h : NoPy y) (a : Int) : Builtin.divisionGoesByPylong a y = false := h a
theorem noPy_of {y : Int} (h : y.natAbs.log2 < 9000) : NoPy y := fun _ => PyProof.noPylong_of_log2 h
theorem noPy_abs {y : Int} (hy : 0 < y) (h : NoPy y) : NoPy (if y < 0 then -y else y) := by rw [if_neg (by omega)]; exact h
theorem abs_ne {y : Int} (hy : 0 < y) : (if y < 0 then -y else y) ≠ 0 := by rw [if_neg (by omega)]; omega
local macro_rules | `(tactic| walk_at "binaryOp FloorDiv int int") => `(tactic| (with_reducible refine floordiv_int (by assumption) ?_ (Or.inl (NoPy.at (by assumption) _))))

theorem calls_use {w : World} {f : Addr} {vs : List Value} {news : List (Addr × Obj)} {dn : Nat} {Ret : Heap → Heap → Addr → (Str → Option Value) → (Heap → Nat → Value → Prop) → Prop} (C : Calls w f vs news dn Ret)
    {loose : List Str} {mean : ExcName → Option Value} {mg mb : Str → Option Value} {dp un : Nat} {gd : Option (List Code)} {cn : Str} {cs : Scope} {a : Addr} {ccd : Value} {cl : List (Str × Addr)} {outer : List Env} {A₀ : Around} {base h₀ : Heap} {L : Addr} {m : Str → Option Value} {s : Shared}
    {Q E : Value → Shared → Prop}
    (B : Below A₀ base outer h₀) (F : Fr h₀ L s.heap m) (X : (hd.heap_39 w.params).In h₀) (N : News h₀ L s.heap news) (T : Top hd.view_39 loose mean mg mb h₀) (hk : cs.kind = .function)
    (hd : dp + dn < recursionLimit) (hu : un + 8 * dn < cLine)
    (ret : Ret h₀ s.heap L m (fun h' tk' v => Q v { s with heap := h', toks := tk' })) :
    wpAny (model PySem.Challenge.rw_rh0059_01.row.prog w) (ktrTop dp un gd cn cs L a ccd cl outer) (call (.ref f) vs) Q E s :=
  C _ _ _ _ _ _ _ _ _ _ _ _ _ _ _ _ _ _ _ _ _ B F X N T hk hd hu ret

theorem dz_calls (w : World) (x y : Int) (hy : 0 < y) (hp : NoPy y) (t u : Tok) (news : List (Addr × Obj)) :
    Calls w 21 [.int x t, .int y u] news 1 (fun h₀ _ L m K => ∀ t' h' tk', Fr h₀ L h' m → News h₀ L h' news → K h' tk' (.int (x.tdiv y) t')) := by
  unfold Calls
  k_fill
  intro loose mean mg mb dp un gd cn cs a ccd cl outer A₀ base h₀ L m s Q E B F X N T hk hdp hun hret
  have hp' := noPy_abs hy hp
  have hy' := abs_ne hy
  refine wpAny_call ?_
  k_dflt cell_enter
  k_steps
  all_goals exact cb_retI hret (by first | exact dz_neg (by assumption) (by assumption) | exact dz_pos (by assumption) (by assumption)) (by k_asm) (by k_asm)

local macro_rules | `(tactic| walk_at "call ref") => `(tactic| (k_here; (with_reducible show wpAny _ _ (call (Value.ref 21) [Value.int _ _, Value.int _ _]) _ _ _); k_dflt (refine' calls_use (dz_calls _ _ _ ?ka ?kb _ _ _) ?k1 ?k2 ?k3 ?k4 ?k5 ?kK ?kd ?ku ?_; (case ka => assumption); (case kb => assumption); (case k1 => k_asm); (case k2 => k_asm); (case k3 => k_asm); (case k4 => k_asm); (case k5 => k_asm); (case kK => first | exact rfl | assumption); (case kd => ktr_room); (case ku => ktr_units)); intro t9 h9 tk9 F9 N9; (try dsimp only); (try k_fold)))

theorem rem_calls (w : World) (x y : Int) (hy : 0 < y) (hp : NoPy y) (hm : IntMulOk y (x.tdiv y)) (t u : Tok) (news : List (Addr × Obj)) :
    Calls w 28 [.int x t, .int y u] news 2 (fun h₀ _ L m K => ∀ t' h' tk', Fr h₀ L h' m → News h₀ L h' news → K h' tk' (.int (x - y * x.tdiv y) t')) := by
  unfold Calls
  k_fill
  intro loose mean mg mb dp un gd cn cs a ccd cl outer A₀ base h₀ L m s Q E B F X N T hk hdp hun hret
  refine wpAny_call ?_
  k_dflt cell_enter
  k_steps
  all_goals exact cb_retI hret rfl (by k_asm) (by k_asm)
end
end Mine

namespace Mine
section
open PySem PySem.W PyProof.Rows
abbrev poolOf (q : Addr) (a : Int) (ta : Tok) (b : Int) (tb : Tok) (c : Int) (tc : Tok) (n : Nat) : Obj := listOf [.ref q, .int a ta, .int b tb, .int c tc].toArray n
/-- what stands on the ledger: the pool, the script's copy, the rest -/
abbrev poolLed (p q : Addr) (vs : List Value) (k : Nat) (own : List (Addr × Obj)) (a : Int) (ta : Tok) (b : Int) (tb : Tok) (c : Int) (tc : Tok) (n : Nat) : List (Addr × Obj) :=
  (p, listOf [.ref q, .int a ta, .int b tb, .int c tc].toArray n) :: (q, listOf vs.toArray k) :: own

local macro_rules | `(tactic| walk_at "binaryOp FloorDiv int int") => `(tactic| (with_reducible refine floordiv_int (by assumption) ?_ (Or.inl (NoPy.at (by assumption) _))))
theorem fm0 {a l : Int} (h : 0 < l) : 0 ≤ a.fmod l := by rw [Int.fmod_eq_emod_of_nonneg _ (by omega)]; exact Int.emod_nonneg _ (by omega)
theorem fm1 {a l : Int} (h : 0 < l) : a.fmod l < l := by rw [Int.fmod_eq_emod_of_nonneg _ (by omega)]; exact Int.emod_lt_of_pos _ h
theorem fd0 {a l : Int} (ha : 0 ≤ a) (h : 0 < l) : 0 ≤ a.fdiv l := by rw [Int.fdiv_eq_ediv_of_nonneg _ (by omega)]; exact Int.ediv_nonneg ha (by omega)
theorem ab0 {a : Int} : 0 ≤ (if a < 0 then -a else a) := by split <;> omega
theorem draw_calls (w : World) (p q : Addr) (vs : List Value) (ns : List Int) (k : Nat) (own : List (Addr × Obj)) (hpq : q ≠ p) (hoff : OwnOff own [p]) (hi : IntsAre vs ns) (hlen : ns.length ≤ 63)
    (a : Int) (ta : Tok) (b : Int) (tb : Tok) (c : Int) (tc : Tok) (n : Nat) (h0 : 0 ≤ a) (h1 : -1 ≤ b) (lim : Int) (hl : 0 < lim) (hp : NoPy lim) (u : Tok) :
    Calls w 49 [.ref p, .int lim u] (poolLed p q vs k own a ta b tb c tc n) 1 (fun h₀ _ L m K => ∀ d t' a' ta' b' tb' c' tc' n' h' tk', 0 ≤ d → d < lim → 0 ≤ a' → -1 ≤ b' → Fr h₀ L h' m → News h₀ L h' (poolLed p q vs k own a' ta' b' tb' c' tc' n') → K h' tk' (.int d t')) := by
  unfold Calls poolLed
  k_fill
  intro loose mean mg mb dp un gd cn cs aa ccd cl outer A₀ base h₀ L m s Q E B F X N T hk hdp hun hret
  refine wpAny_call ?_
  k_dflt cell_enter
  have hl' : lim ≠ 0 := by omega
  k_steps
  all_goals (refine' hret _ _ _ _ _ _ _ _ _ _ _ ?d0 ?d1 ?a0 ?b1 ?fr ?nw; (case fr => k_asm); (case nw => k_asm); (case d0 => exact fm0 hl); (case d1 => exact fm1 hl); (case a0 => first | omega | exact fd0 (by omega) hl | exact fd0 ab0 hl); (case b1 => omega))
end
end Mine

namespace Mine
section
open PySem PySem.W PyProof.Rows
local macro_rules | `(tactic| walk_at "call ref") => `(tactic| (k_here; (with_reducible show wpAny _ _ (call (Value.ref 49) [Value.ref _, Value.int _ _]) _ _ _); k_dflt (refine' calls_use (draw_calls _ _ _ _ _ _ _ ?ka ?kb ?kc ?ke _ _ _ _ _ _ _ ?kf ?kg _ ?kh ?kj _) ?k1 ?k2 ?k3 ?k4 ?k5 ?kK ?kd ?ku ?_; (case k4 => k_asm); (case k1 => k_asm); (case k2 => k_asm); (case k3 => k_asm); (case k5 => k_asm); (case ka => assumption); (case kb => assumption); (case kc => assumption); (case ke => assumption); (case kf => assumption); (case kg => assumption); (case kh => decide); (case kj => exact noPy_of (by decide +kernel));  (case kK => first | exact rfl | assumption); (case kd => ktr_room); (case ku => ktr_units)); intro d9 t9 a9 ta9 b9 tb9 c9 tc9 n9 h9 tk9 dlo dhi alo blo F9 N9; (try dsimp only [poolLed] at N9); (try dsimp only); (try k_fold)))

theorem fac1 {d : Int} (h0 : 0 ≤ d) : -(5 * 10 ^ 19) ≤ d - 5 * 10 ^ Int.toNat 19 := by
  have e : (10 : Int) ^ Int.toNat 19 = 10 ^ 19 := rfl
  omega
theorem fac2 {d : Int} (h : d < 10 ^ Int.toNat 20) : d - 5 * 10 ^ Int.toNat 19 ≤ 5 * 10 ^ 19 := by
  have e : (10 : Int) ^ Int.toNat 19 = 10 ^ 19 := rfl
  have e2 : (10 : Int) ^ Int.toNat 20 = 10 ^ 20 := rfl
  omega
theorem fac3 {d : Int} (h : d < 30) : 0 ≤ 3 * (2 : Int) ^ d.toNat ∧ 3 * (2 : Int) ^ d.toNat ≤ 5 * 10 ^ 19 := by
  have h1 : (2 : Nat) ^ d.toNat ≤ 2 ^ 30 := Nat.pow_le_pow_right (by decide) (by omega)
  have h2 : ((2 ^ d.toNat : Nat) : Int) = (2 : Int) ^ d.toNat := Int.natCast_pow 2 d.toNat
  have h3 : (2 : Int) ^ d.toNat ≤ 2 ^ 30 := by rw [← h2]; exact Int.ofNat_le.mpr h1
  have h4 : (0 : Int) ≤ 2 ^ d.toNat := by rw [← h2]; exact Int.natCast_nonneg _
  generalize (2 : Int) ^ d.toNat = x at h3 h4 ⊢
  omega
theorem fac3a {d : Int} (h : d < 30) : -(5 * 10 ^ 19) ≤ 3 * (2 : Int) ^ d.toNat := by have := fac3 h; generalize (2 : Int) ^ d.toNat = x at this ⊢; omega
theorem fac3b {d : Int} (h : d < 30) : 3 * (2 : Int) ^ d.toNat ≤ 5 * 10 ^ 19 := by have := fac3 h; generalize (2 : Int) ^ d.toNat = x at this ⊢; omega
theorem fac3c {d : Int} (h : d < 30) : -(5 * 10 ^ 19) ≤ -(3 * (2 : Int) ^ d.toNat) := by have := fac3 h; generalize (2 : Int) ^ d.toNat = x at this ⊢; omega
theorem fac3d {d : Int} (h : d < 30) : -(3 * (2 : Int) ^ d.toNat) ≤ 5 * 10 ^ 19 := by have := fac3 h; generalize (2 : Int) ^ d.toNat = x at this ⊢; omega
theorem factor_calls (w : World) (p q : Addr) (vs : List Value) (ns : List Int) (k : Nat) (own : List (Addr × Obj)) (hpq : q ≠ p) (hoff : OwnOff own [p]) (hi : IntsAre vs ns) (hlen : ns.length ≤ 63)
    (a : Int) (ta : Tok) (b : Int) (tb : Tok) (c : Int) (tc : Tok) (n : Nat) (h0 : 0 ≤ a) (h1 : -1 ≤ b) :
    Calls w 56 [.ref p] (poolLed p q vs k own a ta b tb c tc n) 2 (fun h₀ _ L m K => ∀ d t' a' ta' b' tb' c' tc' n' h' tk', -(5 * 10 ^ 19) ≤ d → d ≤ 5 * 10 ^ 19 → 0 ≤ a' → -1 ≤ b' → Fr h₀ L h' m → News h₀ L h' (poolLed p q vs k own a' ta' b' tb' c' tc' n') → K h' tk' (.int d t')) := by
  unfold Calls poolLed
  k_fill
  intro loose mean mg mb dp un gd cn cs aa ccd cl outer A₀ base h₀ L m s Q E B F X N T hk hdp hun hret
  refine wpAny_call ?_
  k_dflt cell_enter
  k_steps
  all_goals (refine' hret _ _ _ _ _ _ _ _ _ _ _ ?d0 ?d1 ?a0 ?b1 ?fr ?nw; (case fr => k_asm); (case nw => k_asm); (case d0 => first | exact fac1 (by assumption) | exact fac3a (by assumption) | exact fac3c (by assumption) | omega); (case d1 => first | exact fac2 (by assumption) | exact fac3b (by assumption) | exact fac3d (by assumption) | omega); (case a0 => assumption); (case b1 => assumption))

theorem quo1 {d : Int} (h : d < 10 ^ Int.toNat 6) : d - 500000 ≤ 500000 := by
  have e : (10 : Int) ^ Int.toNat 6 = 10 ^ 6 := rfl
  omega
theorem quot_calls (w : World) (p q : Addr) (vs : List Value) (ns : List Int) (k : Nat) (own : List (Addr × Obj)) (hpq : q ≠ p) (hoff : OwnOff own [p]) (hi : IntsAre vs ns) (hlen : ns.length ≤ 63)
    (a : Int) (ta : Tok) (b : Int) (tb : Tok) (c : Int) (tc : Tok) (n : Nat) (h0 : 0 ≤ a) (h1 : -1 ≤ b) :
    Calls w 63 [.ref p] (poolLed p q vs k own a ta b tb c tc n) 2 (fun h₀ _ L m K => ∀ d t' a' ta' b' tb' c' tc' n' h' tk', -500000 ≤ d → d ≤ 500000 → 0 ≤ a' → -1 ≤ b' → Fr h₀ L h' m → News h₀ L h' (poolLed p q vs k own a' ta' b' tb' c' tc' n') → K h' tk' (.int d t')) := by
  unfold Calls poolLed
  k_fill
  intro loose mean mg mb dp un gd cn cs aa ccd cl outer A₀ base h₀ L m s Q E B F X N T hk hdp hun hret
  refine wpAny_call ?_
  k_dflt cell_enter
  k_steps
  all_goals (refine' hret _ _ _ _ _ _ _ _ _ _ _ ?d0 ?d1 ?a0 ?b1 ?fr ?nw; (case fr => k_asm); (case nw => k_asm); (case d0 => omega); (case d1 => first | omega | exact quo1 (by assumption)); (case a0 => assumption); (case b1 => assumption))
end
end Mine

namespace Mine
section
open PySem PySem.W PyProof.Rows PyProof.V PySem.Spec
/-- the state between two turns: one, two, the pool -/
structure St where
  x : Int
  tx : Tok
  y : Int
  ty : Tok
  a : Int
  ta : Tok
  b : Int
  tb : Tok
  c : Int
  tc : Tok
  n : Nat
/-- what holds of one and two behind kk turns, and of the pool -/
structure Good (kk : Nat) (c : St) : Prop where
  g : Int.gcd c.x c.y = 1
  x : c.x.natAbs ≤ 2 ^ (19 * kk)
  y : c.y.natAbs ≤ 2 ^ (19 * kk)
  a : 0 ≤ c.a
  b : -1 ≤ c.b
def TurnPost (h₀ : Heap) (L : Addr) (m₀ : Str → Option Value) (p q : Addr) (vs : List Value) (k : Nat) (own : List (Addr × Obj)) (kk : Nat) (s₁ : Shared) (f : Flow) (s₂ : Shared) : Prop :=
  f = .next ∧ ∃ (h' : Heap) (tk : Nat) (m' : Str → Option Value) (own' : List (Addr × Obj)) (c : St), s₂ = { s₁ with heap := h', toks := tk } ∧ Fr h₀ L h' m' ∧ News h₀ L h' (poolLed p q vs k own' c.a c.ta c.b c.tb c.c c.tc c.n) ∧ (∀ e ∈ own, e ∈ own') ∧
    m' (Str.ofString "one") = some (.int c.x c.tx) ∧ m' (Str.ofString "two") = some (.int c.y c.ty) ∧
    (∀ z, z ≠ Str.ofString "_" → z ≠ Str.ofString "one" → z ≠ Str.ofString "two" → z ≠ Str.ofString "kept" → m' z = m₀ z) ∧ Good kk c
section
variable {prog : Program} {w : World} {A : Around} {E : Value → Shared → Prop} {Q : Flow → Shared → Prop} {s : Shared} {env : Env} {h₀ : Heap} {body : List Stmt}
theorem law_loop {r : Addr} {d : Int} {t₀ u₀ v₀ : Tok} {m₀ : Str → Option Value} {news : List (Addr × Obj)} {p q : Addr} {vs : List Value} {k : Nat} {a : Int} {ta : Tok} {b : Int} {tb : Tok} {c : Int} {tc : Tok} {n : Nat} {t1 t2 : Tok}
    (hh : A.handled = none) (hr : IsRange s.heap r 0 d 1 t₀ u₀ v₀) (hd0 : 0 ≤ d) (hd : d < 12) (F : Fr h₀ env.locals s.heap m₀) (N : News h₀ env.locals s.heap news)
    (hsub : ∀ e ∈ poolLed p q vs k [] a ta b tb c tc n, e ∈ news)
    (h1 : m₀ (Str.ofString "one") = some (.int 1 t1)) (h2 : m₀ (Str.ofString "two") = some (.int 0 t2)) (ha : 0 ≤ a) (hb : -1 ≤ b)
    (turn : ∀ (c : St) (kk : Nat) (i : Int) t (u : Str → Option Value) h tk own, kk < 11 → OwnOff own [p] → Good kk c →
      Fr h₀ env.locals h (fun z => if z = Str.ofString "_" then some (.int i t) else if z = Str.ofString "one" then some (.int c.x c.tx) else if z = Str.ofString "two" then some (.int c.y c.ty) else if z = Str.ofString "kept" then u z else m₀ z) →
      News h₀ env.locals h (poolLed p q vs k own c.a c.ta c.b c.tb c.c c.tc c.n) →
      wpAny (model prog w) A (execs body env) (TurnPost h₀ env.locals m₀ p q vs k own (kk + 1) { s with heap := h, toks := tk }) E { s with heap := h, toks := tk })
    (done : ∀ (c : St) (u : Str → Option Value) h tk, Good 11 c →
      Fr h₀ env.locals h (fun z => if z = Str.ofString "_" then u z else if z = Str.ofString "one" then some (.int c.x c.tx) else if z = Str.ofString "two" then some (.int c.y c.ty) else if z = Str.ofString "kept" then u z else m₀ z) →
      News h₀ env.locals h (poolLed p q vs k [] c.a c.ta c.b c.tb c.c c.tc c.n) → Q .next { s with heap := h, toks := tk }) :
    wpAny (model prog w) A (pyIter (.ref r)) (fun it s₂ => LoopAtV prog w A h₀ env (Str.ofString "_") body Q E it s₂) E s := by
  have em : ∀ (v : Str → Option Value) (u : Str → Option Value) (c : St), (fun y => if y = Str.ofString "_" then v y else kstB (fun z => if [Str.ofString "kept"].contains z then u z else m₀ z) [(Str.ofString "one", Value.int c.x c.tx), (Str.ofString "two", Value.int c.y c.ty)] y) =
      (fun z => if z = Str.ofString "_" then v z else if z = Str.ofString "one" then some (.int c.x c.tx) else if z = Str.ofString "two" then some (.int c.y c.ty) else if z = Str.ofString "kept" then u z else m₀ z) := by
    intro v u c
    funext z
    have ek : ([Str.ofString "kept"].contains z = true) = (z = Str.ofString "kept") := by simp
    simp only [kstB, ek]
  refine kst_range (n := d.toNat) (fun c : St => poolLed p q vs k [] c.a c.ta c.b c.tb c.c c.tc c.n) (fun c => [(Str.ofString "one", .int c.x c.tx), (Str.ofString "two", .int c.y c.ty)]) (fun _ => True) [Str.ofString "kept"] (fun pre c => Good pre.length c) ⟨1, t1, 0, t2, a, ta, b, tb, c, tc, n⟩
    hh hr (small_one (by decide) (by decide) (by omega) (by omega)) ?_ F (fun e he => N e (hsub e he)) trivial ?_ ⟨(show Int.gcd 1 0 = 1 by decide), (show (1 : Int).natAbs ≤ 2 ^ (19 * 0) by decide), (show (0 : Int).natAbs ≤ 2 ^ (19 * 0) by decide), ha, hb⟩ ?_ ?_
  · rw [rangeSize_nat, Int.sub_zero]
  · intro e he
    rcases List.mem_cons.mp he with rfl | he
    · exact h1
    · rw [List.mem_singleton.mp he]; exact h2
  · intro c pre i t u h tk own _ hlt hoff _ hg hF hN
    have hF := (em (fun _ => some (.int i t)) u c) ▸ hF
    have hoff' : OwnOff own [p] := fun e he b hb => hoff e he b (by rw [List.mem_singleton.mp hb]; exact .head _)
    refine wpAny_mono (turn c pre.length i t u h tk own (by omega) hoff' hg hF hN) (fun f s₂ hp => ?_) fun _ _ x => x
    obtain ⟨rfl, h', tk', m', own', c', rfl, F', N', ho, e1, e2, hz, hg'⟩ := hp
    show InvEndN _ _ _ _ _ _ _
    refine kst_end c' F' N' ?_ ?_ rfl trivial ?_ ?_ (by rw [List.length_append]; exact hg')
    · intro e he
      rcases List.mem_cons.mp he with rfl | he
      · exact .head _
      · rw [List.mem_singleton.mp he]; exact .tail _ (.head _)
    · exact fun e he => .tail _ (.tail _ (ho e he))
    · intro e he
      rcases List.mem_cons.mp he with rfl | he
      · exact e1
      · rw [List.mem_singleton.mp he]; exact e2
    · intro z z1 z2 z3
      refine hz z z1 (z2 _ (.head _)) (z2 _ (.tail _ (.head _))) ?_
      simpa using z3
  · intro c u h tk _ hg hF hN
    have hF := (em u u c) ▸ hF
    refine done c u h tk ?_ hF hN
    have hle : (rangeKs 0 d.toNat).length ≤ 11 := by rw [rangeKs_length]; omega
    have hp : (2 : Nat) ^ (19 * (rangeKs 0 d.toNat).length) ≤ 2 ^ (19 * 11) := Nat.pow_le_pow_right (by decide) (Nat.mul_le_mul_left _ hle)
    exact ⟨hg.g, Nat.le_trans hg.x hp, Nat.le_trans hg.y hp, hg.a, hg.b⟩
end
end
end Mine

namespace Mine
section
open PySem PySem.W PyProof.Rows PyProof.V PySem.Spec
theorem bitsOf {a : Int} {n : Nat} (h : a.natAbs ≤ 2 ^ n) : Builtin.Int.intBits a ≤ n + 1 := by
  unfold Builtin.Int.intBits
  split
  · exact Nat.zero_le _
  · rename_i h0
    have h1 : a.natAbs ≠ 0 := by
      intro e
      exact h0 (by simpa using (show a = 0 by omega))
    have h2 : a.natAbs < 2 ^ (n + 1) := Nat.lt_of_le_of_lt h (Nat.pow_lt_pow_right (by decide) (Nat.lt_succ_self n))
    have := (Nat.log2_lt h1).mpr h2
    omega
theorem mulOk {a b : Int} {m n : Nat} (ha : a.natAbs ≤ 2 ^ m) (hb : b.natAbs ≤ 2 ^ n) (h : m + n ≤ 1000 := by decide) : IntMulOk a b :=
  IntMulOk.of_le (bitsOf ha) (bitsOf hb) (by omega)
theorem natAbs_mul_le {a b : Int} {m n : Nat} (ha : a.natAbs ≤ 2 ^ m) (hb : b.natAbs ≤ 2 ^ n) : (a * b).natAbs ≤ 2 ^ (m + n) := by
  rw [Int.natAbs_mul, Nat.pow_add]
  exact Nat.mul_le_mul ha hb
theorem sign_small (f : Int) : f.sign.natAbs ≤ 2 ^ 0 := by
  rcases Int.lt_trichotomy f 0 with h | h | h
  · rw [Int.sign_eq_neg_one_of_neg h]; decide
  · rw [h]; decide
  · rw [Int.sign_eq_one_of_pos h]; decide
theorem absA (f : Int) : (if f < 0 then -f else f).natAbs = f.natAbs := by split <;> omega
/-- what the walk behind the loop needs of the sizes -/
structure Sized (f x y : Int) : Prop where
  fx : IntMulOk f x
  fy : IntMulOk f y
  xx : IntMulOk (f * x) (f * x)
  yy : IntMulOk (f * y) (f * y)
  aa : IntMulOk (if f < 0 then -f else f) (if f < 0 then -f else f)
  sa : IntMulOk f.sign (if f < 0 then -f else f)
  sx : IntMulOk f.sign x
  sy : IntMulOk f.sign y
  rx : f ≠ 0 → IntMulOk (if f < 0 then -f else f) ((f * x).tdiv (if f < 0 then -f else f))
  ry : f ≠ 0 → IntMulOk (if f < 0 then -f else f) ((f * y).tdiv (if f < 0 then -f else f))
  np : NoPy (if f < 0 then -f else f)
  sg : f.sign * (if f < 0 then -f else f) = f
theorem sized {f x y : Int} (h1 : -(5 * 10 ^ 19) ≤ f) (h2 : f ≤ 5 * 10 ^ 19) (hx : x.natAbs ≤ 2 ^ (19 * 11)) (hy : y.natAbs ≤ 2 ^ (19 * 11)) : Sized f x y := by
  have hf : f.natAbs ≤ 2 ^ 66 := by omega
  have ha : (if f < 0 then -f else f).natAbs ≤ 2 ^ 66 := by rw [absA]; exact hf
  have hs := sign_small f
  have hfx := natAbs_mul_le hf hx
  have hfy := natAbs_mul_le hf hy
  refine ⟨mulOk hf hx, mulOk hf hy, mulOk hfx hfx, mulOk hfy hfy, mulOk ha ha, mulOk hs ha, mulOk hs hx, mulOk hs hy, fun h => ?_, fun h => ?_, noPy_of ?_, sgA⟩
  · rw [tdA h]; exact mulOk ha (natAbs_mul_le hs hx)
  · rw [tdA h]; exact mulOk ha (natAbs_mul_le hs hy)
  · have h0 : (if f < 0 then -f else f).natAbs.log2 < 67 ∨ (if f < 0 then -f else f).natAbs = 0 := by
      by_cases e : (if f < 0 then -f else f).natAbs = 0
      · exact .inr e
      · exact .inl ((Nat.log2_lt e).mpr (Nat.lt_of_le_of_lt ha (by decide)))
    rcases h0 with h0 | h0
    · omega
    · rw [h0]; decide
theorem gd_calls' (w : World) (x y g : Int) (hg : (Int.gcd x y : Int) = g) (t u : Tok) (news : List (Addr × Obj)) :
    Calls w 35 [.int x t, .int y u] news 1 (fun h₀ _ L m K => ∀ t' h' tk', Fr h₀ L h' m → News h₀ L h' news → K h' tk' (.int g t')) := by
  subst hg; exact gd_calls w x y t u news
theorem sign_calls' (w : World) (x g : Int) (hg : x.sign = g) (t : Tok) (news : List (Addr × Obj)) :
    Calls w 42 [.int x t] news 1 (fun h₀ _ L m K => ∀ t' h' tk', Fr h₀ L h' m → News h₀ L h' news → K h' tk' (.int g t')) := by
  subst hg; exact sign_calls w x t news
theorem dz_calls' (w : World) (x y g : Int) (hg : x.tdiv y = g) (hy : 0 < y) (hp : NoPy y) (t u : Tok) (news : List (Addr × Obj)) :
    Calls w 21 [.int x t, .int y u] news 1 (fun h₀ _ L m K => ∀ t' h' tk', Fr h₀ L h' m → News h₀ L h' news → K h' tk' (.int g t')) := by
  subst hg; exact dz_calls w x y hy hp t u news
theorem rem_calls' (w : World) (x y g : Int) (hg : x - y * x.tdiv y = g) (hy : 0 < y) (hp : NoPy y) (hm : IntMulOk y (x.tdiv y)) (t u : Tok) (news : List (Addr × Obj)) :
    Calls w 28 [.int x t, .int y u] news 2 (fun h₀ _ L m K => ∀ t' h' tk', Fr h₀ L h' m → News h₀ L h' news → K h' tk' (.int g t')) := by
  subst hg; exact rem_calls w x y hy hp hm t u news
theorem ne_same {prog : Program} {w : World} {A : Around} {E : Value → Shared → Prop} {s : Shared} {a : Int} {t u : Tok} {Q : Value → Shared → Prop} (h : Q (.bool false) s) : wpAny (model prog w) A (compareOp .NotEq (.int a t) (.int a u)) Q E s :=
  PySem.P.ne_int (by rw [bne_self_eq_false]; exact h)
theorem ne_known {prog : Program} {w : World} {A : Around} {E : Value → Shared → Prop} {s : Shared} {a b : Int} {t u : Tok} {Q : Value → Shared → Prop} (e : a = b) (h : Q (.bool false) s) : wpAny (model prog w) A (compareOp .NotEq (.int a t) (.int b u)) Q E s := by
  subst e; exact ne_same h
theorem eq_same {prog : Program} {w : World} {A : Around} {E : Value → Shared → Prop} {s : Shared} {a : Int} {t u : Tok} {Q : Value → Shared → Prop} (h : Q (.bool true) s) : wpAny (model prog w) A (compareOp .Eq (.int a t) (.int a u)) Q E s :=
  PySem.P.eq_int (by rw [beq_self_eq_true]; exact h)
theorem off1 {p : Addr} : OwnOff [] [p] := fun _ h => nomatch h
theorem turn_end {h₀ : Heap} {L : Addr} {m₀ m' : Str → Option Value} {p q : Addr} {vs : List Value} {k : Nat} {own own' : List (Addr × Obj)} {kk : Nat} {s₁ : Shared} {h' : Heap} {tk : Nat} {x y t : Int} {tx ty : Tok} {a : Int} {ta : Tok} {b : Int} {tb : Tok} {c : Int} {tc : Tok} {n : Nat}
    (F : Fr h₀ L h' m') (N : News h₀ L h' ((p, listOf [.ref q, .int a ta, .int b tb, .int c tc].toArray n) :: (q, listOf vs.toArray k) :: own')) (ho : ∀ e ∈ own, e ∈ own')
    (e1 : m' (Str.ofString "one") = some (.int (t * x + y) tx)) (e2 : m' (Str.ofString "two") = some (.int x ty))
    (hz : ∀ z, z ≠ Str.ofString "_" → z ≠ Str.ofString "one" → z ≠ Str.ofString "two" → z ≠ Str.ofString "kept" → m' z = m₀ z)
    (hg : Int.gcd x y = 1) (hx : x.natAbs ≤ 2 ^ (19 * kk)) (hy : y.natAbs ≤ 2 ^ (19 * kk)) (ht1 : -500000 ≤ t) (ht2 : t ≤ 500000) (ha : 0 ≤ a) (hb : -1 ≤ b) :
    TurnPost h₀ L m₀ p q vs k own (kk + 1) s₁ .next { s₁ with heap := h', toks := tk } :=
  ⟨rfl, h', tk, m', own', ⟨t * x + y, tx, x, ty, a, ta, b, tb, c, tc, n⟩, rfl, F, N, ho, e1, e2, hz, ⟨turn_gcd hg, (turn_size ht1 ht2 hx hy).1, (turn_size ht1 ht2 hx hy).2, ha, hb⟩⟩
end
end Mine

namespace Mine
section
open PySem PySem.W PyProof.Rows PyProof.V PySem.Spec
local macro_rules | `(tactic| walk_at "call ref") => `(tactic| (k_here; (with_reducible show wpAny _ _ (call (Value.ref 49) [Value.ref _, Value.int _ _]) _ _ _); k_dflt (refine' calls_use (draw_calls _ _ _ _ _ _ _ ?ka ?kb ?kc ?ke _ _ _ _ _ _ _ ?kf ?kg _ ?kh ?kj _) ?k1 ?k2 ?k3 ?k4 ?k5 ?kK ?kd ?ku ?_; (case k4 => first | k_asm | ((rename News _ _ _ _ => lN'); (dsimp only [poolLed]); exact kst_newsOf lN' (List.forall_mem_cons.mpr ⟨by k_memK, List.forall_mem_cons.mpr ⟨by k_memK, by exact List.forall_mem_nil _⟩⟩))); (case ka => first | assumption | k_ne); (case kb => first | assumption | exact off1); (case kc => assumption); (case ke => first | assumption | omega | (simp only [List.length_take]; omega)); (case kf => first | assumption | decide); (case kg => first | assumption | decide); (case kh => decide); (case kj => exact noPy_of (by decide +kernel)); (case k1 => k_asm); (case k2 => k_asm); (case k3 => k_asm); (case k5 => k_asm); (case kK => first | exact rfl | assumption); (case kd => ktr_room); (case ku => ktr_units)); intro d9 t9 a9 ta9 b9 tb9 c9 tc9 n9 h9 tk9 dlo dhi alo blo F9 N9; (try dsimp only [poolLed] at N9); (try dsimp only); (try k_fold); walk_say "CONTRACT 49"))
local macro_rules | `(tactic| walk_at "call ref") => `(tactic| (k_here; (with_reducible show wpAny _ _ (call (Value.ref 56) [Value.ref _]) _ _ _); k_dflt (refine' calls_use (factor_calls _ _ _ _ _ _ _ ?ka ?kb ?kc ?ke _ _ _ _ _ _ _ ?kf ?kg) ?k1 ?k2 ?k3 ?k4 ?k5 ?kK ?kd ?ku ?_; (case k4 => first | k_asm | ((rename News _ _ _ _ => lN'); (dsimp only [poolLed]); exact kst_newsOf lN' (List.forall_mem_cons.mpr ⟨by k_memK, List.forall_mem_cons.mpr ⟨by k_memK, by exact List.forall_mem_nil _⟩⟩))); (case ka => first | assumption | k_ne); (case kb => first | assumption | exact off1); (case kc => assumption); (case ke => first | assumption | omega | (simp only [List.length_take]; omega)); (case kf => first | assumption | decide); (case kg => first | assumption | decide); (case k1 => k_asm); (case k2 => k_asm); (case k3 => k_asm); (case k5 => k_asm); (case kK => first | exact rfl | assumption); (case kd => ktr_room); (case ku => ktr_units)); intro d9 t9 a9 ta9 b9 tb9 c9 tc9 n9 h9 tk9 dlo dhi alo blo F9 N9; (try dsimp only [poolLed] at N9); (try dsimp only); (try k_fold); walk_say "CONTRACT 56"))
local macro_rules | `(tactic| walk_at "call ref") => `(tactic| (k_here; (with_reducible show wpAny _ _ (call (Value.ref 63) [Value.ref _]) _ _ _); k_dflt (refine' calls_use (quot_calls _ _ _ _ _ _ _ ?ka ?kb ?kc ?ke _ _ _ _ _ _ _ ?kf ?kg) ?k1 ?k2 ?k3 ?k4 ?k5 ?kK ?kd ?ku ?_; (case k4 => first | k_asm | ((rename News _ _ _ _ => lN'); (dsimp only [poolLed]); exact kst_newsOf lN' (List.forall_mem_cons.mpr ⟨by k_memK, List.forall_mem_cons.mpr ⟨by k_memK, by exact List.forall_mem_nil _⟩⟩))); (case ka => first | assumption | k_ne); (case kb => first | assumption | exact off1); (case kc => assumption); (case ke => first | assumption | omega | (simp only [List.length_take]; omega)); (case kf => first | assumption | decide); (case kg => first | assumption | decide); (case k1 => k_asm); (case k2 => k_asm); (case k3 => k_asm); (case k5 => k_asm); (case kK => first | exact rfl | assumption); (case kd => ktr_room); (case ku => ktr_units)); intro d9 t9 a9 ta9 b9 tb9 c9 tc9 n9 h9 tk9 dlo dhi alo blo F9 N9; (try dsimp only [poolLed] at N9); (try dsimp only); (try k_fold); walk_say "CONTRACT 63"))
local macro_rules | `(tactic| walk_at "call ref") => `(tactic| (k_here; (with_reducible show wpAny _ _ (call (Value.ref 35) [Value.int _ _, Value.int _ _]) _ _ _); k_dflt (refine' calls_use (gd_calls' _ _ _ _ ?ka _ _ _) ?k1 ?k2 ?k3 ?k4 ?k5 ?kK ?kd ?ku ?_; (case k4 => k_asm); (case ka => first | exact gA (by assumption) | exact gB (by assumption) | exact gA1 (by assumption) | exact gA2 (by assumption) | exact gA3 (by assumption) | exact gB1 (by assumption) | exact gB2 (by assumption) | exact gB3 (by assumption) | exact gC (by assumption) | exact gD (by assumption) | exact gE (by assumption) | exact gF (by assumption) | exact gG (by assumption) | exact gH (by assumption) | exact rfl); (case k1 => k_asm); (case k2 => k_asm); (case k3 => k_asm); (case k5 => k_asm); (case kK => first | exact rfl | assumption); (case kd => ktr_room); (case ku => ktr_units)); intro t9 h9 tk9 F9 N9; (try dsimp only [poolLed] at N9); (try dsimp only); (try k_fold); walk_say "CONTRACT 35"))
local macro_rules | `(tactic| walk_at "call ref") => `(tactic| (k_here; (with_reducible show wpAny _ _ (call (Value.ref 42) [Value.int _ _]) _ _ _); k_dflt (refine' calls_use (sign_calls' _ _ _ ?ka _ _) ?k1 ?k2 ?k3 ?k4 ?k5 ?kK ?kd ?ku ?_; (case k4 => k_asm); (case ka => first | exact sg0 (by assumption) | exact rfl); (case k1 => k_asm); (case k2 => k_asm); (case k3 => k_asm); (case k5 => k_asm); (case kK => first | exact rfl | assumption); (case kd => ktr_room); (case ku => ktr_units)); intro t9 h9 tk9 F9 N9; (try dsimp only [poolLed] at N9); (try dsimp only); (try k_fold); walk_say "CONTRACT 42"))
local macro_rules | `(tactic| walk_at "call ref") => `(tactic| (k_here; (with_reducible show wpAny _ _ (call (Value.ref 21) [Value.int _ _, Value.int _ _]) _ _ _); k_dflt (refine' calls_use (dz_calls' _ _ _ _ ?ka ?kb ?kc _ _ _) ?k1 ?k2 ?k3 ?k4 ?k5 ?kK ?kd ?ku ?_; (case k4 => k_asm); (case ka => exact tdA (by assumption)); (case kb => exact posA (by assumption)); (case kc => assumption); (case k1 => k_asm); (case k2 => k_asm); (case k3 => k_asm); (case k5 => k_asm); (case kK => first | exact rfl | assumption); (case kd => ktr_room); (case ku => ktr_units)); intro t9 h9 tk9 F9 N9; (try dsimp only [poolLed] at N9); (try dsimp only); (try k_fold); walk_say "CONTRACT 21"))
local macro_rules | `(tactic| walk_at "call ref") => `(tactic| (k_here; (with_reducible show wpAny _ _ (call (Value.ref 28) [Value.int _ _, Value.int _ _]) _ _ _); k_dflt (refine' calls_use (rem_calls' _ _ _ _ ?ka ?kb ?kc ?ke _ _ _) ?k1 ?k2 ?k3 ?k4 ?k5 ?kK ?kd ?ku ?_; (case k4 => k_asm); (case ka => exact rmA (by assumption)); (case kb => exact posA (by assumption)); (case kc => assumption); (case ke => apply_assumption; assumption); (case k1 => k_asm); (case k2 => k_asm); (case k3 => k_asm); (case k5 => k_asm); (case kK => first | exact rfl | assumption); (case kd => ktr_room); (case ku => ktr_units)); intro t9 h9 tk9 F9 N9; (try dsimp only [poolLed] at N9); (try dsimp only); (try k_fold); walk_say "CONTRACT 28"))
local macro_rules | `(tactic| walk_at "exec For Name Call cons nil") => `(tactic| (k_here; (rename Fr _ _ _ _ => lF'); (with_unfolding_all refine' For_invVF lF' ?k1 ?k2 ?_; (case k1 => exact rfl); (case k2 => exact rfl); k_whole)))
local macro_rules | `(tactic| walk_at "pyIter ref") => `(tactic| (k_here; (with_reducible show wpAny _ _ (pyIter (Value.ref _)) (fun it s₂ => LoopAtV _ _ _ _ _ _ _ _ _ it s₂) _ _); (rename Fr _ _ _ _ => lF'); (rename News _ _ _ _ => lN'); (rename IsRange _ _ _ _ _ _ _ _ => rgX); k_dflt ((with_unfolding_all refine' law_loop ?hh rgX ?hd0 ?hd lF' lN' ?hs ?h1 ?h2 ?ha ?hb ?_ ?_); (case hs => (dsimp only [poolLed]; refine List.forall_mem_cons.mpr ⟨by k_memK, List.forall_mem_cons.mpr ⟨by k_memK, List.forall_mem_nil _⟩⟩)); (case hh => exact rfl); (case hd0 => first | assumption | omega); (case hd => first | assumption | omega); (case h1 => with_unfolding_all rfl); (case h2 => with_unfolding_all rfl); (case ha => assumption); (case hb => assumption)); (all_goals (try clear lF' lN')); walk_say "THE LOOP"; (all_goals first | (intro c kk i t u h tk own hkk hoff hgood hF hN; (obtain ⟨x, tx, y, ty, a, ta, b, tb, c, tc, n⟩ := c); (obtain ⟨hg, hx, hy, ha, hb⟩ := hgood); (dsimp only [poolLed] at hg hx hy ha hb hF hN)) | (intro c u h tk hgood hF hN; (obtain ⟨x, tx, y, ty, a, ta, b, tb, c, tc, n⟩ := c); (obtain ⟨hg, hx, hy, ha, hb⟩ := hgood); (dsimp only [poolLed] at hg hx hy ha hb hF hN ⊢); (have hS := sized (by assumption) (by assumption) hx hy); (obtain ⟨fx, fy, xx, yy, aa, sa, sx, sy, rx, ry, np, sg⟩ := hS))); (all_goals (try k_fold))))
local macro_rules | `(tactic| walk_at "TurnPost") => `(tactic| (k_here; k_dflt (refine' turn_end ?kF ?kN ?ho ?e1 ?e2 ?hz ?hg ?hx ?hy ?t1 ?t2 ?ha ?hb; (case kF => k_asm); (case kN => k_asm); (case ho => exact fun e he => he); (case e1 => with_unfolding_all rfl); (case e2 => with_unfolding_all rfl); (case hz => (intro z h1 h2 h3 h4; simp only [h1, h2, h3, h4, if_false])); (case hg => assumption); (case hx => assumption); (case hy => assumption); (case t1 => assumption); (case t2 => assumption); (case ha => assumption); (case hb => assumption)); walk_say "THE TURN"))
local macro_rules | `(tactic| walk_at "compareOp NotEq int int") => `(tactic| first | (with_reducible refine ne_same ?_) | (with_reducible refine ne_known (by assumption) ?_))
local macro_rules | `(tactic| walk_at "compareOp Eq int int") => `(tactic| (with_reducible refine eq_same ?_))
theorem walk1 : PySem.Challenge.rw_rh0059_01.Holds := hd (by
  w_strict (k_go0; (all_goals try k_fold); k_steps))
end
end Mine

theorem PySem.Challenge.cw_rh0059_01_holds : PySem.Challenge.rw_rh0059_01.Holds :=
  Mine.walk1
