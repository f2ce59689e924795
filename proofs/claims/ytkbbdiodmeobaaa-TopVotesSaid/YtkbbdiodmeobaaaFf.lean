/- In which order they go, by both ways. Conditions: each theorem names its own. -/
import Derived.Test.YtkbbdiodmeobaaaProg
import Derived.Test.YtkbbdiodmeobaaaFe
namespace Go.Proofs.Ytkbbdiodmeobaaa
open Go.Abs
set_option linter.unusedVariables false
set_option linter.unusedSimpArgs false

/-! ### Those who are gone -/
structure GoneOk (n f : Nat) (g : List Int) : Prop where
  len : g.length + f = n
  nat : ∃ l : List Nat, g = l.map (fun (i : Nat) => (i : Int)) ∧ l.Nodup ∧ ∀ b, b ∈ l → b < n
theorem inj_le {n m : Nat} {f : Nat → Nat} (hf : ∀ k, k < n → f k < m) (hi : ∀ i k, i < n → k < n → f i = f k → i = k) : n ≤ m := by
  rcases Nat.lt_or_ge m n with h | h
  · exfalso
    have h0 := hf m h
    -- the first m of them: either they are all numbers below m, or two are the same
    obtain ⟨k, hk, e⟩ := full_of m f (fun k hk => hf k (by omega)) (fun i k h1 h2 e => hi i k (by omega) (by omega) e) (f m) h0
    have := hi k m (by omega) h e
    omega
  · exact h
theorem GoneOk.nil (n : Nat) : GoneOk n n [] := ⟨by simp, [], rfl, by simp, fun b hb => by simp at hb⟩
section
variable {n f : Nat} {g : List Int} {L : List (Int × List Int × Unit)}
theorem GoneOk.left (h : GoneOk n (f + 1) g) : ∃ y : Nat, y < n ∧ ¬ (y : Int) ∈ g := by
  by_cases c : ∃ y : Nat, y < n ∧ ¬ (y : Int) ∈ g
  · exact c
  · exfalso
    have hall : ∀ y : Nat, y < n → (y : Int) ∈ g := fun y hy => by
      by_cases c2 : (y : Int) ∈ g
      · exact c2
      · exact absurd ⟨y, hy, c2⟩ c
    have hl := h.len
    have := inj_le (n := n) (m := g.length) (f := fun y => (placeF g (y : Nat)).toNat) (fun k hk => by
      have h1 := place_mem.2 (hall k hk)
      have h2 := (placeF_lt (l := g) (x := (k : Nat))).1
      show (placeF g (k : Nat)).toNat < g.length
      omega) (fun i k hi hk e => by
      have h1 := place_mem.2 (hall i hi)
      have h2 := place_mem.2 (hall k hk)
      have e' : (placeF g (i : Nat)).toNat = (placeF g (k : Nat)).toNat := e
      have := placeF_inj h1 (by omega : placeF g (i : Nat) = placeF g (k : Nat))
      omega)
    omega
theorem GoneOk.add (h : GoneOk n (f + 1) g) {z : Nat} (hz : z < n) (hn : ¬ (z : Int) ∈ g) : GoneOk n f (g ++ [(z : Int)]) := by
  obtain ⟨l, e, hnd, hl⟩ := h.nat
  have := h.len
  refine ⟨by rw [List.length_append, List.length_singleton]; omega, l ++ [z], by rw [e]; simp, ?_, fun b hb => ?_⟩
  · rw [List.nodup_append]
    refine ⟨hnd, by simp, fun a ha b hb c => ?_⟩
    have hbz : b = z := by simpa using hb
    subst c
    subst hbz
    exact hn (by rw [e]; exact List.mem_map.2 ⟨a, ha, rfl⟩)
  · rcases List.mem_append.1 hb with c | c
    · exact hl b c
    · have : b = z := by simpa using c
      omega
/-- The place of the first one of an order that is left. -/
def idxG (l g : List Int) : Int := match firstI (fun i => !decide (0 ≤ placeF g (l.getD i 0))) l.length with | some i => (i : Int) | none => -1
theorem idxG_is {O : List Int} (hO : ordE n O = 0) (hg : ∃ y : Nat, y < n ∧ ¬ (y : Int) ∈ g) : ∃ k : Nat, idxG O g = (k : Int) ∧ k < n ∧ ¬ O.getD k 0 ∈ g ∧ ∀ j, j < k → O.getD j 0 ∈ g := by
  obtain ⟨y, hy, hyg⟩ := hg
  have hol := (ordE_zero hO).1
  have hp := ord_full hO (x := (y : Nat)) (by omega) (by omega)
  have ha := placeF_at hp
  unfold idxG
  cases e : firstI (fun i => !decide (0 ≤ placeF g (O.getD i 0))) O.length with
  | none =>
    have := firstI_none e _ ha.1
    rw [ha.2] at this
    exact absurd (place_mem.1 (by simpa using this)) hyg
  | some k =>
    have h1 := firstI_spec e
    refine ⟨k, rfl, by omega, fun c => ?_, fun j hj => ?_⟩
    · have := h1.2.1
      rw [decide_eq_true (place_mem.2 c)] at this; cases this
    · have := h1.2.2 j hj
      exact place_mem.1 (by simpa using this)
/-- Who is first of those that are left. -/
def fstG (O g : List Int) : Int := O.getD (idxG O g).toNat 0
def votTo (L : List (Int × List Int × Unit)) (g : List Int) (x : Int) : Nat → Int := sumTo fun b => if fstG (orF L b) g = x then cnF L b else 0
def votF (L : List (Int × List Int × Unit)) (g : List Int) (x : Int) : Int := votTo L g x L.length
theorem votTo_bd (hV : VOk n L) (x : Int) {b : Nat} (hb : b ≤ L.length) : 0 ≤ votTo L g x b ∧ votTo L g x b ≤ 30000 := by
  have h30 := hV.len
  have := sumTo_bd (f := fun b => if fstG (orF L b) g = x then cnF L b else 0) (A := 0) (B := 1000) (n := b) fun j hj => by
    have := hV.cnt j (by omega)
    split <;> omega
  unfold votTo; omega
theorem vot_zero : List.replicate n 0 = mapr n fun x => votTo L g (x : Nat) 0 := replicate_mapr n 0
theorem vot_set {b : Nat} (h0 : 0 ≤ fstG (orF L b) g) (v : Int) (hv : v = (mapr n fun x => votTo L g (x : Nat) b).getD (fstG (orF L b) g).toNat 0 + cnF L b) :
    (mapr n fun x => votTo L g (x : Nat) b).set (fstG (orF L b) g).toNat v = mapr n fun x => votTo L g (x : Nat) (b + 1) := by
  have hs : ∀ x : Int, votTo L g x (b + 1) = votTo L g x b + if fstG (orF L b) g = x then cnF L b else 0 := fun _ => rfl
  refine mapr_set (fun hlt => ?_) fun j hj hne => ?_
  · rw [hv, mapr_getD _ hlt, hs, Int.toNat_of_nonneg h0, if_pos rfl]
  · rw [hs, if_neg (by omega)]; omega
/-- Does one stand ahead of all others that are left? -/
def aheadTo (O g : List Int) (x : Int) : Nat → Bool
  | 0 => true
  | y + 1 => if ¬ 0 ≤ placeF g (y : Nat) ∧ placeF O (y : Nat) < placeF O x then false else aheadTo O g x y
theorem ahead_iff {O : List Int} {x : Int} : ∀ {m : Nat}, aheadTo O g x m = true ↔ ∀ y : Nat, y < m → ¬ (¬ 0 ≤ placeF g (y : Nat) ∧ placeF O (y : Nat) < placeF O x)
  | 0 => by simp [aheadTo]
  | m + 1 => by
    simp only [aheadTo]
    constructor
    · intro h y hy
      split at h
      · cases h
      · rename_i hn
        by_cases e : y = m
        · subst e; exact hn
        · exact ahead_iff.1 h y (by omega)
    · intro h
      rw [if_neg (h m (by omega))]
      exact ahead_iff.2 fun y hy => h y (by omega)
theorem fst_ahead {O : List Int} (hO : ordE n O = 0) (hg : ∃ y : Nat, y < n ∧ ¬ (y : Int) ∈ g) {x : Nat} (hx : x < n) (hxg : ¬ (x : Int) ∈ g) : fstG O g = (x : Int) ↔ aheadTo O g (x : Nat) n = true := by
  obtain ⟨k, hk, hkn, hkg, hb⟩ := idxG_is hO hg
  have ha := ord_at hO hkn
  have hxp := ord_full hO (x := (x : Nat)) (by omega) (by omega)
  have hxl := ord_lt hO (x : Nat)
  have hxa := placeF_at hxp
  have hf : fstG O g = O.getD k 0 := by unfold fstG; rw [hk, Int.toNat_natCast]
  rw [hf, ahead_iff]
  constructor
  · intro e y hy hc
    rw [← e, ha.2.2] at hc
    have hyp := ord_full hO (x := (y : Nat)) (by omega) (by omega)
    have hya := placeF_at hyp
    have := hb (placeF O (y : Nat)).toNat (by omega)
    rw [hya.2] at this
    exact hc.1 (place_mem.2 this)
  · intro h
    have h1 := h (O.getD k 0).toNat (by omega)
    rw [Int.toNat_of_nonneg ha.1, ha.2.2] at h1
    have h2 : ¬ (k : Int) < placeF O (x : Nat) := fun c => h1 ⟨fun d => hkg (place_mem.1 d), c⟩
    rcases Int.lt_or_le (placeF O (x : Nat)) (k : Int) with h3 | h3
    · have := hb (placeF O (x : Nat)).toNat (by omega)
      rw [hxa.2] at this
      exact absurd this hxg
    · have : placeF O (x : Nat) = (k : Nat) := by omega
      exact ((ord_is hO hkn).1 this).symm
/-- Who goes: the last of those with the fewest votes. -/
def worstTo (V : Int → Int) (g : List Int) : Nat → Int
  | 0 => -1
  | i + 1 => if ¬ 0 ≤ placeF g (i : Nat) ∧ (worstTo V g i < 0 ∨ V (i : Nat) ≤ V (worstTo V g i)) then (i : Int) else worstTo V g i
theorem worst_in {V : Int → Int} : ∀ m, worstTo V g m = -1 ∨ ∃ z : Nat, worstTo V g m = (z : Int) ∧ z < m ∧ ¬ (z : Int) ∈ g
  | 0 => .inl rfl
  | m + 1 => by
    simp only [worstTo]
    split
    · rename_i h; exact .inr ⟨m, rfl, by omega, fun c => h.1 (place_mem.2 c)⟩
    · exact (worst_in m).imp id fun ⟨z, h1, h2, h3⟩ => ⟨z, h1, by omega, h3⟩
theorem worst_there {V : Int → Int} : ∀ m, (∃ y : Nat, y < m ∧ ¬ (y : Int) ∈ g) → 0 ≤ worstTo V g m
  | 0, ⟨y, hy, _⟩ => absurd hy (Nat.not_lt_zero _)
  | m + 1, ⟨y, hy, hg⟩ => by
    simp only [worstTo]
    split
    · omega
    · rename_i h
      by_cases e : y = m
      · subst e
        have h1 : ¬ 0 ≤ placeF g (y : Nat) := fun c => hg (place_mem.1 c)
        rcases worst_in (V := V) (g := g) y with h2 | ⟨z, h2, _, _⟩
        · exact absurd ⟨h1, .inl (by omega)⟩ h
        · omega
      · exact worst_there m ⟨y, by omega, hg⟩
theorem worst_same {V U : Int → Int} : ∀ m, (∀ x : Nat, x < m → ¬ (x : Int) ∈ g → V (x : Nat) = U (x : Nat)) → worstTo V g m = worstTo U g m
  | 0, _ => rfl
  | m + 1, h => by
    have ih := worst_same (V := V) (U := U) m fun x hx => h x (by omega)
    simp only [worstTo]
    rw [ih]
    by_cases e : 0 ≤ placeF g (m : Nat)
    · rw [if_neg fun c => c.1 e, if_neg fun c => c.1 e]
    · have h1 := h m (by omega) fun c => e (place_mem.2 c)
      rcases worst_in (V := U) (g := g) m with h2 | ⟨z, h2, h3, h4⟩
      · rw [h2, if_pos ⟨e, .inl (by omega)⟩, if_pos ⟨e, .inl (by omega)⟩]
      · rw [h2, h1, h z (by omega) h4]
/-- The order in which they go. -/
def goneTo (n : Nat) (L : List (Int × List Int × Unit)) : Nat → List Int
  | 0 => []
  | k + 1 => goneTo n L k ++ [worstTo (votF L (goneTo n L k)) (goneTo n L k) n]
theorem gone_ok : ∀ k, k ≤ n → GoneOk n (n - k) (goneTo n L k)
  | 0, _ => GoneOk.nil n
  | k + 1, hk => by
    have ih : GoneOk n (n - k) (goneTo n L k) := gone_ok k (by omega)
    rw [show n - k = (n - (k + 1)) + 1 by omega] at ih
    have hl := ih.left
    have h0 := worst_there (V := votF L (goneTo n L k)) n hl
    rcases worst_in (V := votF L (goneTo n L k)) (g := goneTo n L k) n with h | ⟨z, h, hz, hzg⟩
    · omega
    · simp only [goneTo]; rw [h]; exact ih.add hz hzg
theorem gone_len {k : Nat} (hk : k ≤ n) : (goneTo n L k).length = k := by
  have := (gone_ok (L := L) k hk).len
  omega
theorem gone_left {k : Nat} (hk : k < n) : ∃ y : Nat, y < n ∧ ¬ (y : Int) ∈ goneTo n L k := by
  have := gone_ok (n := n) (L := L) k (by omega)
  rw [show n - k = (n - (k + 1)) + 1 by omega] at this
  exact this.left
theorem aheadTo_yes {O : List Int} {x : Int} {y : Nat} (h : ¬ 0 ≤ placeF g (y : Nat) ∧ placeF O (y : Nat) < placeF O x) : false = aheadTo O g x (y + 1) := by simp only [aheadTo]; rw [if_pos h]
theorem aheadTo_no {O : List Int} {x : Int} {y : Nat} (h : ¬ (¬ 0 ≤ placeF g (y : Nat) ∧ placeF O (y : Nat) < placeF O x)) : aheadTo O g x y = aheadTo O g x (y + 1) := by simp only [aheadTo]; rw [if_neg h]
theorem worst_yes {V : Int → Int} {i : Nat} (h : ¬ 0 ≤ placeF g (i : Nat) ∧ (worstTo V g i < 0 ∨ V (i : Nat) ≤ V (worstTo V g i))) : (i : Int) = worstTo V g (i + 1) := by simp only [worstTo]; rw [if_pos h]
theorem worst_no {V : Int → Int} {i : Nat} (h : ¬ (¬ 0 ≤ placeF g (i : Nat) ∧ (worstTo V g i < 0 ∨ V (i : Nat) ≤ V (worstTo V g i)))) : worstTo V g i = worstTo V g (i + 1) := by simp only [worstTo]; rw [if_neg h]
/-- What the document reckons, ballot by ballot. -/
theorem vot_yes {x i : Nat} (hO : ordE n (orF L i) = 0) (hg : ∃ y : Nat, y < n ∧ ¬ (y : Int) ∈ g) (hx : x < n) (hxg : ¬ (x : Int) ∈ g) (h : aheadTo (orF L i) g (x : Nat) n = true) : votTo L g (x : Nat) i + cnF L i = votTo L g (x : Nat) (i + 1) := by
  simp only [votTo, sumTo]; rw [if_pos ((fst_ahead hO hg hx hxg).2 h)]
theorem vot_no {x i : Nat} (hO : ordE n (orF L i) = 0) (hg : ∃ y : Nat, y < n ∧ ¬ (y : Int) ∈ g) (hx : x < n) (hxg : ¬ (x : Int) ∈ g) (h : aheadTo (orF L i) g (x : Nat) n = false) : votTo L g (x : Nat) i = votTo L g (x : Nat) (i + 1) := by
  simp only [votTo, sumTo]; rw [if_neg fun c => (by rw [(fst_ahead hO hg hx hxg).1 c] at h; simp at h), Int.add_zero]
/-- The least so far, as the document keeps it. -/
def leastF (V : Int → Int) (w : Int) : Int := if w < 0 then 0 else V w
theorem fold_fst (O g : List Int) : O.getD (idxG O g).toNat 0 = fstG O g := rfl
theorem wst_conv {V : Int → Int} {i : Nat} (hi : i < n) : (¬ 0 ≤ placeF g (i : Nat) ∧ (worstTo V g i < 0 ∨ (mapr n fun x => V (x : Nat)).getD i 0 ≤ (mapr n fun x => V (x : Nat)).getD (worstTo V g i).toNat 0)) ↔ (¬ 0 ≤ placeF g (i : Nat) ∧ (worstTo V g i < 0 ∨ V (i : Nat) ≤ V (worstTo V g i))) := by
  rw [mapr_getD _ hi]
  rcases worst_in (V := V) (g := g) i with h | ⟨z, h, hz, _⟩
  · rw [h]; simp
  · rw [h, Int.toNat_natCast, mapr_getD _ (show z < n by omega)]
end
theorem run_yes {L : List (Int × List Int × Unit)} {g : List Int} {w : Int} {x i : Nat} (hi : i = L.length) (h : w < 0 ∨ votTo L g (x : Nat) i ≤ leastF (votF L g) w) : w < 0 ∨ votF L g (x : Nat) ≤ votF L g w := by
  subst hi
  rcases Int.lt_or_le w 0 with c | c
  · exact .inl c
  · unfold leastF at h
    rw [if_neg (by omega)] at h
    exact .inr (h.resolve_left (by omega))
theorem run_no {L : List (Int × List Int × Unit)} {g : List Int} {w : Int} {x i : Nat} (hi : i = L.length) (h : ¬ w < 0 ∧ ¬ votTo L g (x : Nat) i ≤ leastF (votF L g) w) : ¬ (w < 0 ∨ votF L g (x : Nat) ≤ votF L g w) := by
  subst hi
  unfold leastF at h
  rw [if_neg h.1] at h
  exact fun c => c.elim h.1 h.2
theorem run_least {L : List (Int × List Int × Unit)} {g : List Int} {x i : Nat} (hi : i = L.length) : votTo L g (x : Nat) i = leastF (votF L g) (x : Nat) := by
  subst hi
  unfold leastF; rw [if_neg (by omega)]; rfl

set_option maxRecDepth 1000000 in
set_option maxHeartbeats 1000000 in
theorem run1_fch (g : List Int) (x : Int) : FCH Try.prog 51 [.pv (.i x), .ref 0 0] [(0, .box [.own 1]), (1, .arr 3 1 Int 0 (fun n => [.int .i64 n]) g)] [(0, .box [.own 1]), (1, .arr 3 1 Int 0 (fun n => [.int .i64 n]) g)] (.pv (.bool (!decide (0 ≤ placeF g x)))) none := by
  refine FCH.intro Try.func51 rfl (Nat.le_of_ble_eq_true rfl) (Nat.le_of_ble_eq_true rfl) fun hfit ι0 => ?_
  change awp _ _ _ _ ⟨[(0, .pv (.i x)), (1, .ref 0 0), (1000000, .pin 0 (ι0 0)), (1000001, .pin 1 (ι0 1))], [(0, .box [.own 1]), (1, .arr 3 1 Int 0 (fun n => [.int .i64 n]) g)]⟩
  have fit0 : -9223372036854775808 ≤ (x : Int) ∧ (x : Int) ≤ 9223372036854775807 := (hfit _ (.head _)).int64
  refine awp_seq ?_
  refine awp_region rfl (.n (fun _ => op_assign (.plain rfl)) (.nil _)) ?_
  refine awp_seq ?_
  refine awp_region rfl (.r (op_loadR Try.isAgg23 (.plain rfl) rfl rfl) (.n (fun _ => op_move (.plain rfl)) (.r (op_callL (vals := [_, _]) Try.call52 ⟨⟨_, (.plain rfl), rfl⟩, ⟨_, (.plain rfl), rfl⟩, trivial⟩ (Contains_fc _ _) rfl) (.n (fun _ => op_not (.plain rfl)) (.n (fun _ => op_assign (.plain rfl)) (.nil _)))))) ?_
  refine awp_ret ?_
  refine retH.ret ?_
  refine retH1 rfl rfl ⟨rfl, rfl, trivial⟩ ⟨.inr rfl, .inr rfl, trivial⟩ ?_
  rfl

set_option maxRecDepth 1000000 in
set_option maxHeartbeats 1000000 in
theorem IndexFunc_fch (l g : List Int) : FCH Try.prog 50 [.pv (.ints l), .clo (.func 51) [.ref 0 0]] [(0, .box [.own 1]), (1, .arr 3 1 Int 0 (fun n => [.int .i64 n]) g)] [(0, .box [.own 1]), (1, .arr 3 1 Int 0 (fun n => [.int .i64 n]) g)] (.pv (.i (idxG l g))) none := by
  refine FCH.intro Try.func50 rfl (Nat.le_of_ble_eq_true rfl) (Nat.le_of_ble_eq_true rfl) fun hfit ι0 => ?_
  change awp _ _ _ _ ⟨[(0, .pv (.ints l)), (1, .clo (.func 51) [.ref 0 0]), (1000000, .pin 0 (ι0 0)), (1000001, .pin 1 (ι0 1))], [(0, .box [.own 1]), (1, .arr 3 1 Int 0 (fun n => [.int .i64 n]) g)]⟩
  obtain ⟨fitl0, fitr0⟩ := (hfit _ (.head _)).ints
  refine awp_seq ?_
  refine awp_region rfl (.n (fun _ => op_assign (.plain rfl)) (.nil _)) ?_
  refine awp_seq ?_
  refine awp_seq ?_
  refine awp_region rfl (.n (fun _ => op_move (.plain rfl)) (.n (fun _ => op_len (s := 0) Try.underlying23 (.plain rfl)) (.n (fun _ => op_move (.plain rfl)) (.nil _)))) ?_
  refine awp_block ?_
  refine awp_loop (σ := Nat) (fun (k : Nat) => k ≤ l.length ∧ firstI (fun i => !decide (0 ≤ placeF g (l.getD i 0))) k = none) (fun (k : Nat) => ⟨[(0, .pv (.ints l)), (1, .clo (.func 51) [.ref 0 0]), (6, .pv (.ints l)), (7, .int (l.length : Nat)), (8, .int (k : Nat)), (1000000, .pin 0 (ι0 0)), (1000001, .pin 1 (ι0 1))], [(0, .box [.own 1]), (1, .arr 3 1 Int 0 (fun n => [.int .i64 n]) g)]⟩) (fun (k : Nat) => l.length - k) 0 ?_ (Ent.kept ⟨rfl, rfl, rfl, rfl, rfl, rfl, rfl, trivial⟩ ⟨rfl, rfl, trivial⟩) ?_
  · exact ⟨Nat.zero_le _, rfl⟩
  rintro k hp
  try dsimp only at hp
  obtain ⟨hk, hE⟩ := hp
  refine awp_seq ?_
  refine awp_region rfl (.n (fun _ => op_lss (.plain rfl) (.plain rfl)) (.nil _)) ?_
  refine awp_seq ?_
  refine awp_cond rfl (fun h => ?_) (fun h => ?_)
  · (try simp only [decide_eq_true_eq, decide_eq_false_iff_not, Bool.and_eq_true, Bool.or_eq_true, Bool.and_eq_false_iff, Bool.or_eq_false_iff, Bool.not_eq_true', Bool.not_eq_false', Bool.not_eq_true, Bool.not_eq_false, Bool.true_eq_false, Bool.false_eq_true] at h); (try simp only [fold_c, fold_o, Int.toNat_natCast] at h)
    refine awp_skip ?_
    refine awp_seq ?_
    refine awp_block ?_
    refine awp_seq ?_
    refine awp_region rfl (.n (fun _ => op_move (.plain rfl)) (.n (fun _ => op_assign (.plain rfl)) (.nil _))) ?_
    refine awp_seq ?_
    refine awp_region rfl (.n (fun _ => op_move (.plain rfl)) (.n (fun _ => op_move (.plain rfl)) (.n (fun _ => op_move (.plain rfl)) (.n (fun _ => op_indexAddrN Try.underlying23 Try.sizeOf3 (.plain rfl) (.plain rfl) (fun _ => rfl) ?_) (.n (fun _ => op_load Try.isAgg3 (.plain rfl)) (.r (op_callVHR (ags := [_]) (fun k => [0, 1].getD k 0) Try.call51 (run1_fch _ _) (.plain rfl) ⟨(.plain rfl), trivial⟩ ⟨rfl, rfl, trivial⟩ (by kernel_rfl)) (.nil _))))))) ?_
    · omega
    refine awp_cond rfl (fun h => ?_) (fun h => ?_)
    · (try simp only [decide_eq_true_eq, decide_eq_false_iff_not, Bool.and_eq_true, Bool.or_eq_true, Bool.and_eq_false_iff, Bool.or_eq_false_iff, Bool.not_eq_true', Bool.not_eq_false', Bool.not_eq_true, Bool.not_eq_false, Bool.true_eq_false, Bool.false_eq_true] at h); (try simp only [fold_c, fold_o, Int.toNat_natCast] at h)
      refine awp_seq ?_
      refine awp_region rfl (.n (fun _ => op_move (.plain rfl)) (.n (fun _ => op_assign (.plain rfl)) (.nil _))) ?_
      refine awp_ret ?_
      refine retH.ret ?_
      refine retH1 rfl rfl ⟨rfl, rfl, trivial⟩ ⟨.inr rfl, .inr rfl, trivial⟩ ?_
      unfold idxG
      rw [firstI_stop hE (by simpa using h) (by omega)]
    · (try simp only [decide_eq_true_eq, decide_eq_false_iff_not, Bool.and_eq_true, Bool.or_eq_true, Bool.and_eq_false_iff, Bool.or_eq_false_iff, Bool.not_eq_true', Bool.not_eq_false', Bool.not_eq_true, Bool.not_eq_false, Bool.true_eq_false, Bool.false_eq_true] at h); (try simp only [fold_c, fold_o, Int.toNat_natCast] at h)
      refine awp_skip ?_
      refine awp_region rfl (.n (fun _ => op_add (.plain rfl) (.plain rfl) ?_) (.n (fun _ => op_move (.plain rfl)) (.nil _))) ?_
      · unfold InR; omega
      exact ⟨k + 1, ⟨by omega, firstI_succ hE (by simpa using h)⟩, by dsimp only; omega, (Ent.kept ⟨rfl, rfl, rfl, rfl, rfl, rfl, rfl, trivial⟩ ⟨rfl, rfl, trivial⟩)⟩
  · (try simp only [decide_eq_true_eq, decide_eq_false_iff_not, Bool.and_eq_true, Bool.or_eq_true, Bool.and_eq_false_iff, Bool.or_eq_false_iff, Bool.not_eq_true', Bool.not_eq_false', Bool.not_eq_true, Bool.not_eq_false, Bool.true_eq_false, Bool.false_eq_true] at h); (try simp only [fold_c, fold_o, Int.toNat_natCast] at h)
    refine awp_exit ?_
    refine awp_seq ?_
    refine awp_region rfl (.n (fun _ => op_assign (.plain rfl)) (.nil _)) ?_
    refine awp_ret ?_
    refine retH.ret ?_
    refine retH1 rfl rfl ⟨rfl, rfl, trivial⟩ ⟨.inr rfl, .inr rfl, trivial⟩ ?_
    obtain rfl : k = l.length := by omega
    unfold idxG
    rw [hE]

set_option maxRecDepth 1000000 in
set_option maxHeartbeats 4000000 in
theorem Runoff_fc (n : Nat) (L : List (Int × List Int × Unit)) (hv : voteE n L = 0) : FC Try.prog 17 [.i (n : Nat), .seq (Int × List Int × Unit) (0, [], ()) (fun b => [.i b.1, .ints b.2.1]) L] (.tup [.ints (goneTo n L n), .i 0]) := by
  refine FC.intro Try.func17 rfl (Nat.le_of_ble_eq_true rfl) fun hfit => ?_
  have fit0 : -9223372036854775808 ≤ ((n : Nat) : Int) ∧ ((n : Nat) : Int) ≤ 9223372036854775807 := (hfit _ (.head _)).int64
  have fit1 := hfit _ (.tail _ (.head _))
  have hV := vok hv
  have hL30 := hV.len
  have hn := hV.n6
  have hn1 := hV.n1
  refine awp_seq ?_
  refine awp_region rfl (.n (fun _ => op_assign (.plain rfl)) (.n (fun _ => op_assign (.plain rfl)) (.nil _))) ?_
  refine awp_seq ?_
  refine awp_seq ?_
  refine awp_region rfl (.n (fun _ => op_move (.plain rfl)) (.n (fun _ => op_move (.plain rfl)) (.n (fun _ => op_call2 Try.call9 (.plain rfl) (.plain rfl) (May_fc _ _)) (.n (fun _ => op_assign (.plain rfl)) (.nil _))))) ?_
  refine awp_seq ?_
  refine awp_region rfl (.n (fun _ => op_move (.plain rfl)) (.n (fun _ => op_neq (.plain rfl) (.plain rfl)) (.nil _))) ?_
  refine awp_cond rfl (fun h => ?_) (fun h => ?_)
  · (try simp only [decide_eq_true_eq, decide_eq_false_iff_not, Bool.and_eq_true, Bool.or_eq_true, Bool.and_eq_false_iff, Bool.or_eq_false_iff, Bool.not_eq_true', Bool.not_eq_false', Bool.not_eq_true, Bool.not_eq_false, Bool.true_eq_false, Bool.false_eq_true] at h); (try simp only [fold_c, fold_o, Int.toNat_natCast] at h)
    exfalso
    exact h hv
  · (try simp only [decide_eq_true_eq, decide_eq_false_iff_not, Bool.and_eq_true, Bool.or_eq_true, Bool.and_eq_false_iff, Bool.or_eq_false_iff, Bool.not_eq_true', Bool.not_eq_false', Bool.not_eq_true, Bool.not_eq_false, Bool.true_eq_false, Bool.false_eq_true] at h); (try simp only [fold_c, fold_o, Int.toNat_natCast] at h)
    refine awp_skip ?_
    refine awp_seq ?_
    refine awp_region rfl (.e (op_alloc 7 Try.zeroValue23 rfl rfl rfl) rfl (.nil _)) ?_
    refine awp_seq ?_
    refine awp_block ?_
    refine awp_ent (Ent.beginB 7 0 2000 3 1 Int 0 (fun n => [.int .i64 n]) rfl rfl (by decide) rfl rfl) ?_
    refine awp_loop (σ := Nat) (fun (kq : Nat) => kq ≤ n) (fun (kq : Nat) => ⟨[(0, .pv (.i (n : Nat))), (1, .pv (.seq (Int × List Int × Unit) (0, [], ()) (fun b => [.i b.1, .ints b.2.1]) L)), (7, .ref 7 0)], [(7, .box [.own 2000]), (2000, .arr 3 1 Int 0 (fun n => [.int .i64 n]) (goneTo n L kq))]⟩) (fun (kq : Nat) => n - kq) 0 ?_ (Ent.kept ⟨rfl, rfl, rfl, trivial⟩ ⟨rfl, rfl, trivial⟩) ?_
    · exact Nat.zero_le _
    rintro kq hp
    try dsimp only at hp
    have hkn := hp
    have hgl0 := gone_len (L := L) hkn
    refine awp_seq ?_
    refine awp_seq ?_
    refine awp_region rfl (.r (op_loadR Try.isAgg23 (.plain rfl) rfl rfl) (.r (op_lenO Try.underlying23 (.plain rfl) rfl) (.n (fun _ => op_move (.plain rfl)) (.n (fun _ => op_lss (.plain rfl) (.plain rfl)) (.nil _))))) ?_
    refine awp_cond rfl (fun h => ?_) (fun h => ?_)
    · (try simp only [decide_eq_true_eq, decide_eq_false_iff_not, Bool.and_eq_true, Bool.or_eq_true, Bool.and_eq_false_iff, Bool.or_eq_false_iff, Bool.not_eq_true', Bool.not_eq_false', Bool.not_eq_true, Bool.not_eq_false, Bool.true_eq_false, Bool.false_eq_true] at h); (try simp only [fold_c, fold_o, Int.toNat_natCast] at h)
      have hlf := gone_left (L := L) (show kq < n by have := gone_len (L := L) hkn; omega)
      have hgl := gone_len (L := L) hkn
      refine awp_skip ?_
      refine awp_block ?_
      refine awp_seq ?_
      refine awp_region rfl (.n (fun _ => op_move (.plain rfl)) (.e (op_make (α := Int) (d := 0) (f := (fun n => [.int .i64 n])) 25 0 ety23 (.plain rfl) (.plain rfl) (fun _ => rfl) rfl rfl ?_) rfl (.n (fun _ => op_assign (.plain rfl)) (.nil _)))) ?_
      · (try simp only [fold_c, fold_o, fold_fst, Int.toNat_natCast, mapr_length])
        (try rw [hat])
        omega
      refine awp_seq ?_
      refine awp_seq ?_
      refine awp_region rfl (.n (fun _ => op_move (.plain rfl)) (.n (fun _ => op_len (s := 0) Try.underlying22 (.plain rfl)) (.n (fun _ => op_move (.plain rfl)) (.nil _)))) ?_
      refine awp_block ?_
      refine awp_loop (σ := Nat) (fun (bq : Nat) => bq ≤ L.length) (fun (bq : Nat) => ⟨[(0, .pv (.i (n : Nat))), (1, .pv (.seq (Int × List Int × Unit) (0, [], ()) (fun b => [.i b.1, .ints b.2.1]) L)), (7, .ref 7 0), (8, .own 25), (26, .pv (.seq (Int × List Int × Unit) (0, [], ()) (fun b => [.i b.1, .ints b.2.1]) L)), (27, .int (L.length : Nat)), (28, .int (bq : Nat))], [(7, .box [.own 2000]), (2000, .arr 3 1 Int 0 (fun n => [.int .i64 n]) (goneTo n L kq)), (25, .arr 3 1 Int 0 (fun n => [.int .i64 n]) (mapr n fun x => votTo L (goneTo n L kq) (x : Nat) bq))]⟩) (fun (bq : Nat) => L.length - bq) 0 ?_ (Ent.kept ⟨rfl, rfl, rfl, rfl, rfl, rfl, rfl, trivial⟩ ⟨rfl, rfl, (congrArg (fun l => some (Blk.arr 3 1 Int 0 (fun n => [.int .i64 n]) l)) (vot_zero)), trivial⟩) ?_
      · exact Nat.zero_le _
      rintro bq hp
      try dsimp only at hp
      have hbq := hp
      refine awp_seq ?_
      refine awp_region rfl (.n (fun _ => op_lss (.plain rfl) (.plain rfl)) (.nil _)) ?_
      refine awp_seq ?_
      refine awp_cond rfl (fun h => ?_) (fun h => ?_)
      · (try simp only [decide_eq_true_eq, decide_eq_false_iff_not, Bool.and_eq_true, Bool.or_eq_true, Bool.and_eq_false_iff, Bool.or_eq_false_iff, Bool.not_eq_true', Bool.not_eq_false', Bool.not_eq_true, Bool.not_eq_false, Bool.true_eq_false, Bool.false_eq_true] at h); (try simp only [fold_c, fold_o, Int.toNat_natCast] at h)
        have hO := hV.ord bq (by omega)
        have hOl := hV.olen bq (by omega)
        have hcb := hV.cnt bq (by omega)
        obtain ⟨z, hz, hzn, hzg, hzb⟩ := idxG_is hO hlf
        have hza := ord_at hO hzn
        have hfg : fstG (orF L bq) (goneTo n L kq) = (orF L bq).getD z 0 := by unfold fstG; rw [hz, Int.toNat_natCast]
        have hvb := votTo_bd (g := (goneTo n L kq)) hV (fstG (orF L bq) (goneTo n L kq)) (show bq ≤ L.length by omega)
        have hat : (mapr n fun x => votTo L (goneTo n L kq) (x : Nat) bq).getD (fstG (orF L bq) (goneTo n L kq)).toNat 0 = votTo L (goneTo n L kq) (fstG (orF L bq) (goneTo n L kq)) bq := by rw [mapr_getD _ (by omega), Int.toNat_of_nonneg (by omega)]
        refine awp_skip ?_
        refine awp_seq ?_
        refine awp_block ?_
        refine awp_seq ?_
        refine awp_region rfl (.n (fun _ => op_indexAddrN Try.underlying22 Try.sizeOf40 (.plain rfl) (.plain rfl) (fun _ => rfl) ?_) (.n (fun _ => op_load_agg Try.isAgg40 Try.sizeOf40 (.plain rfl) (Nat.le_of_ble_eq_true rfl)) (.e (op_alloc 10 Try.zeroValue40 rfl rfl rfl) rfl (.e (op_storeRA Try.sizeOf40 (.plain rfl) (.plain rfl) rfl rfl (Nat.le_of_ble_eq_true rfl) rfl) rfl (.nil _))))) ?_
        · (try simp only [fold_c, fold_o, fold_fst, Int.toNat_natCast, mapr_length])
          (try rw [hat])
          omega
        refine awp_seq ?_
        refine awp_region rfl (.n (fun _ => op_fieldAddrR Try.underlying40 rfl rfl Try.sizeOf23 (.plain rfl)) (.r (op_loadR Try.isAgg23 (.plain rfl) rfl rfl) (.n (fun _ => op_makeFuncS (cs := [_]) ⟨(.plain rfl), trivial⟩) (.r (op_callHR (fun k => [7, 2000].getD k 0) Try.call50 (IndexFunc_fch _ _) ⟨(.plain rfl), (.plain rfl), trivial⟩ ⟨rfl, rfl, trivial⟩ (by kernel_rfl)) (.n (fun _ => op_assign (.plain rfl)) (.nil _)))))) ?_
        refine awp_region_draw mixed rfl (.n (fun _ => op_move (.plain rfl)) (.n (fun _ => op_fieldAddrR Try.underlying40 rfl rfl Try.sizeOf23 (.plain rfl)) (.r (op_loadR Try.isAgg23 (.plain rfl) rfl rfl) (.n (fun _ => op_move (.plain rfl)) (.n (fun _ => op_indexAddr Try.underlying23 Try.sizeOf3 (.plain rfl) (.plain rfl) (fun _ => rfl) ?_) (.n (fun _ => op_load Try.isAgg3 (.plain rfl)) (.r (op_indexAddrO Try.underlying23 Try.sizeOf3 (.plain rfl) rfl (.plain rfl) ?_) (.r (op_loadE Try.isAgg3 (.plain rfl) rfl (fun _ => rfl) ?_ rfl) (.n (fun _ => op_fieldAddrR Try.underlying40 rfl rfl Try.sizeOf3 (.plain rfl)) (.r (op_loadR Try.isAgg3 (.plain rfl) rfl rfl) (.n (fun _ => op_add (.plain rfl) (.plain rfl) ?_) (.r (op_indexAddrO Try.underlying23 Try.sizeOf3 (.plain rfl) rfl (.plain rfl) ?_) (.e (op_storeE _ Try.sizeOf3 (.plain rfl) (.plain rfl) rfl (fun _ => rfl) ?_ (by decide) rfl rfl) rfl (.nil _)))))))))))))) ?d1 ?_
        · (try simp only [fold_c, fold_o, fold_fst, Int.toNat_natCast, mapr_length])
          (try rw [hat])
          omega
        · (try simp only [fold_c, fold_o, fold_fst, Int.toNat_natCast, mapr_length])
          (try rw [hat])
          first | omega | (simp; omega)
        · (try simp only [fold_c, fold_o, fold_fst, Int.toNat_natCast, mapr_length])
          (try rw [hat])
          first | omega | (simp; omega)
        · (try simp only [fold_c, fold_o, fold_fst, Int.toNat_natCast, mapr_length])
          (try rw [hat])
          unfold InR; omega
        · (try simp only [fold_c, fold_o, fold_fst, Int.toNat_natCast, mapr_length])
          (try rw [hat])
          first | omega | (simp; omega)
        · (try simp only [fold_c, fold_o, fold_fst, Int.toNat_natCast, mapr_length])
          (try rw [hat])
          first | omega | (simp; omega)
        · kernel_rfl
        refine awp_region rfl (.n (fun _ => op_add (.plain rfl) (.plain rfl) ?_) (.n (fun _ => op_move (.plain rfl)) (.nil _))) ?_
        · (try simp only [fold_c, fold_o, fold_fst, Int.toNat_natCast, mapr_length])
          (try rw [hat])
          unfold InR; omega
        exact ⟨bq + 1, by omega, by dsimp only; omega, (Ent.kept ⟨rfl, rfl, rfl, rfl, rfl, rfl, rfl, trivial⟩ ⟨rfl, rfl, (congrArg (fun l => some (Blk.arr 3 1 Int 0 (fun n => [.int .i64 n]) l)) (vot_set (by omega) _ rfl)), trivial⟩)⟩
      · (try simp only [decide_eq_true_eq, decide_eq_false_iff_not, Bool.and_eq_true, Bool.or_eq_true, Bool.and_eq_false_iff, Bool.or_eq_false_iff, Bool.not_eq_true', Bool.not_eq_false', Bool.not_eq_true, Bool.not_eq_false, Bool.true_eq_false, Bool.false_eq_true] at h); (try simp only [fold_c, fold_o, Int.toNat_natCast] at h)
        refine awp_exit ?_
        refine awp_seq ?_
        refine awp_region rfl (.n (fun _ => op_assign (.plain rfl)) (.nil _)) ?_
        refine awp_seq ?_
        refine awp_seq ?_
        refine awp_region rfl (.n (fun _ => op_move (.plain rfl)) (.n (fun _ => op_move (.plain rfl)) (.nil _))) ?_
        refine awp_block ?_
        refine awp_loop (σ := Nat) (fun (iq : Nat) => iq ≤ n) (fun (iq : Nat) => ⟨[(0, .pv (.i (n : Nat))), (1, .pv (.seq (Int × List Int × Unit) (0, [], ()) (fun b => [.i b.1, .ints b.2.1]) L)), (7, .ref 7 0), (8, .own 25), (12, .int (worstTo (votF L (goneTo n L kq)) (goneTo n L kq) iq)), (49, .int (n : Nat)), (50, .int (iq : Nat))], [(7, .box [.own 2000]), (2000, .arr 3 1 Int 0 (fun n => [.int .i64 n]) (goneTo n L kq)), (25, .arr 3 1 Int 0 (fun n => [.int .i64 n]) (mapr n fun x => votF L (goneTo n L kq) (x : Nat)))]⟩) (fun (iq : Nat) => n - iq) 0 ?_ (Ent.kept ⟨rfl, rfl, rfl, rfl, rfl, rfl, rfl, trivial⟩ ⟨rfl, rfl, (congrArg (fun l => some (Blk.arr 3 1 Int 0 (fun n => [.int .i64 n]) l)) (by rw [show bq = L.length by omega]; rfl)), trivial⟩) ?_
        · exact Nat.zero_le _
        rintro iq hp
        try dsimp only at hp
        have hi := hp
        refine awp_seq ?_
        refine awp_region rfl (.n (fun _ => op_lss (.plain rfl) (.plain rfl)) (.nil _)) ?_
        refine awp_seq ?_
        refine awp_cond rfl (fun h => ?_) (fun h => ?_)
        · (try simp only [decide_eq_true_eq, decide_eq_false_iff_not, Bool.and_eq_true, Bool.or_eq_true, Bool.and_eq_false_iff, Bool.or_eq_false_iff, Bool.not_eq_true', Bool.not_eq_false', Bool.not_eq_true, Bool.not_eq_false, Bool.true_eq_false, Bool.false_eq_true] at h); (try simp only [fold_c, fold_o, Int.toNat_natCast] at h)
          refine awp_skip ?_
          refine awp_seq ?_
          refine awp_block ?_
          refine awp_seq ?_
          refine awp_region rfl (.n (fun _ => op_move (.plain rfl)) (.n (fun _ => op_assign (.plain rfl)) (.nil _))) ?_
          refine awp_seq ?_
          refine awp_region_draw mixed rfl (.r (op_loadR Try.isAgg23 (.plain rfl) rfl rfl) (.n (fun _ => op_move (.plain rfl)) (.r (op_callL (vals := [_, _]) Try.call52 ⟨⟨_, (.plain rfl), rfl⟩, ⟨_, (.plain rfl), rfl⟩, trivial⟩ (Contains_fc _ _) rfl) (.n (fun _ => op_not (.plain rfl)) (.n (fun _ => op_move (.plain rfl)) (.gn rfl rfl (fun hg _ => op_move (.plain rfl)) (.gn rfl rfl (fun hg _ => op_lss (.opt rfl fun h => h) (.plain rfl)) (.gn rfl rfl (fun hg _ => op_move (.opt rfl fun h => h)) (.ggn rfl rfl (fun hg _ => op_move (.plain rfl)) (.ggn rfl rfl (fun hg _ => op_move (.plain rfl)) (.ggr rfl rfl (fun hg => op_indexAddrON Try.underlying23 Try.sizeOf3 (.opt rfl fun h => h) rfl (.opt rfl fun h => h) ?_) (.ggr rfl rfl (fun hg => op_loadE Try.isAgg3 (.opt rfl fun h => h) rfl (fun _ => rfl) ?_ rfl) (.ggn rfl rfl (fun hg _ => op_move (.plain rfl)) (.ggn rfl rfl (fun hg _ => op_move (.plain rfl)) (.ggr rfl rfl (fun hg => op_indexAddrO Try.underlying23 Try.sizeOf3 (.opt rfl fun h => h) rfl (.opt rfl fun h => h) ?_) (.ggr rfl rfl (fun hg => op_loadE Try.isAgg3 (.opt rfl fun h => h) rfl (fun _ => rfl) ?_ rfl) (.ggn rfl rfl (fun hg _ => op_leq (.opt rfl fun h => h) (.opt rfl fun h => h)) (.gn rfl rfl (fun hg _ => op_or (.opt rfl fun h => h) (.plain rfl) (.plain rfl) (fun h => andI hg (eqF h))) (.n (fun _ => op_and (.plain rfl) (.plain rfl) (.plain rfl) (fun h => eqT h)) (.nil _)))))))))))))))))))) ?d2 ?_
          · try simp only [beq_iff_eq, beq_true, beq_false, Bool.and_eq_true, decide_eq_true_eq, decide_eq_false_iff_not, Bool.not_eq_true', Bool.or_eq_true, Bool.or_eq_false_iff] at hg
            (try simp only [fold_c, fold_o, fold_fst, Int.toNat_natCast, mapr_length])
            (try rw [hat])
            first | omega | (simp; omega)
          · try simp only [beq_iff_eq, beq_true, beq_false, Bool.and_eq_true, decide_eq_true_eq, decide_eq_false_iff_not, Bool.not_eq_true', Bool.or_eq_true, Bool.or_eq_false_iff] at hg
            (try simp only [fold_c, fold_o, fold_fst, Int.toNat_natCast, mapr_length])
            (try rw [hat])
            first | omega | (simp; omega)
          · try simp only [beq_iff_eq, beq_true, beq_false, Bool.and_eq_true, decide_eq_true_eq, decide_eq_false_iff_not, Bool.not_eq_true', Bool.or_eq_true, Bool.or_eq_false_iff] at hg
            (try simp only [fold_c, fold_o, fold_fst, Int.toNat_natCast, mapr_length])
            (try rw [hat])
            rcases worst_in (V := (votF L (goneTo n L kq))) (g := (goneTo n L kq)) iq with hw | ⟨z, hw, hz2, _⟩ <;> omega
          · try simp only [beq_iff_eq, beq_true, beq_false, Bool.and_eq_true, decide_eq_true_eq, decide_eq_false_iff_not, Bool.not_eq_true', Bool.or_eq_true, Bool.or_eq_false_iff] at hg
            (try simp only [fold_c, fold_o, fold_fst, Int.toNat_natCast, mapr_length])
            (try rw [hat])
            rcases worst_in (V := (votF L (goneTo n L kq))) (g := (goneTo n L kq)) iq with hw | ⟨z, hw, hz2, _⟩ <;> omega
          · kernel_rfl
          refine awp_cond rfl (fun h => ?_) (fun h => ?_)
          · (try simp only [decide_eq_true_eq, decide_eq_false_iff_not, Bool.and_eq_true, Bool.or_eq_true, Bool.and_eq_false_iff, Bool.or_eq_false_iff, Bool.not_eq_true', Bool.not_eq_false', Bool.not_eq_true, Bool.not_eq_false, Bool.true_eq_false, Bool.false_eq_true] at h); (try simp only [fold_c, fold_o, Int.toNat_natCast] at h)
            refine awp_region rfl (.n (fun _ => op_move (.plain rfl)) (.n (fun _ => op_assign (.plain rfl)) (.nil _))) ?_
            refine awp_region rfl (.n (fun _ => op_add (.plain rfl) (.plain rfl) ?_) (.n (fun _ => op_move (.plain rfl)) (.nil _))) ?_
            · (try simp only [fold_c, fold_o, fold_fst, Int.toNat_natCast, mapr_length])
              (try rw [hat])
              unfold InR; omega
            exact ⟨iq + 1, by omega, by dsimp only; omega, (Ent.kept ⟨rfl, rfl, rfl, rfl, (congrArg (fun n : Int => some (SV.int n)) (by first | exact worst_yes ((wst_conv (by omega)).1 h) | exact worst_no fun c => by have := (wst_conv (show iq < n by omega)).2 c; omega)), rfl, rfl, trivial⟩ ⟨rfl, rfl, rfl, trivial⟩)⟩
          · (try simp only [decide_eq_true_eq, decide_eq_false_iff_not, Bool.and_eq_true, Bool.or_eq_true, Bool.and_eq_false_iff, Bool.or_eq_false_iff, Bool.not_eq_true', Bool.not_eq_false', Bool.not_eq_true, Bool.not_eq_false, Bool.true_eq_false, Bool.false_eq_true] at h); (try simp only [fold_c, fold_o, Int.toNat_natCast] at h)
            refine awp_skip ?_
            refine awp_region rfl (.n (fun _ => op_add (.plain rfl) (.plain rfl) ?_) (.n (fun _ => op_move (.plain rfl)) (.nil _))) ?_
            · (try simp only [fold_c, fold_o, fold_fst, Int.toNat_natCast, mapr_length])
              (try rw [hat])
              unfold InR; omega
            exact ⟨iq + 1, by omega, by dsimp only; omega, (Ent.kept ⟨rfl, rfl, rfl, rfl, (congrArg (fun n : Int => some (SV.int n)) (by first | exact worst_yes ((wst_conv (by omega)).1 h) | exact worst_no fun c => by have := (wst_conv (show iq < n by omega)).2 c; omega)), rfl, rfl, trivial⟩ ⟨rfl, rfl, rfl, trivial⟩)⟩
        · (try simp only [decide_eq_true_eq, decide_eq_false_iff_not, Bool.and_eq_true, Bool.or_eq_true, Bool.and_eq_false_iff, Bool.or_eq_false_iff, Bool.not_eq_true', Bool.not_eq_false', Bool.not_eq_true, Bool.not_eq_false, Bool.true_eq_false, Bool.false_eq_true] at h); (try simp only [fold_c, fold_o, Int.toNat_natCast] at h)
          refine awp_exit ?_
          refine awp_region rfl (.r (op_loadR Try.isAgg23 (.plain rfl) rfl rfl) (.n (fun _ => op_move (.plain rfl)) (.n (fun _ => op_slit (pp := [(0, _)]) (α := Int) (d := 0) (f := (fun n => [.int .i64 n])) [_] ety23 rfl ⟨rfl, (.plain rfl), (by simp), trivial⟩ rfl (by decide) rfl) (.e (op_append (id' := 77) (α := Int) (d := 0) (f := (fun n => [.int .i64 n])) ety23 Try.underlying23 (fun _ => rfl) (fun _ => rfl) (.plain rfl) rfl (.plain rfl) rfl ?_) rfl (.e (op_storeR Try.sizeOf23 (.plain rfl) (.plain rfl) rfl (by first | decide | exact Nat.le_of_ble_eq_true rfl) rfl (by simp) (fun i h => by cases h; exact ⟨_, _, _, _, _, _, rfl⟩)) rfl (.nil _)))))) ?_
          · (try simp only [fold_c, fold_o, fold_fst, Int.toNat_natCast, mapr_length])
            (try rw [hat])
            first | omega | (simp; omega)
          exact ⟨kq + 1, by omega, by dsimp only; omega, (Ent.round 77 2000 ⟨rfl, rfl, rfl, trivial⟩ ⟨rfl, (congrArg (fun l => some (Blk.arr 3 1 Int 0 (fun n => [.int .i64 n]) l)) (by rw [show iq = n by omega]; rfl)), trivial⟩ rfl rfl rfl ⟨rfl, rfl, rfl, trivial⟩ ⟨rfl, rfl, trivial⟩)⟩
    · (try simp only [decide_eq_true_eq, decide_eq_false_iff_not, Bool.and_eq_true, Bool.or_eq_true, Bool.and_eq_false_iff, Bool.or_eq_false_iff, Bool.not_eq_true', Bool.not_eq_false', Bool.not_eq_true, Bool.not_eq_false, Bool.true_eq_false, Bool.false_eq_true] at h); (try simp only [fold_c, fold_o, Int.toNat_natCast] at h)
      refine awp_exit ?_
      refine awp_seq ?_
      refine awp_ent (Ent.giveB 7 0 2000 rfl rfl rfl) ?_
      refine awp_region rfl (.r (op_loadR Try.isAgg23 (.plain rfl) rfl rfl) (.n (fun _ => op_assign (.plain rfl)) (.n (fun _ => op_assign (.plain rfl)) (.nil _)))) ?_
      refine awp_ret ?_
      refine retQ.ret ?_
      refine ret2 rfl rfl rfl rfl rfl ?_
      rw [show kq = n by omega]

set_option maxRecDepth 1000000 in
set_option maxHeartbeats 4000000 in
theorem RRunoff_fc (n : Nat) (L : List (Int × List Int × Unit)) (hv : voteE n L = 0) : FC Try.prog 37 [.i (n : Nat), .seq (Int × List Int × Unit) (0, [], ()) (fun b => [.i b.1, .ints b.2.1]) L] (.ints (goneTo n L n)) := by
  refine FC.intro Try.func37 rfl (Nat.le_of_ble_eq_true rfl) fun hfit => ?_
  have fit0 : -9223372036854775808 ≤ ((n : Nat) : Int) ∧ ((n : Nat) : Int) ≤ 9223372036854775807 := (hfit _ (.head _)).int64
  have fit1 := hfit _ (.tail _ (.head _))
  have hV := vok hv
  have hL30 := hV.len
  have hn := hV.n6
  have hn1 := hV.n1
  refine awp_seq ?_
  refine awp_region rfl (.n (fun _ => op_assign (.plain rfl)) (.nil _)) ?_
  refine awp_seq ?_
  refine awp_region rfl (.n (fun _ => op_assign (.plain rfl)) (.nil _)) ?_
  refine awp_seq ?_
  refine awp_block ?_
  refine awp_ent (Ent.begin 5 1005 3 1 Int 0 (fun n => [.int .i64 n]) rfl rfl rfl) ?_
  refine awp_loop (σ := Nat) (fun (kq : Nat) => kq ≤ n) (fun (kq : Nat) => ⟨[(0, .pv (.i (n : Nat))), (1, .pv (.seq (Int × List Int × Unit) (0, [], ()) (fun b => [.i b.1, .ints b.2.1]) L)), (5, .own 1005)], [(1005, .arr 3 1 Int 0 (fun n => [.int .i64 n]) (goneTo n L kq))]⟩) (fun (kq : Nat) => n - kq) 0 ?_ (Ent.kept ⟨rfl, rfl, rfl, trivial⟩ ⟨rfl, trivial⟩) ?_
  · exact Nat.zero_le _
  rintro kq hp
  try dsimp only at hp
  have hkn := hp
  have hgl0 := gone_len (L := L) hkn
  refine awp_seq ?_
  refine awp_seq ?_
  refine awp_region rfl (.n (fun _ => op_move (.plain rfl)) (.r (op_lenO Try.underlying23 (.plain rfl) rfl) (.n (fun _ => op_move (.plain rfl)) (.n (fun _ => op_lss (.plain rfl) (.plain rfl)) (.nil _))))) ?_
  refine awp_cond rfl (fun h => ?_) (fun h => ?_)
  · (try simp only [decide_eq_true_eq, decide_eq_false_iff_not, Bool.and_eq_true, Bool.or_eq_true, Bool.and_eq_false_iff, Bool.or_eq_false_iff, Bool.not_eq_true', Bool.not_eq_false', Bool.not_eq_true, Bool.not_eq_false, Bool.true_eq_false, Bool.false_eq_true] at h); (try simp only [fold_c, fold_o, Int.toNat_natCast] at h)
    have hlf := gone_left (L := L) (show kq < n by have := gone_len (L := L) hkn; omega)
    refine awp_skip ?_
    refine awp_block ?_
    refine awp_seq ?_
    refine awp_region rfl (.n (fun _ => op_assign (.plain rfl)) (.nil _)) ?_
    refine awp_seq ?_
    refine awp_region rfl (.n (fun _ => op_assign (.plain rfl)) (.nil _)) ?_
    refine awp_seq ?_
    refine awp_seq ?_
    refine awp_region rfl (.n (fun _ => op_assign (.plain rfl)) (.nil _)) ?_
    refine awp_block ?_
    refine awp_loop (σ := Nat) (fun (x : Nat) => x ≤ n) (fun (x : Nat) => ⟨[(0, .pv (.i (n : Nat))), (1, .pv (.seq (Int × List Int × Unit) (0, [], ()) (fun b => [.i b.1, .ints b.2.1]) L)), (5, .own 1005), (6, .int (worstTo (votF L (goneTo n L kq)) (goneTo n L kq) x)), (7, .int (leastF (votF L (goneTo n L kq)) (worstTo (votF L (goneTo n L kq)) (goneTo n L kq) x))), (8, .int (x : Nat))], [(1005, .arr 3 1 Int 0 (fun n => [.int .i64 n]) (goneTo n L kq))]⟩) (fun (x : Nat) => n - x) 0 ?_ (Ent.kept ⟨rfl, rfl, rfl, rfl, rfl, rfl, trivial⟩ ⟨rfl, trivial⟩) ?_
    · exact Nat.zero_le _
    rintro x hp
    try dsimp only at hp
    have hx := hp
    refine awp_seq ?_
    refine awp_seq ?_
    refine awp_region rfl (.n (fun _ => op_move (.plain rfl)) (.n (fun _ => op_move (.plain rfl)) (.n (fun _ => op_lss (.plain rfl) (.plain rfl)) (.nil _)))) ?_
    refine awp_cond rfl (fun h => ?_) (fun h => ?_)
    · (try simp only [decide_eq_true_eq, decide_eq_false_iff_not, Bool.and_eq_true, Bool.or_eq_true, Bool.and_eq_false_iff, Bool.or_eq_false_iff, Bool.not_eq_true', Bool.not_eq_false', Bool.not_eq_true, Bool.not_eq_false, Bool.true_eq_false, Bool.false_eq_true] at h); (try simp only [fold_c, fold_o, Int.toNat_natCast] at h)
      refine awp_skip ?_
      refine awp_seq ?_
      refine awp_block ?_
      refine awp_seq ?_
      refine awp_region rfl (.n (fun _ => op_move (.plain rfl)) (.n (fun _ => op_move (.plain rfl)) (.r (op_callL (vals := [_, _]) Try.call26 ⟨⟨_, (.plain rfl), rfl⟩, ⟨_, (.plain rfl), rfl⟩, trivial⟩ (In_fc _ _) rfl) (.n (fun _ => op_assign (.plain rfl)) (.nil _))))) ?_
      refine awp_seq ?_
      refine awp_seq ?_
      refine awp_region rfl (.n (fun _ => op_move (.plain rfl)) (.nil _)) ?_
      refine awp_cond rfl (fun h => ?_) (fun h => ?_)
      · (try simp only [decide_eq_true_eq, decide_eq_false_iff_not, Bool.and_eq_true, Bool.or_eq_true, Bool.and_eq_false_iff, Bool.or_eq_false_iff, Bool.not_eq_true', Bool.not_eq_false', Bool.not_eq_true, Bool.not_eq_false, Bool.true_eq_false, Bool.false_eq_true] at h); (try simp only [fold_c, fold_o, Int.toNat_natCast] at h)
        have hw := worst_no (V := (votF L (goneTo n L kq))) (g := (goneTo n L kq)) (i := x) fun c => c.1 h
        refine awp_exit ?_
        refine awp_region rfl (.n (fun _ => op_move (.plain rfl)) (.n (fun _ => op_add (.plain rfl) (.plain rfl) ?_) (.n (fun _ => op_assign (.plain rfl)) (.nil _)))) ?_
        · (try simp only [fold_c, fold_o, Int.toNat_natCast, mapr_length])
          unfold InR; omega
        exact ⟨x + 1, by omega, by dsimp only; omega, (Ent.kept ⟨rfl, rfl, rfl, (congrArg (fun n : Int => some (SV.int n)) (hw)), (congrArg (fun n : Int => some (SV.int n)) (by rw [← hw] <;> first | rfl | exact run_least (show i = L.length by omega))), rfl, trivial⟩ ⟨rfl, trivial⟩)⟩
      · (try simp only [decide_eq_true_eq, decide_eq_false_iff_not, Bool.and_eq_true, Bool.or_eq_true, Bool.and_eq_false_iff, Bool.or_eq_false_iff, Bool.not_eq_true', Bool.not_eq_false', Bool.not_eq_true, Bool.not_eq_false, Bool.true_eq_false, Bool.false_eq_true] at h); (try simp only [fold_c, fold_o, Int.toNat_natCast] at h)
        have hxg : ¬ ((x : Nat) : Int) ∈ (goneTo n L kq) := fun c => h (place_mem.2 c)
        have hxp := h
        refine awp_skip ?_
        refine awp_seq ?_
        refine awp_region rfl (.n (fun _ => op_assign (.plain rfl)) (.nil _)) ?_
        refine awp_seq ?_
        refine awp_seq ?_
        refine awp_region rfl (.n (fun _ => op_assign (.plain rfl)) (.nil _)) ?_
        refine awp_block ?_
        refine awp_loop (σ := Nat) (fun (i : Nat) => i ≤ L.length) (fun (i : Nat) => ⟨[(0, .pv (.i (n : Nat))), (1, .pv (.seq (Int × List Int × Unit) (0, [], ()) (fun b => [.i b.1, .ints b.2.1]) L)), (5, .own 1005), (6, .int (worstTo (votF L (goneTo n L kq)) (goneTo n L kq) x)), (7, .int (leastF (votF L (goneTo n L kq)) (worstTo (votF L (goneTo n L kq)) (goneTo n L kq) x))), (8, .int (x : Nat)), (10, .int (votTo L (goneTo n L kq) (x : Nat) i)), (11, .int (i : Nat))], [(1005, .arr 3 1 Int 0 (fun n => [.int .i64 n]) (goneTo n L kq))]⟩) (fun (i : Nat) => L.length - i) 0 ?_ (Ent.kept ⟨rfl, rfl, rfl, rfl, rfl, rfl, rfl, rfl, trivial⟩ ⟨rfl, trivial⟩) ?_
        · exact Nat.zero_le _
        rintro i hp
        try dsimp only at hp
        have hi := hp
        refine awp_seq ?_
        refine awp_seq ?_
        refine awp_region rfl (.n (fun _ => op_move (.plain rfl)) (.n (fun _ => op_move (.plain rfl)) (.n (fun _ => op_len (s := 0) Try.underlying22 (.plain rfl)) (.n (fun _ => op_lss (.plain rfl) (.plain rfl)) (.nil _))))) ?_
        refine awp_cond rfl (fun h => ?_) (fun h => ?_)
        · (try simp only [decide_eq_true_eq, decide_eq_false_iff_not, Bool.and_eq_true, Bool.or_eq_true, Bool.and_eq_false_iff, Bool.or_eq_false_iff, Bool.not_eq_true', Bool.not_eq_false', Bool.not_eq_true, Bool.not_eq_false, Bool.true_eq_false, Bool.false_eq_true] at h); (try simp only [fold_c, fold_o, Int.toNat_natCast] at h)
          have hO := hV.ord i (by omega)
          have hcb := hV.cnt i (by omega)
          have hvb := votTo_bd (g := (goneTo n L kq)) hV (x : Nat) (show i ≤ L.length by omega)
          refine awp_skip ?_
          refine awp_seq ?_
          refine awp_block ?_
          refine awp_seq ?_
          refine awp_region rfl (.n (fun _ => op_assign (.plain rfl)) (.nil _)) ?_
          refine awp_seq ?_
          refine awp_seq ?_
          refine awp_region rfl (.n (fun _ => op_assign (.plain rfl)) (.nil _)) ?_
          refine awp_block ?_
          refine awp_loop (σ := Nat) (fun (y : Nat) => y ≤ n) (fun (y : Nat) => ⟨[(0, .pv (.i (n : Nat))), (1, .pv (.seq (Int × List Int × Unit) (0, [], ()) (fun b => [.i b.1, .ints b.2.1]) L)), (5, .own 1005), (6, .int (worstTo (votF L (goneTo n L kq)) (goneTo n L kq) x)), (7, .int (leastF (votF L (goneTo n L kq)) (worstTo (votF L (goneTo n L kq)) (goneTo n L kq) x))), (8, .int (x : Nat)), (10, .int (votTo L (goneTo n L kq) (x : Nat) i)), (11, .int (i : Nat)), (12, .bool (aheadTo (orF L i) (goneTo n L kq) (x : Nat) y)), (13, .int (y : Nat))], [(1005, .arr 3 1 Int 0 (fun n => [.int .i64 n]) (goneTo n L kq))]⟩) (fun (y : Nat) => n - y) 0 ?_ (Ent.kept ⟨rfl, rfl, rfl, rfl, rfl, rfl, rfl, rfl, rfl, rfl, trivial⟩ ⟨rfl, trivial⟩) ?_
          · exact Nat.zero_le _
          rintro y hp
          try dsimp only at hp
          have hy := hp
          refine awp_seq ?_
          refine awp_seq ?_
          refine awp_region rfl (.n (fun _ => op_move (.plain rfl)) (.n (fun _ => op_move (.plain rfl)) (.n (fun _ => op_lss (.plain rfl) (.plain rfl)) (.nil _)))) ?_
          refine awp_cond rfl (fun h => ?_) (fun h => ?_)
          · (try simp only [decide_eq_true_eq, decide_eq_false_iff_not, Bool.and_eq_true, Bool.or_eq_true, Bool.and_eq_false_iff, Bool.or_eq_false_iff, Bool.not_eq_true', Bool.not_eq_false', Bool.not_eq_true, Bool.not_eq_false, Bool.true_eq_false, Bool.false_eq_true] at h); (try simp only [fold_c, fold_o, Int.toNat_natCast] at h)
            refine awp_skip ?_
            refine awp_seq ?_
            refine awp_block ?_
            refine awp_seq ?_
            refine awp_region rfl (.n (fun _ => op_move (.plain rfl)) (.n (fun _ => op_move (.plain rfl)) (.r (op_callL (vals := [_, _]) Try.call26 ⟨⟨_, (.plain rfl), rfl⟩, ⟨_, (.plain rfl), rfl⟩, trivial⟩ (In_fc _ _) rfl) (.n (fun _ => op_assign (.plain rfl)) (.nil _))))) ?_
            refine awp_seq ?_
            refine awp_region rfl (.n (fun _ => op_move (.plain rfl)) (.n (fun _ => op_move (.plain rfl)) (.n (fun _ => op_indexAddrN Try.underlying22 Try.sizeOf40 (.plain rfl) (.plain rfl) (fun _ => rfl) ?_) (.n (fun _ => op_fieldAddr Try.underlying40 rfl rfl Try.sizeOf23 (.plain rfl)) (.n (fun _ => op_load Try.isAgg23 (.plain rfl)) (.n (fun _ => op_move (.plain rfl)) (.n (fun _ => op_call2 Try.call25 (.plain rfl) (.plain rfl) (Place_fc _ _)) (.n (fun _ => op_assign (.plain rfl)) (.nil _))))))))) ?_
            · (try simp only [fold_c, fold_o, Int.toNat_natCast, mapr_length])
              omega
            refine awp_seq ?_
            refine awp_region rfl (.n (fun _ => op_move (.plain rfl)) (.n (fun _ => op_move (.plain rfl)) (.n (fun _ => op_indexAddrN Try.underlying22 Try.sizeOf40 (.plain rfl) (.plain rfl) (fun _ => rfl) ?_) (.n (fun _ => op_fieldAddr Try.underlying40 rfl rfl Try.sizeOf23 (.plain rfl)) (.n (fun _ => op_load Try.isAgg23 (.plain rfl)) (.n (fun _ => op_move (.plain rfl)) (.n (fun _ => op_call2 Try.call25 (.plain rfl) (.plain rfl) (Place_fc _ _)) (.n (fun _ => op_assign (.plain rfl)) (.nil _))))))))) ?_
            · (try simp only [fold_c, fold_o, Int.toNat_natCast, mapr_length])
              omega
            refine awp_seq ?_
            refine awp_region rfl (.n (fun _ => op_move (.plain rfl)) (.n (fun _ => op_not (.plain rfl)) (.n (fun _ => op_move (.plain rfl)) (.gn rfl rfl (fun hg _ => op_move (.plain rfl)) (.gn rfl rfl (fun hg _ => op_move (.plain rfl)) (.gn rfl rfl (fun hg _ => op_lss (.opt rfl fun h => h) (.opt rfl fun h => h)) (.n (fun _ => op_and (.plain rfl) (.plain rfl) (.plain rfl) (fun h => eqT h)) (.nil _)))))))) ?_
            refine awp_cond rfl (fun h => ?_) (fun h => ?_)
            · (try simp only [decide_eq_true_eq, decide_eq_false_iff_not, Bool.and_eq_true, Bool.or_eq_true, Bool.and_eq_false_iff, Bool.or_eq_false_iff, Bool.not_eq_true', Bool.not_eq_false', Bool.not_eq_true, Bool.not_eq_false, Bool.true_eq_false, Bool.false_eq_true] at h); (try simp only [fold_c, fold_o, Int.toNat_natCast] at h)
              have ha := aheadTo_yes h
              refine awp_region rfl (.n (fun _ => op_assign (.plain rfl)) (.nil _)) ?_
              refine awp_region rfl (.n (fun _ => op_move (.plain rfl)) (.n (fun _ => op_add (.plain rfl) (.plain rfl) ?_) (.n (fun _ => op_assign (.plain rfl)) (.nil _)))) ?_
              · (try simp only [fold_c, fold_o, Int.toNat_natCast, mapr_length])
                unfold InR; omega
              exact ⟨y + 1, by omega, by dsimp only; omega, (Ent.kept ⟨rfl, rfl, rfl, rfl, rfl, rfl, rfl, rfl, (congrArg (fun b => some (SV.bool b)) (ha)), rfl, trivial⟩ ⟨rfl, trivial⟩)⟩
            · (try simp only [decide_eq_true_eq, decide_eq_false_iff_not, Bool.and_eq_true, Bool.or_eq_true, Bool.and_eq_false_iff, Bool.or_eq_false_iff, Bool.not_eq_true', Bool.not_eq_false', Bool.not_eq_true, Bool.not_eq_false, Bool.true_eq_false, Bool.false_eq_true] at h); (try simp only [fold_c, fold_o, Int.toNat_natCast] at h)
              have ha := aheadTo_no (O := orF L i) (g := (goneTo n L kq)) (x := (x : Nat)) (y := y) fun c => by omega
              refine awp_skip ?_
              refine awp_region rfl (.n (fun _ => op_move (.plain rfl)) (.n (fun _ => op_add (.plain rfl) (.plain rfl) ?_) (.n (fun _ => op_assign (.plain rfl)) (.nil _)))) ?_
              · (try simp only [fold_c, fold_o, Int.toNat_natCast, mapr_length])
                unfold InR; omega
              exact ⟨y + 1, by omega, by dsimp only; omega, (Ent.kept ⟨rfl, rfl, rfl, rfl, rfl, rfl, rfl, rfl, (congrArg (fun b => some (SV.bool b)) (ha)), rfl, trivial⟩ ⟨rfl, trivial⟩)⟩
          · (try simp only [decide_eq_true_eq, decide_eq_false_iff_not, Bool.and_eq_true, Bool.or_eq_true, Bool.and_eq_false_iff, Bool.or_eq_false_iff, Bool.not_eq_true', Bool.not_eq_false', Bool.not_eq_true, Bool.not_eq_false, Bool.true_eq_false, Bool.false_eq_true] at h); (try simp only [fold_c, fold_o, Int.toNat_natCast] at h)
            refine awp_exit ?_
            refine awp_seq ?_
            refine awp_region rfl (.n (fun _ => op_move (.plain rfl)) (.nil _)) ?_
            refine awp_cond rfl (fun h => ?_) (fun h => ?_)
            · (try simp only [decide_eq_true_eq, decide_eq_false_iff_not, Bool.and_eq_true, Bool.or_eq_true, Bool.and_eq_false_iff, Bool.or_eq_false_iff, Bool.not_eq_true', Bool.not_eq_false', Bool.not_eq_true, Bool.not_eq_false, Bool.true_eq_false, Bool.false_eq_true] at h); (try simp only [fold_c, fold_o, Int.toNat_natCast] at h)
              have hc := vot_yes hO hlf (show x < n by omega) hxg ((show y = n by omega) ▸ h)
              refine awp_region rfl (.n (fun _ => op_move (.plain rfl)) (.n (fun _ => op_move (.plain rfl)) (.n (fun _ => op_move (.plain rfl)) (.n (fun _ => op_indexAddrN Try.underlying22 Try.sizeOf40 (.plain rfl) (.plain rfl) (fun _ => rfl) ?_) (.n (fun _ => op_fieldAddr Try.underlying40 rfl rfl Try.sizeOf3 (.plain rfl)) (.n (fun _ => op_load Try.isAgg3 (.plain rfl)) (.n (fun _ => op_add (.plain rfl) (.plain rfl) ?_) (.n (fun _ => op_assign (.plain rfl)) (.nil _))))))))) ?_
              · (try simp only [fold_c, fold_o, Int.toNat_natCast, mapr_length])
                omega
              · (try simp only [fold_c, fold_o, Int.toNat_natCast, mapr_length])
                unfold InR; omega
              refine awp_region rfl (.n (fun _ => op_move (.plain rfl)) (.n (fun _ => op_add (.plain rfl) (.plain rfl) ?_) (.n (fun _ => op_assign (.plain rfl)) (.nil _)))) ?_
              · (try simp only [fold_c, fold_o, Int.toNat_natCast, mapr_length])
                unfold InR; omega
              exact ⟨i + 1, by omega, by dsimp only; omega, (Ent.kept ⟨rfl, rfl, rfl, rfl, rfl, rfl, (congrArg (fun n : Int => some (SV.int n)) (hc)), rfl, trivial⟩ ⟨rfl, trivial⟩)⟩
            · (try simp only [decide_eq_true_eq, decide_eq_false_iff_not, Bool.and_eq_true, Bool.or_eq_true, Bool.and_eq_false_iff, Bool.or_eq_false_iff, Bool.not_eq_true', Bool.not_eq_false', Bool.not_eq_true, Bool.not_eq_false, Bool.true_eq_false, Bool.false_eq_true] at h); (try simp only [fold_c, fold_o, Int.toNat_natCast] at h)
              have hc := vot_no hO hlf (show x < n by omega) hxg ((show y = n by omega) ▸ h)
              refine awp_skip ?_
              refine awp_region rfl (.n (fun _ => op_move (.plain rfl)) (.n (fun _ => op_add (.plain rfl) (.plain rfl) ?_) (.n (fun _ => op_assign (.plain rfl)) (.nil _)))) ?_
              · (try simp only [fold_c, fold_o, Int.toNat_natCast, mapr_length])
                unfold InR; omega
              exact ⟨i + 1, by omega, by dsimp only; omega, (Ent.kept ⟨rfl, rfl, rfl, rfl, rfl, rfl, (congrArg (fun n : Int => some (SV.int n)) (hc)), rfl, trivial⟩ ⟨rfl, trivial⟩)⟩
        · (try simp only [decide_eq_true_eq, decide_eq_false_iff_not, Bool.and_eq_true, Bool.or_eq_true, Bool.and_eq_false_iff, Bool.or_eq_false_iff, Bool.not_eq_true', Bool.not_eq_false', Bool.not_eq_true, Bool.not_eq_false, Bool.true_eq_false, Bool.false_eq_true] at h); (try simp only [fold_c, fold_o, Int.toNat_natCast] at h)
          refine awp_exit ?_
          refine awp_seq ?_
          refine awp_region rfl (.n (fun _ => op_move (.plain rfl)) (.n (fun _ => op_lss (.plain rfl) (.plain rfl)) (.n (fun _ => op_move (.plain rfl)) (.gn rfl rfl (fun hg _ => op_move (.plain rfl)) (.gn rfl rfl (fun hg _ => op_move (.plain rfl)) (.gn rfl rfl (fun hg _ => op_leq (.opt rfl fun h => h) (.opt rfl fun h => h)) (.n (fun _ => op_or (.plain rfl) (.plain rfl) (.plain rfl) (fun h => eqF h)) (.nil _)))))))) ?_
          refine awp_cond rfl (fun h => ?_) (fun h => ?_)
          · (try simp only [decide_eq_true_eq, decide_eq_false_iff_not, Bool.and_eq_true, Bool.or_eq_true, Bool.and_eq_false_iff, Bool.or_eq_false_iff, Bool.not_eq_true', Bool.not_eq_false', Bool.not_eq_true, Bool.not_eq_false, Bool.true_eq_false, Bool.false_eq_true] at h); (try simp only [fold_c, fold_o, Int.toNat_natCast] at h)
            have hw := worst_yes (V := (votF L (goneTo n L kq))) (g := (goneTo n L kq)) (i := x) ⟨hxp, run_yes (show i = L.length by omega) h⟩
            refine awp_seq ?_
            refine awp_region rfl (.n (fun _ => op_move (.plain rfl)) (.n (fun _ => op_assign (.plain rfl)) (.nil _))) ?_
            refine awp_region rfl (.n (fun _ => op_move (.plain rfl)) (.n (fun _ => op_assign (.plain rfl)) (.nil _))) ?_
            refine awp_region rfl (.n (fun _ => op_move (.plain rfl)) (.n (fun _ => op_add (.plain rfl) (.plain rfl) ?_) (.n (fun _ => op_assign (.plain rfl)) (.nil _)))) ?_
            · (try simp only [fold_c, fold_o, Int.toNat_natCast, mapr_length])
              unfold InR; omega
            exact ⟨x + 1, by omega, by dsimp only; omega, (Ent.kept ⟨rfl, rfl, rfl, (congrArg (fun n : Int => some (SV.int n)) (hw)), (congrArg (fun n : Int => some (SV.int n)) (by rw [← hw] <;> first | rfl | exact run_least (show i = L.length by omega))), rfl, trivial⟩ ⟨rfl, trivial⟩)⟩
          · (try simp only [decide_eq_true_eq, decide_eq_false_iff_not, Bool.and_eq_true, Bool.or_eq_true, Bool.and_eq_false_iff, Bool.or_eq_false_iff, Bool.not_eq_true', Bool.not_eq_false', Bool.not_eq_true, Bool.not_eq_false, Bool.true_eq_false, Bool.false_eq_true] at h); (try simp only [fold_c, fold_o, Int.toNat_natCast] at h)
            have hw := worst_no (V := (votF L (goneTo n L kq))) (g := (goneTo n L kq)) (i := x) fun c => run_no (show i = L.length by omega) h c.2
            refine awp_skip ?_
            refine awp_region rfl (.n (fun _ => op_move (.plain rfl)) (.n (fun _ => op_add (.plain rfl) (.plain rfl) ?_) (.n (fun _ => op_assign (.plain rfl)) (.nil _)))) ?_
            · (try simp only [fold_c, fold_o, Int.toNat_natCast, mapr_length])
              unfold InR; omega
            exact ⟨x + 1, by omega, by dsimp only; omega, (Ent.kept ⟨rfl, rfl, rfl, (congrArg (fun n : Int => some (SV.int n)) (hw)), (congrArg (fun n : Int => some (SV.int n)) (by rw [← hw] <;> first | rfl | exact run_least (show i = L.length by omega))), rfl, trivial⟩ ⟨rfl, trivial⟩)⟩
    · (try simp only [decide_eq_true_eq, decide_eq_false_iff_not, Bool.and_eq_true, Bool.or_eq_true, Bool.and_eq_false_iff, Bool.or_eq_false_iff, Bool.not_eq_true', Bool.not_eq_false', Bool.not_eq_true, Bool.not_eq_false, Bool.true_eq_false, Bool.false_eq_true] at h); (try simp only [fold_c, fold_o, Int.toNat_natCast] at h)
      refine awp_exit ?_
      refine awp_region rfl (.n (fun _ => op_move (.plain rfl)) (.n (fun _ => op_move (.plain rfl)) (.n (fun _ => op_slit (pp := [(0, _)]) (α := Int) (d := 0) (f := (fun n => [.int .i64 n])) [_] ety23 rfl ⟨rfl, (.plain rfl), (by simp), trivial⟩ rfl (by decide) rfl) (.e (op_append (id' := 85) (α := Int) (d := 0) (f := (fun n => [.int .i64 n])) ety23 Try.underlying23 (fun _ => rfl) (fun _ => rfl) (.plain rfl) rfl (.plain rfl) rfl ?_) rfl (.n (fun _ => op_assign (.plain rfl)) (.nil _)))))) ?_
      · (try simp only [fold_c, fold_o, Int.toNat_natCast, mapr_length])
        first | omega | (simp; omega)
      exact ⟨kq + 1, by omega, by dsimp only; omega, (Ent.round 85 1005 ⟨rfl, rfl, rfl, trivial⟩ ⟨(congrArg (fun l => some (Blk.arr 3 1 Int 0 (fun n => [.int .i64 n]) l)) (by rw [show x = n by omega]; rfl)), trivial⟩ rfl rfl rfl ⟨rfl, rfl, rfl, trivial⟩ ⟨rfl, trivial⟩)⟩
  · (try simp only [decide_eq_true_eq, decide_eq_false_iff_not, Bool.and_eq_true, Bool.or_eq_true, Bool.and_eq_false_iff, Bool.or_eq_false_iff, Bool.not_eq_true', Bool.not_eq_false', Bool.not_eq_true, Bool.not_eq_false, Bool.true_eq_false, Bool.false_eq_true] at h); (try simp only [fold_c, fold_o, Int.toNat_natCast] at h)
    refine awp_exit ?_
    refine awp_seq ?_
    refine awp_region rfl (.n (fun _ => op_move (.plain rfl)) (.n (fun _ => op_assign (.plain rfl)) (.nil _))) ?_
    refine awp_ret ?_
    refine retQ.ret ?_
    refine ret1 rfl rfl rfl ?_
    rw [show kq = n by omega]

end Go.Proofs.Ytkbbdiodmeobaaa

