/- What RulesSays says, on plain values. Conditions: each theorem names its own. -/
import Derived.Test.YthcgljomiigjiaaProg
import Derived.Test.YthcgljomiigjiaaFb
namespace Go.Proofs.Ythcgljomiigjiaa
open Go.Abs
set_option linter.unusedVariables false
set_option linter.unusedSimpArgs false


def cut (l : List Int) (i : Nat) : List Int := l.take i ++ l.drop (i + 1)
theorem cut_length {l : List Int} {i e : Nat} (h : l.length = e + 1) (hi : i < l.length) : (cut l i).length = e := by simp [cut]; omega
def permTo (f : List Int → List (List Int)) (l : List Int) : Nat → List (List Int)
  | 0 => []
  | i + 1 => permTo f l i ++ (f (cut l i)).map (fun r => l.getD i 0 :: r)
def permsN : Nat → List Int → List (List Int)
  | 0, _ => [[]]
  | d + 1, l => permTo (permsN d) l l.length
def factN : Nat → Nat
  | 0 => 1
  | d + 1 => (d + 1) * factN d
theorem permTo_len {f : List Int → List (List Int)} {l : List Int} {F : Nat} (h : ∀ i, i < l.length → (f (cut l i)).length = F) : ∀ i, i ≤ l.length → (permTo f l i).length = i * F
  | 0, _ => by simp [permTo]
  | i + 1, hi => by
    rw [permTo, List.length_append, List.length_map, permTo_len h i (by omega), h i (by omega), Nat.add_mul, Nat.one_mul]
theorem permsN_len : ∀ (d : Nat) (l : List Int), l.length = d → (permsN d l).length = factN d
  | 0, _, _ => rfl
  | d + 1, l, h => by
    rw [permsN, permTo_len (F := factN d) (fun i hi => permsN_len d _ (cut_length h hi)) _ (Nat.le_refl _), h]
    rfl
theorem permTo_row {f : List Int → List (List Int)} {l : List Int} {F : Nat} (h : ∀ i, i < l.length → ∀ r, r ∈ f (cut l i) → r.length = F) : ∀ i, i ≤ l.length → ∀ r, r ∈ permTo f l i → r.length = F + 1
  | 0, _, r, hr => by simp [permTo] at hr
  | i + 1, hi, r, hr => by
    rw [permTo, List.mem_append, List.mem_map] at hr
    rcases hr with hr | ⟨s, hs, rfl⟩
    · exact permTo_row h i (by omega) r hr
    · rw [List.length_cons, h i (by omega) s hs]
theorem permsN_row : ∀ (d : Nat) (l : List Int), l.length = d → ∀ r, r ∈ permsN d l → r.length = d
  | 0, _, _, r, hr => by simp [permsN] at hr; simp [hr]
  | d + 1, l, h, r, hr => permTo_row (fun i hi => permsN_row d _ (cut_length h hi)) _ (Nat.le_refl _) r hr
theorem memG {l : List (List Int)} {k : Nat} (h : k < l.length) : l.getD k [] ∈ l := by
  rw [List.getD_eq_getElem?_getD, List.getElem?_eq_getElem h]; exact List.getElem_mem h
theorem fact_le : ∀ d, d < 4 → factN d ≤ 6 := by decide
def mapTo (x : Int) (P : List (List Int)) (k : Nat) : List (List Int) := (P.take k).map (fun r => x :: r)
theorem mapTo_succ {A P : List (List Int)} {x : Int} {k : Nat} (h : k < P.length) : (A ++ mapTo x P k) ++ [[x] ++ P.getD k []] = A ++ mapTo x P (k + 1) := by
  unfold mapTo
  rw [List.take_succ_eq_append_getElem h, List.map_append, List.append_assoc]
  congr 2
  simp [List.getD_eq_getElem?_getD, h]
theorem mapTo_all {f : List Int → List (List Int)} {l : List Int} {i : Nat} : permTo f l i ++ mapTo (l.getD i 0) (f (cut l i)) (f (cut l i)).length = permTo f l (i + 1) := by
  unfold mapTo
  rw [List.take_length]
  rfl
theorem mapTo_len {x : Int} {P : List (List Int)} {k : Nat} (h : k ≤ P.length) : (mapTo x P k).length = k := by unfold mapTo; rw [List.length_map, List.length_take]; omega
def ordL (k : Nat) : List Int := [(ordN k 0 : Nat), (ordN k 1 : Nat), (ordN k 2 : Nat)]
theorem perm_ord : ∀ k, k < 6 → (permsN 3 [0, 1, 2]).getD k [] = ordL k := by decide
def placeF (l : List Int) (x : Int) : Int := match firstI (fun i => decide (l.getD i 0 = x)) l.length with | some i => (i : Int) | none => -1
def ovN (k x y : Nat) : Bool := !decide (x = y) && abvN k x y
theorem ov_place : ∀ k, k < 6 → ∀ x, x < 3 → ∀ y, y < 3 → decide (placeF (ordL k) ((x : Nat) : Int) < placeF (ordL k) ((y : Nat) : Int)) = ovN k x y := by decide
def ovI (i : Nat) : Bool := ovN (i / 9) (i / 3 % 3) (i % 3)
theorem ov_at {i : Nat} (h : i < 54) : (mapr 54 ovI).getD i false = ovI i := mapr_getD _ h
def ovX (k x : Nat) : Bool := ovN k (x / 3) (x % 3)
theorem ov_x {k x : Nat} {kI : Int} (e : kI = (k : Nat)) (hk : k < 6) (hx : x < 9) : (mapr 54 ovI).getD (9 * kI + ((x : Nat) : Int)).toNat false = ovX k x := by
  subst e
  rw [show (9 * ((k : Nat) : Int) + ((x : Nat) : Int)).toNat = 9 * k + x by omega, ov_at (by omega)]
  unfold ovI ovX
  rw [show (9 * k + x) / 9 = k by omega, show (9 * k + x) / 3 % 3 = x / 3 by omega, show (9 * k + x) % 3 = x % 3 by omega]
theorem ov_set {k x y : Nat} (hk : k < 6) (hx : x < 3) (hy : y < 3) : (mapr 54 fun j => if j < 9 * k + 3 * x + y then ovI j else false).set (9 * ((k : Nat) : Int) + 3 * ((x : Nat) : Int) + ((y : Nat) : Int)).toNat (ovN k x y) = mapr 54 fun j => if j < 9 * k + 3 * x + (y + 1) then ovI j else false := by
  rw [show (9 * ((k : Nat) : Int) + 3 * ((x : Nat) : Int) + ((y : Nat) : Int)).toNat = 9 * k + 3 * x + y by omega]
  refine mapr_set (fun _ => ?_) fun j _ hj => ?_
  · rw [if_pos (by omega)]
    unfold ovI
    rw [show (9 * k + 3 * x + y) / 9 = k by omega, show (9 * k + 3 * x + y) / 3 % 3 = x by omega, show (9 * k + 3 * x + y) % 3 = y by omega]
  · by_cases c : j < 9 * k + 3 * x + y
    · rw [if_pos c, if_pos (by omega)]
    · rw [if_neg c, if_neg (by omega)]
theorem ov_end : (mapr 54 fun j => if j < 9 * 6 then ovI j else false) = mapr 54 ovI := mapr_same fun j hj => if_pos (by omega)
def agX (rule : List Int) (p x : Nat) : Bool := !(((!decide (x / 3 = x % 3) && ovX (p / 6) x) && ovX (p % 6) x) && !ovX (rN rule p) x)
def agR (rule : List Int) (p : Nat) : Bool := allTo (agX rule p) 9
def apX (rule : List Int) (p q x : Nat) : Bool := !((!decide (x / 3 = x % 3) && ((ovX (p / 6) x == ovX (q / 6) x) && (ovX (p % 6) x == ovX (q % 6) x))) && !(ovX (rN rule p) x == ovX (rN rule q) x))
def apQ (rule : List Int) (p q : Nat) : Bool := allTo (apX rule p q) 9
def apR (rule : List Int) (p : Nat) : Bool := allTo (apQ rule p) 36
theorem ovX_at {k x y : Nat} (hx : x < 3) (hy : y < 3) (hne : x ≠ y) : ovX k (3 * x + y) = abvN k x y := by
  unfold ovX ovN
  rw [show (3 * x + y) / 3 = x by omega, show (3 * x + y) % 3 = y by omega, decide_eq_false hne]
  rfl
theorem agr_same {rule : List Int} : allTo (agR rule) 36 = allF (agrP rule) := by
  rw [Bool.eq_iff_iff, allTo_iff, allF_iff]
  constructor
  · intro h a ha b hb x hx y hy hne
    have h1 := allTo_iff.1 (h (6 * a + b) (by omega)) (3 * x + y) (by omega)
    unfold agX at h1
    rw [ovX_at hx hy hne, ovX_at hx hy hne, ovX_at hx hy hne, show (6 * a + b) / 6 = a by omega, show (6 * a + b) % 6 = b by omega, show (3 * x + y) / 3 = x by omega, show (3 * x + y) % 3 = y by omega, decide_eq_false hne] at h1
    unfold agrP
    revert h1
    cases abvN a x y <;> cases abvN b x y <;> simp
  · intro h p hp
    refine allTo_iff.2 fun z hz => ?_
    unfold agX
    by_cases c : z / 3 = z % 3
    · rw [decide_eq_true c]; rfl
    · have h1 := h (p / 6) (by omega) (p % 6) (by omega) (z / 3) (by omega) (z % 3) (by omega) c
      unfold agrP at h1
      rw [show 6 * (p / 6) + p % 6 = p by omega] at h1
      unfold ovX ovN
      rw [decide_eq_false c]
      revert h1
      cases abvN (p / 6) (z / 3) (z % 3) <;> cases abvN (p % 6) (z / 3) (z % 3) <;> simp
theorem apt_same {rule : List Int} : allTo (apR rule) 36 = allF (aptP rule) := by
  rw [Bool.eq_iff_iff, allTo_iff, allF_iff]
  constructor
  · intro h a ha b hb x hx y hy hne
    refine allTo_iff.2 fun c hc => allTo_iff.2 fun d hd => ?_
    have h1 := allTo_iff.1 (allTo_iff.1 (h (6 * a + b) (by omega)) (6 * c + d) (by omega)) (3 * x + y) (by omega)
    unfold apX at h1
    simp only [ovX_at hx hy hne, show (6 * a + b) / 6 = a by omega, show (6 * a + b) % 6 = b by omega, show (6 * c + d) / 6 = c by omega, show (6 * c + d) % 6 = d by omega, show (3 * x + y) / 3 = x by omega, show (3 * x + y) % 3 = y by omega, decide_eq_false hne] at h1
    unfold aptD bne
    simpa using h1
  · intro h p hp
    refine allTo_iff.2 fun q hq => allTo_iff.2 fun z hz => ?_
    unfold apX
    by_cases c : z / 3 = z % 3
    · rw [decide_eq_true c]; rfl
    · have h1 := allTo_iff.1 (allTo_iff.1 (h (p / 6) (by omega) (p % 6) (by omega) (z / 3) (by omega) (z % 3) (by omega) c) (q / 6) (by omega)) (q % 6) (by omega)
      unfold aptD bne at h1
      rw [show 6 * (p / 6) + p % 6 = p by omega, show 6 * (q / 6) + q % 6 = q by omega] at h1
      unfold ovX ovN
      rw [decide_eq_false c]
      simpa using h1
def honL (rule : List Int) : List Int := match honO rule with | some n => [((n / 72 : Nat) : Int), ((n / 12 % 6 : Nat) : Int), ((n / 6 % 2 : Nat) : Int), ((n % 6 : Nat) : Int)] | none => [0, 0, 0, 0]
theorem honP_12 {rule : List Int} {p k : Nat} (hk : k < 12) : honP rule (12 * p + k) = payP rule (p / 6) (p % 6) (k / 6) (k % 6) := by
  unfold honP
  rw [show (12 * p + k) / 72 = p / 6 by omega, show (12 * p + k) / 12 % 6 = p % 6 by omega, show (12 * p + k) / 6 % 2 = k / 6 by omega, show (12 * p + k) % 6 = k % 6 by omega]
theorem hon_vals {p k : Nat} (hk : k < 12) : (12 * p + k) / 72 = p / 6 ∧ (12 * p + k) / 12 % 6 = p % 6 ∧ (12 * p + k) / 6 % 2 = k / 6 ∧ (12 * p + k) % 6 = k % 6 := by omega
theorem ordE_iff {k : Int} : ordE k = 0 ↔ 0 ≤ k ∧ k ≤ 5 := by
  unfold ordE
  split <;> omega
theorem ord_same {k : Int} (h : 0 ≤ k ∧ k ≤ 5) : [ordI k 0, ordI k 1, ordI k 2] = ordL k.toNat := by
  unfold ordI ordL
  simp only [if_pos h]
theorem in_seen {rule : List Int} (h : TabOk rule 3) {v : Nat} : decide (0 ≤ placeF rule ((v : Nat) : Int)) = seenB rule 36 v := by
  have hc : ∀ j, j < 36 → (decide (rule.getD j 0 = ((v : Nat) : Int)) = true ↔ rN rule j = v) := fun j hj => by
    have := rN_cast h hj
    rw [decide_eq_true_eq]
    omega
  unfold placeF seenB
  rw [h.len]
  cases e : firstI (fun i => decide (rule.getD i 0 = ((v : Nat) : Int))) 36 with
  | some i =>
    have := firstI_spec e
    have h1 := (hc i this.1).1 this.2.1
    rw [allTo_stop (k := i) (by simp [h1]) this.1]
    simp
  | none =>
    have h2 : allTo (fun j => !decide (rN rule j = v)) 36 = true := allTo_iff.2 fun j hj => by
      have h1 := firstI_none e j hj
      have h3 := hc j hj
      rw [h1] at h3
      simp only [Bool.not_eq_true', decide_eq_false_iff_not]
      intro c
      have := h3.2 c
      cases this
    rw [h2]
    simp
theorem top_of : ∀ k, k < 6 → (ordL k).getD 0 0 = ((k / 2 : Nat) : Int) := by decide
theorem abv_ov {k x y : Nat} (h : x ≠ y) : ovN k x y = abvN k x y := by unfold ovN; rw [decide_eq_false h]; rfl

theorem sameInts_fc (a b : List Int) : FC Try.prog 7 [.ints a, .ints b] (.bool (decide (a = b))) := by
  refine FC.intro Try.func7 rfl (Nat.le_of_ble_eq_true rfl) fun hfit => ?_
  obtain ⟨fitl0, fitr0⟩ := (hfit _ (.head _)).ints
  obtain ⟨fitl1, fitr1⟩ := (hfit _ (.tail _ (.head _))).ints
  refine awp_seq ?_
  refine awp_region rfl (.n (fun _ => op_assign (.plain rfl)) (.nil _)) ?_
  refine awp_seq ?_
  refine awp_seq ?_
  refine awp_region rfl (.n (fun _ => op_move (.plain rfl)) (.n (fun _ => op_len (s := 0) Try.underlying22 (.plain rfl)) (.n (fun _ => op_move (.plain rfl)) (.n (fun _ => op_len (s := 0) Try.underlying22 (.plain rfl)) (.n (fun _ => op_neq (.plain rfl) (.plain rfl)) (.nil _)))))) ?_
  refine awp_cond rfl (fun h => ?_) (fun h => ?_)
  · try simp only [decide_eq_true_eq, decide_eq_false_iff_not, Bool.and_eq_true, Bool.or_eq_true, Bool.and_eq_false_iff, Bool.or_eq_false_iff, Bool.not_eq_true', Bool.not_eq_false', Bool.not_eq_true, Bool.not_eq_false, Bool.true_eq_false, Bool.false_eq_true] at h
    refine awp_seq ?_
    refine awp_region rfl (.n (fun _ => op_assign (.plain rfl)) (.nil _)) ?_
    refine awp_ret ?_
    refine retQ.ret ?_
    refine ret1 rfl rfl rfl ?_
    rw [decide_eq_false (fun e => by subst e; simp at h)]
  · try simp only [decide_eq_true_eq, decide_eq_false_iff_not, Bool.and_eq_true, Bool.or_eq_true, Bool.and_eq_false_iff, Bool.or_eq_false_iff, Bool.not_eq_true', Bool.not_eq_false', Bool.not_eq_true, Bool.not_eq_false, Bool.true_eq_false, Bool.false_eq_true] at h
    refine awp_skip ?_
    refine awp_seq ?_
    refine awp_seq ?_
    refine awp_region rfl (.n (fun _ => op_assign (.plain rfl)) (.nil _)) ?_
    refine awp_block ?_
    refine awp_loop (σ := Nat) (fun (k : Nat) => k ≤ a.length ∧ ∀ j, j < k → a.getD j 0 = b.getD j 0) (fun (k : Nat) => ⟨[(5, .int (k : Nat)), (0, .pv (.ints a)), (1, .pv (.ints b))], []⟩) (fun (k : Nat) => a.length - k) 0 ?_ (Ent.kept ⟨rfl, rfl, rfl, trivial⟩ trivial) ?_
    · simp
    rintro k hp
    try dsimp only at hp
    obtain ⟨hk, hj⟩ := hp
    have hlen : a.length = b.length := by omega
    refine awp_seq ?_
    refine awp_seq ?_
    refine awp_region rfl (.n (fun _ => op_move (.plain rfl)) (.n (fun _ => op_move (.plain rfl)) (.n (fun _ => op_len (s := 0) Try.underlying22 (.plain rfl)) (.n (fun _ => op_lss (.plain rfl) (.plain rfl)) (.nil _))))) ?_
    refine awp_cond rfl (fun h => ?_) (fun h => ?_)
    · try simp only [decide_eq_true_eq, decide_eq_false_iff_not, Bool.and_eq_true, Bool.or_eq_true, Bool.and_eq_false_iff, Bool.or_eq_false_iff, Bool.not_eq_true', Bool.not_eq_false', Bool.not_eq_true, Bool.not_eq_false, Bool.true_eq_false, Bool.false_eq_true] at h
      refine awp_skip ?_
      refine awp_seq ?_
      refine awp_block ?_
      refine awp_seq ?_
      refine awp_region_draw mixed rfl (.n (fun _ => op_move (.plain rfl)) (.n (fun _ => op_move (.plain rfl)) (.n (fun _ => op_indexAddrN Try.underlying22 Try.sizeOf3 (.plain rfl) (.plain rfl) (fun _ => rfl) ?_) (.n (fun _ => op_load Try.isAgg3 (.plain rfl)) (.n (fun _ => op_move (.plain rfl)) (.n (fun _ => op_move (.plain rfl)) (.n (fun _ => op_indexAddrN Try.underlying22 Try.sizeOf3 (.plain rfl) (.plain rfl) (fun _ => rfl) ?_) (.n (fun _ => op_load Try.isAgg3 (.plain rfl)) (.n (fun _ => op_neq (.plain rfl) (.plain rfl)) (.nil _)))))))))) ?d1 ?_
      · omega
      · omega
      · kernel_rfl
      refine awp_cond rfl (fun h => ?_) (fun h => ?_)
      · try simp only [decide_eq_true_eq, decide_eq_false_iff_not, Bool.and_eq_true, Bool.or_eq_true, Bool.and_eq_false_iff, Bool.or_eq_false_iff, Bool.not_eq_true', Bool.not_eq_false', Bool.not_eq_true, Bool.not_eq_false, Bool.true_eq_false, Bool.false_eq_true] at h
        refine awp_seq ?_
        refine awp_region rfl (.n (fun _ => op_assign (.plain rfl)) (.nil _)) ?_
        refine awp_ret ?_
        refine retQ.ret ?_
        refine ret1 rfl rfl rfl ?_
        rw [decide_eq_false (fun e => by subst e; simp at h)]
      · try simp only [decide_eq_true_eq, decide_eq_false_iff_not, Bool.and_eq_true, Bool.or_eq_true, Bool.and_eq_false_iff, Bool.or_eq_false_iff, Bool.not_eq_true', Bool.not_eq_false', Bool.not_eq_true, Bool.not_eq_false, Bool.true_eq_false, Bool.false_eq_true] at h
        refine awp_skip ?_
        refine awp_region rfl (.n (fun _ => op_move (.plain rfl)) (.n (fun _ => op_add (.plain rfl) (.plain rfl) ?_) (.n (fun _ => op_assign (.plain rfl)) (.nil _)))) ?_
        · unfold InR; omega
        refine ⟨k + 1, ⟨by omega, fun j hjk => ?_⟩, by dsimp only; omega, Ent.kept ⟨rfl, rfl, rfl, trivial⟩ trivial⟩
        by_cases e : j = k
        · subst e; simpa using h
        · exact hj j (by omega)
    · try simp only [decide_eq_true_eq, decide_eq_false_iff_not, Bool.and_eq_true, Bool.or_eq_true, Bool.and_eq_false_iff, Bool.or_eq_false_iff, Bool.not_eq_true', Bool.not_eq_false', Bool.not_eq_true, Bool.not_eq_false, Bool.true_eq_false, Bool.false_eq_true] at h
      refine awp_exit ?_
      refine awp_seq ?_
      refine awp_region rfl (.n (fun _ => op_assign (.plain rfl)) (.nil _)) ?_
      refine awp_ret ?_
      refine retQ.ret ?_
      refine ret1 rfl rfl rfl ?_
      rw [decide_eq_true (List.ext_getElem hlen fun j h1 h2 => by have := hj j (by omega); simpa [List.getD_eq_getElem?_getD, h1, h2] using this)]

theorem RuleMay_fc (l : List Int) (n : Int) : FC Try.prog 10 [.ints l, .i n] (.i (tabE l n)) := by
  refine FC.intro Try.func10 rfl (Nat.le_of_ble_eq_true rfl) fun hfit => ?_
  obtain ⟨fitl0, fitr0⟩ := (hfit _ (.head _)).ints
  have fit1 : -9223372036854775808 ≤ (n : Int) ∧ (n : Int) ≤ 9223372036854775807 := (hfit _ (.tail _ (.head _))).int64
  refine awp_seq ?_
  refine awp_region rfl (.n (fun _ => op_assign (.plain rfl)) (.nil _)) ?_
  refine awp_seq ?_
  refine awp_seq ?_
  refine awp_region rfl (.n (fun _ => op_move (.plain rfl)) (.n (fun _ => op_len (s := 0) Try.underlying22 (.plain rfl)) (.n (fun _ => op_neq (.plain rfl) (.plain rfl)) (.nil _)))) ?_
  refine awp_cond rfl (fun h => ?_) (fun h => ?_)
  · try simp only [decide_eq_true_eq, decide_eq_false_iff_not, Bool.and_eq_true, Bool.or_eq_true, Bool.and_eq_false_iff, Bool.or_eq_false_iff, Bool.not_eq_true', Bool.not_eq_false', Bool.not_eq_true, Bool.not_eq_false, Bool.true_eq_false, Bool.false_eq_true] at h
    refine awp_seq ?_
    refine awp_region rfl (.n (fun _ => op_assign (.plain rfl)) (.nil _)) ?_
    refine awp_ret ?_
    refine retQ.ret ?_
    refine ret1 rfl rfl rfl ?_
    exact congrArg PV.i (tabE_len h)
  · try simp only [decide_eq_true_eq, decide_eq_false_iff_not, Bool.and_eq_true, Bool.or_eq_true, Bool.and_eq_false_iff, Bool.or_eq_false_iff, Bool.not_eq_true', Bool.not_eq_false', Bool.not_eq_true, Bool.not_eq_false, Bool.true_eq_false, Bool.false_eq_true] at h
    refine awp_skip ?_
    refine awp_seq ?_
    refine awp_seq ?_
    refine awp_region rfl (.n (fun _ => op_assign (.plain rfl)) (.nil _)) ?_
    refine awp_block ?_
    refine awp_loop (σ := Nat) (fun (k : Nat) => k ≤ l.length ∧ firstE (tabB n l) k = 0) (fun (k : Nat) => ⟨[(0, .pv (.ints l)), (1, .int n), (5, .int (k : Nat))], []⟩) (fun (k : Nat) => l.length - k) 0 ?_ (Ent.kept ⟨rfl, rfl, rfl, trivial⟩ trivial) ?_
    · exact ⟨Nat.zero_le _, rfl⟩
    rintro k hp
    try dsimp only at hp
    obtain ⟨hk, hE⟩ := hp
    refine awp_seq ?_
    refine awp_seq ?_
    refine awp_region rfl (.n (fun _ => op_move (.plain rfl)) (.n (fun _ => op_lss (.plain rfl) (.plain rfl)) (.nil _))) ?_
    refine awp_cond rfl (fun h => ?_) (fun h => ?_)
    · try simp only [decide_eq_true_eq, decide_eq_false_iff_not, Bool.and_eq_true, Bool.or_eq_true, Bool.and_eq_false_iff, Bool.or_eq_false_iff, Bool.not_eq_true', Bool.not_eq_false', Bool.not_eq_true, Bool.not_eq_false, Bool.true_eq_false, Bool.false_eq_true] at h
      refine awp_skip ?_
      refine awp_seq ?_
      refine awp_block ?_
      refine awp_seq ?_
      refine awp_region rfl (.n (fun _ => op_move (.plain rfl)) (.n (fun _ => op_move (.plain rfl)) (.n (fun _ => op_indexAddrN Try.underlying22 Try.sizeOf3 (.plain rfl) (.plain rfl) (fun _ => rfl) ?_) (.n (fun _ => op_load Try.isAgg3 (.plain rfl)) (.n (fun _ => op_lss (.plain rfl) (.plain rfl)) (.n (fun _ => op_move (.plain rfl)) (.gn rfl rfl (fun hg _ => op_move (.plain rfl)) (.gn rfl rfl (fun hg _ => op_move (.plain rfl)) (.gn rfl rfl (fun hg _ => op_indexAddrN Try.underlying22 Try.sizeOf3 (.opt rfl fun h => h) (.opt rfl fun h => h) (fun _ => rfl) ?_) (.gn rfl rfl (fun hg _ => op_load Try.isAgg3 (.opt rfl fun h => h)) (.gn rfl rfl (fun hg _ => op_move (.plain rfl)) (.gn rfl rfl (fun hg _ => op_geq (.opt rfl fun h => h) (.opt rfl fun h => h)) (.n (fun _ => op_or (.plain rfl) (.plain rfl) (.plain rfl) (fun h => eqF h)) (.nil _)))))))))))))) ?_
      · omega
      · try simp only [beq_iff_eq, beq_true, beq_false, Bool.and_eq_true, decide_eq_true_eq, decide_eq_false_iff_not, Bool.not_eq_true', Bool.or_eq_true, Bool.or_eq_false_iff] at hg
        omega
      refine awp_cond rfl (fun h => ?_) (fun h => ?_)
      · try simp only [decide_eq_true_eq, decide_eq_false_iff_not, Bool.and_eq_true, Bool.or_eq_true, Bool.and_eq_false_iff, Bool.or_eq_false_iff, Bool.not_eq_true', Bool.not_eq_false', Bool.not_eq_true, Bool.not_eq_false, Bool.true_eq_false, Bool.false_eq_true] at h
        refine awp_seq ?_
        refine awp_region rfl (.n (fun _ => op_assign (.plain rfl)) (.nil _)) ?_
        refine awp_ret ?_
        refine retQ.ret ?_
        refine ret1 rfl rfl rfl ?_
        exact congrArg PV.i (tabE_val (by omega) hE (by omega) h)
      · try simp only [decide_eq_true_eq, decide_eq_false_iff_not, Bool.and_eq_true, Bool.or_eq_true, Bool.and_eq_false_iff, Bool.or_eq_false_iff, Bool.not_eq_true', Bool.not_eq_false', Bool.not_eq_true, Bool.not_eq_false, Bool.true_eq_false, Bool.false_eq_true] at h
        refine awp_skip ?_
        refine awp_region rfl (.n (fun _ => op_move (.plain rfl)) (.n (fun _ => op_add (.plain rfl) (.plain rfl) ?_) (.n (fun _ => op_assign (.plain rfl)) (.nil _)))) ?_
        · unfold InR; omega
        exact ⟨k + 1, ⟨by omega, firstE_succ hE (if_neg (by omega))⟩, by dsimp only; omega, (Ent.kept ⟨rfl, rfl, rfl, trivial⟩ trivial)⟩
    · try simp only [decide_eq_true_eq, decide_eq_false_iff_not, Bool.and_eq_true, Bool.or_eq_true, Bool.and_eq_false_iff, Bool.or_eq_false_iff, Bool.not_eq_true', Bool.not_eq_false', Bool.not_eq_true, Bool.not_eq_false, Bool.true_eq_false, Bool.false_eq_true] at h
      refine awp_exit ?_
      refine awp_seq ?_
      refine awp_region rfl (.n (fun _ => op_assign (.plain rfl)) (.nil _)) ?_
      refine awp_ret ?_
      refine retQ.ret ?_
      refine ret1 rfl rfl rfl ?_
      exact congrArg PV.i (tabE_ok (by omega) hk hE (by omega))

theorem Perms_step (l : List Int) (d : Nat) (hl : l.length = d) (hd : d ≤ 3) (ih : ∀ e, d = e + 1 → ∀ c : List Int, c.length = e → FC Try.prog 19 [.ints c] (.rows (permsN e c))) : FC Try.prog 19 [.ints l] (.rows (permsN d l)) := by
  refine FC.intro Try.func19 rfl (Nat.le_of_ble_eq_true rfl) fun hfit => ?_
  obtain ⟨fitl0, fitr0⟩ := (hfit _ (.head _)).ints
  refine awp_seq ?_
  refine awp_region rfl (.n (fun _ => op_assign (.plain rfl)) (.nil _)) ?_
  refine awp_seq ?_
  refine awp_seq ?_
  refine awp_region rfl (.n (fun _ => op_move (.plain rfl)) (.n (fun _ => op_len (s := 0) Try.underlying22 (.plain rfl)) (.n (fun _ => op_eql (.plain rfl) (.plain rfl)) (.nil _)))) ?_
  refine awp_cond rfl (fun h => ?_) (fun h => ?_)
  · try simp only [decide_eq_true_eq, decide_eq_false_iff_not, Bool.and_eq_true, Bool.or_eq_true, Bool.and_eq_false_iff, Bool.or_eq_false_iff, Bool.not_eq_true', Bool.not_eq_false', Bool.not_eq_true, Bool.not_eq_false, Bool.true_eq_false, Bool.false_eq_true] at h
    refine awp_seq ?_
    refine awp_region rfl (.n (fun _ => op_slit (pp := [(0, _)]) (α := (List Int)) (d := []) (f := (fun r => [.seq Int 0 (fun n => [.int .i64 n]) r])) [_] ety40 rfl ⟨rfl, (.nilS rfl), (by simp), trivial⟩ rfl (by decide) rfl) (.n (fun _ => op_assign (.plain rfl)) (.nil _))) ?_
    refine awp_ret ?_
    refine retQ.ret ?_
    refine ret1 rfl rfl rfl ?_
    obtain rfl : d = 0 := by omega
    rfl
  · try simp only [decide_eq_true_eq, decide_eq_false_iff_not, Bool.and_eq_true, Bool.or_eq_true, Bool.and_eq_false_iff, Bool.or_eq_false_iff, Bool.not_eq_true', Bool.not_eq_false', Bool.not_eq_true, Bool.not_eq_false, Bool.true_eq_false, Bool.false_eq_true] at h
    obtain ⟨e, rfl⟩ : ∃ e, d = e + 1 := ⟨d - 1, by omega⟩
    have hF := fact_le e (by omega)
    have hpl := fun i hi => permsN_len e _ (cut_length (i := i) hl hi)
    have hpt := fun i hi => permTo_len (f := permsN e) (l := l) hpl i hi
    refine awp_skip ?_
    refine awp_seq ?_
    refine awp_region rfl (.n (fun _ => op_assign (.plain rfl)) (.nil _)) ?_
    refine awp_seq ?_
    refine awp_seq ?_
    refine awp_region rfl (.n (fun _ => op_assign (.plain rfl)) (.nil _)) ?_
    refine awp_block ?_
    refine awp_ent (Ent.begin 3 1003 22 1 (List Int) [] (fun r => [.seq Int 0 (fun n => [.int .i64 n]) r]) rfl rfl rfl) ?_
    refine awp_loop (σ := Nat) (fun (i : Nat) => i ≤ l.length) (fun (i : Nat) => ⟨[(0, .pv (.ints l)), (3, .own 1003), (4, .int (i : Nat))], [(1003, .arr 22 1 (List Int) [] (fun r => [.seq Int 0 (fun n => [.int .i64 n]) r]) (permTo (permsN e) l i))]⟩) (fun (i : Nat) => l.length - i) 0 ?_ (Ent.kept ⟨rfl, rfl, rfl, trivial⟩ ⟨rfl, trivial⟩) ?_
    · simp
    rintro i hp
    try dsimp only at hp
    refine awp_seq ?_
    refine awp_seq ?_
    refine awp_region rfl (.n (fun _ => op_move (.plain rfl)) (.n (fun _ => op_move (.plain rfl)) (.n (fun _ => op_len (s := 0) Try.underlying22 (.plain rfl)) (.n (fun _ => op_lss (.plain rfl) (.plain rfl)) (.nil _))))) ?_
    refine awp_cond rfl (fun h => ?_) (fun h => ?_)
    · try simp only [decide_eq_true_eq, decide_eq_false_iff_not, Bool.and_eq_true, Bool.or_eq_true, Bool.and_eq_false_iff, Bool.or_eq_false_iff, Bool.not_eq_true', Bool.not_eq_false', Bool.not_eq_true, Bool.not_eq_false, Bool.true_eq_false, Bool.false_eq_true] at h
      have hci := cut_length (i := i) hl (by omega)
      have hpi := hpl i (by omega)
      refine awp_skip ?_
      refine awp_seq ?_
      refine awp_block ?_
      refine awp_seq ?_
      refine awp_region_draw mixed rfl (.e (op_slitO (pp := []) (α := Int) (d := 0) (f := (fun n => [.int .i64 n])) 18 [] ety22 rfl trivial rfl (by decide) rfl (fun _ => rfl) rfl) rfl (.n (fun _ => op_move (.plain rfl)) (.n (fun _ => op_move (.plain rfl)) (.n (fun _ => op_sliceI (kl := .i64) Try.underlying22 Try.sizeOf3 (fun _ => rfl) (.plain rfl) rfl (.plain rfl) ?_) (.e (op_append (id' := 22) (α := Int) (d := 0) (f := (fun n => [.int .i64 n])) ety22 Try.underlying22 (fun _ => rfl) (fun _ => rfl) (.plain rfl) rfl (.plain rfl) rfl ?_) rfl (.n (fun _ => op_move (.plain rfl)) (.n (fun _ => op_move (.plain rfl)) (.n (fun _ => op_add (.plain rfl) (.plain rfl) ?_) (.n (fun _ => op_sliceI (kh := .i64) Try.underlying22 Try.sizeOf3 (fun _ => rfl) (.plain rfl) (.plain rfl) rfl ?_) (.e (op_append (id' := 27) (α := Int) (d := 0) (f := (fun n => [.int .i64 n])) ety22 Try.underlying22 (fun _ => rfl) (fun _ => rfl) (.plain rfl) rfl (.plain rfl) rfl ?_) rfl (.n (fun _ => op_assign (.plain rfl)) (.nil _)))))))))))) ?d2 ?_
      · omega
      · first | omega | (simp; omega)
      · unfold InR; omega
      · omega
      · first | omega | (simp; omega)
      · kernel_rfl
      refine awp_seq ?_
      have hi1 : (((i : Nat) : Int) + 1).toNat = i + 1 := by omega
      simp only [List.nil_append, Int.toNat_natCast, Int.toNat_zero, List.drop_zero, List.take_length, hi1]
      rw [show l.take i ++ l.drop (i + 1) = cut l i from rfl]
      refine awp_ent (Ent.give 5 rfl rfl) ?_
      refine awp_region rfl (.n (fun _ => op_move (.plain rfl)) (.n (fun _ => op_call1 Try.call19 (.plain rfl) (ih e rfl (cut l i) ?_)) (.n (fun _ => op_assign (.plain rfl)) (.nil _)))) ?_
      · exact hci
      refine awp_seq ?_
      refine awp_region rfl (.n (fun _ => op_assign (.plain rfl)) (.nil _)) ?_
      refine awp_block ?_
      refine awp_loop (σ := Nat) (fun (k : Nat) => k ≤ (permsN e (cut l i)).length) (fun (k : Nat) => ⟨[(0, .pv (.ints l)), (3, .own 1003), (4, .int (i : Nat)), (6, .pv (.rows (permsN e (cut l i)))), (7, .int (k : Nat))], [(1003, .arr 22 1 (List Int) [] (fun r => [.seq Int 0 (fun n => [.int .i64 n]) r]) (permTo (permsN e) l i ++ mapTo (l.getD i 0) (permsN e (cut l i)) k))]⟩) (fun (k : Nat) => (permsN e (cut l i)).length - k) 0 ?_ (Ent.kept ⟨rfl, rfl, rfl, rfl, rfl, trivial⟩ ⟨(congrArg (fun l => some (Blk.arr 22 1 (List Int) [] (fun r => [.seq Int 0 (fun n => [.int .i64 n]) r]) l)) (by simp [mapTo])), trivial⟩) ?_
      · simp
      rintro k hp
      try dsimp only at hp
      refine awp_seq ?_
      refine awp_seq ?_
      refine awp_region rfl (.n (fun _ => op_move (.plain rfl)) (.n (fun _ => op_move (.plain rfl)) (.n (fun _ => op_len (s := 0) Try.underlying40 (.plain rfl)) (.n (fun _ => op_lss (.plain rfl) (.plain rfl)) (.nil _))))) ?_
      refine awp_cond rfl (fun h => ?_) (fun h => ?_)
      · try simp only [decide_eq_true_eq, decide_eq_false_iff_not, Bool.and_eq_true, Bool.or_eq_true, Bool.and_eq_false_iff, Bool.or_eq_false_iff, Bool.not_eq_true', Bool.not_eq_false', Bool.not_eq_true, Bool.not_eq_false, Bool.true_eq_false, Bool.false_eq_true] at h
        have hrl := permsN_row e _ hci _ (memG (show k < (permsN e (cut l i)).length by omega))
        refine awp_skip ?_
        refine awp_seq ?_
        refine awp_block ?_
        refine awp_region_draw mixed rfl (.n (fun _ => op_move (.plain rfl)) (.n (fun _ => op_move (.plain rfl)) (.n (fun _ => op_move (.plain rfl)) (.n (fun _ => op_indexAddrN Try.underlying22 Try.sizeOf3 (.plain rfl) (.plain rfl) (fun _ => rfl) ?_) (.n (fun _ => op_load Try.isAgg3 (.plain rfl)) (.e (op_slitO (pp := [(0, _)]) (α := Int) (d := 0) (f := (fun n => [.int .i64 n])) 41 [_] ety22 rfl ⟨rfl, (.plain rfl), (by simp), trivial⟩ rfl (by decide) rfl (fun _ => rfl) rfl) rfl (.n (fun _ => op_move (.plain rfl)) (.n (fun _ => op_move (.plain rfl)) (.n (fun _ => op_indexAddrN Try.underlying40 Try.sizeOf22 (.plain rfl) (.plain rfl) (fun _ => rfl) ?_) (.n (fun _ => op_load Try.isAgg22 (.plain rfl)) (.e ((op_append (id' := 46) (α := Int) (d := 0) (f := (fun n => [.int .i64 n])) ety22 Try.underlying22 (fun _ => rfl) (fun _ => rfl) (.plain rfl) rfl (.plain rfl) rfl ?_).given rfl) rfl (.n (fun _ => op_slit (pp := [(0, _)]) (α := (List Int)) (d := []) (f := (fun r => [.seq Int 0 (fun n => [.int .i64 n]) r])) [_] ety40 rfl ⟨rfl, (.plain rfl), (by simp), trivial⟩ rfl (by decide) rfl) (.e (op_append (id' := 48) (α := (List Int)) (d := []) (f := (fun r => [.seq Int 0 (fun n => [.int .i64 n]) r])) ety40 Try.underlying40 (fun _ => rfl) (fun _ => rfl) (.plain rfl) rfl (.plain rfl) rfl ?_) rfl (.n (fun _ => op_assign (.plain rfl)) (.nil _))))))))))))))) ?d3 ?_
        · omega
        · omega
        · rw [hrl]
          simp
          omega
        · rw [List.length_append, mapTo_len (by omega), hpt i (by omega)]
          have : i * factN e ≤ 3 * 6 := Nat.mul_le_mul (by omega) hF
          simp
          omega
        · kernel_rfl
        refine awp_region rfl (.n (fun _ => op_move (.plain rfl)) (.n (fun _ => op_add (.plain rfl) (.plain rfl) ?_) (.n (fun _ => op_assign (.plain rfl)) (.nil _)))) ?_
        · unfold InR; omega
        exact ⟨k + 1, by omega, by dsimp only; omega, (Ent.round 48 1003 ⟨rfl, rfl, rfl, rfl, rfl, trivial⟩ ⟨(congrArg (fun l => some (Blk.arr 22 1 (List Int) [] (fun r => [.seq Int 0 (fun n => [.int .i64 n]) r]) l)) (mapTo_succ (by omega))), trivial⟩ rfl rfl rfl ⟨rfl, rfl, rfl, rfl, rfl, trivial⟩ ⟨rfl, trivial⟩)⟩
      · try simp only [decide_eq_true_eq, decide_eq_false_iff_not, Bool.and_eq_true, Bool.or_eq_true, Bool.and_eq_false_iff, Bool.or_eq_false_iff, Bool.not_eq_true', Bool.not_eq_false', Bool.not_eq_true, Bool.not_eq_false, Bool.true_eq_false, Bool.false_eq_true] at h
        obtain rfl : k = (permsN e (cut l i)).length := by omega
        rw [mapTo_all]
        refine awp_exit ?_
        refine awp_region rfl (.n (fun _ => op_move (.plain rfl)) (.n (fun _ => op_add (.plain rfl) (.plain rfl) ?_) (.n (fun _ => op_assign (.plain rfl)) (.nil _)))) ?_
        · unfold InR; omega
        exact ⟨i + 1, by omega, by dsimp only; omega, (Ent.kept ⟨rfl, rfl, rfl, trivial⟩ ⟨rfl, trivial⟩)⟩
    · try simp only [decide_eq_true_eq, decide_eq_false_iff_not, Bool.and_eq_true, Bool.or_eq_true, Bool.and_eq_false_iff, Bool.or_eq_false_iff, Bool.not_eq_true', Bool.not_eq_false', Bool.not_eq_true, Bool.not_eq_false, Bool.true_eq_false, Bool.false_eq_true] at h
      refine awp_exit ?_
      refine awp_seq ?_
      refine awp_region rfl (.n (fun _ => op_move (.plain rfl)) (.n (fun _ => op_assign (.plain rfl)) (.nil _))) ?_
      refine awp_ret ?_
      refine retQ.ret ?_
      refine ret1 rfl rfl rfl ?_
      obtain rfl : i = l.length := by omega
      rfl


theorem Perms_fc : ∀ (d : Nat) (l : List Int), l.length = d → d ≤ 3 → FC Try.prog 19 [.ints l] (.rows (permsN d l))
  | 0, l, hl, hd => Perms_step l 0 hl hd fun e h => by omega
  | d + 1, l, hl, hd => Perms_step l (d + 1) hl hd fun e h c hc => by
    obtain rfl : d = e := by omega
    exact Perms_fc d c hc (by omega)

theorem OrderNo_fc (kI : Int) (k : Nat) (h : kI = (k : Nat)) (hk : k < 6) : FC Try.prog 8 [.i kI] (.ints (ordL k)) := by
  refine FC.intro Try.func8 rfl (Nat.le_of_ble_eq_true rfl) fun hfit => ?_
  have fit0 : -9223372036854775808 ≤ (kI : Int) ∧ (kI : Int) ≤ 9223372036854775807 := (hfit _ (.head _)).int64
  subst h
  have hpl : (permsN 3 [0, 1, 2]).length = 6 := rfl
  refine awp_seq ?_
  refine awp_region rfl (.n (fun _ => op_assign (.plain rfl)) (.nil _)) ?_
  refine awp_seq ?_
  refine awp_region rfl (.n (fun _ => op_slit (pp := [(0, _), (1, _), (2, _)]) (α := Int) (d := 0) (f := (fun n => [.int .i64 n])) [_, _, _] ety22 rfl ⟨rfl, (.plain rfl), (by simp), rfl, (.plain rfl), (by simp), rfl, (.plain rfl), (by simp), trivial⟩ rfl (by decide) rfl) (.n (fun _ => op_call1 Try.call19 (.plain rfl) (Perms_fc 3 [0, 1, 2] rfl (Nat.le_refl _))) (.n (fun _ => op_assign (.plain rfl)) (.nil _)))) ?_
  refine awp_seq ?_
  refine awp_region rfl (.n (fun _ => op_move (.plain rfl)) (.n (fun _ => op_move (.plain rfl)) (.n (fun _ => op_indexAddr Try.underlying40 Try.sizeOf22 (.plain rfl) (.plain rfl) (fun _ => rfl) ?_) (.n (fun _ => op_load Try.isAgg22 (.plain rfl)) (.n (fun _ => op_assign (.plain rfl)) (.nil _)))))) ?_
  · omega
  refine awp_ret ?_
  refine retQ.ret ?_
  refine ret1 rfl rfl rfl ?_
  rw [← perm_ord k hk]
  rfl

theorem Place_fc (l : List Int) (x : Int) : FC Try.prog 32 [.ints l, .i x] (.i (placeF l x)) := by
  refine FC.intro Try.func32 rfl (Nat.le_of_ble_eq_true rfl) fun hfit => ?_
  obtain ⟨fitl0, fitr0⟩ := (hfit _ (.head _)).ints
  have fit1 : -9223372036854775808 ≤ (x : Int) ∧ (x : Int) ≤ 9223372036854775807 := (hfit _ (.tail _ (.head _))).int64
  refine awp_seq ?_
  refine awp_region rfl (.n (fun _ => op_assign (.plain rfl)) (.nil _)) ?_
  refine awp_seq ?_
  refine awp_seq ?_
  refine awp_region rfl (.n (fun _ => op_assign (.plain rfl)) (.nil _)) ?_
  refine awp_block ?_
  refine awp_loop (σ := Nat) (fun (k : Nat) => k ≤ l.length ∧ firstI (fun i => decide (l.getD i 0 = x)) k = none) (fun (k : Nat) => ⟨[(0, .pv (.ints l)), (1, .int x), (5, .int (k : Nat))], []⟩) (fun (k : Nat) => l.length - k) 0 ?_ (Ent.kept ⟨rfl, rfl, rfl, trivial⟩ trivial) ?_
  · exact ⟨Nat.zero_le _, rfl⟩
  rintro k hp
  try dsimp only at hp
  obtain ⟨hk, hE⟩ := hp
  refine awp_seq ?_
  refine awp_seq ?_
  refine awp_region rfl (.n (fun _ => op_move (.plain rfl)) (.n (fun _ => op_move (.plain rfl)) (.n (fun _ => op_len (s := 0) Try.underlying22 (.plain rfl)) (.n (fun _ => op_lss (.plain rfl) (.plain rfl)) (.nil _))))) ?_
  refine awp_cond rfl (fun h => ?_) (fun h => ?_)
  · try simp only [decide_eq_true_eq, decide_eq_false_iff_not, Bool.and_eq_true, Bool.or_eq_true, Bool.and_eq_false_iff, Bool.or_eq_false_iff, Bool.not_eq_true', Bool.not_eq_false', Bool.not_eq_true, Bool.not_eq_false, Bool.true_eq_false, Bool.false_eq_true] at h
    refine awp_skip ?_
    refine awp_seq ?_
    refine awp_block ?_
    refine awp_seq ?_
    refine awp_region rfl (.n (fun _ => op_move (.plain rfl)) (.n (fun _ => op_move (.plain rfl)) (.n (fun _ => op_indexAddrN Try.underlying22 Try.sizeOf3 (.plain rfl) (.plain rfl) (fun _ => rfl) ?_) (.n (fun _ => op_load Try.isAgg3 (.plain rfl)) (.n (fun _ => op_move (.plain rfl)) (.n (fun _ => op_eql (.plain rfl) (.plain rfl)) (.nil _))))))) ?_
    · omega
    refine awp_cond rfl (fun h => ?_) (fun h => ?_)
    · try simp only [decide_eq_true_eq, decide_eq_false_iff_not, Bool.and_eq_true, Bool.or_eq_true, Bool.and_eq_false_iff, Bool.or_eq_false_iff, Bool.not_eq_true', Bool.not_eq_false', Bool.not_eq_true, Bool.not_eq_false, Bool.true_eq_false, Bool.false_eq_true] at h
      refine awp_seq ?_
      refine awp_region rfl (.n (fun _ => op_move (.plain rfl)) (.n (fun _ => op_assign (.plain rfl)) (.nil _))) ?_
      refine awp_ret ?_
      refine retQ.ret ?_
      refine ret1 rfl rfl rfl ?_
      unfold placeF
      rw [firstI_stop hE (decide_eq_true h) (by omega)]
    · try simp only [decide_eq_true_eq, decide_eq_false_iff_not, Bool.and_eq_true, Bool.or_eq_true, Bool.and_eq_false_iff, Bool.or_eq_false_iff, Bool.not_eq_true', Bool.not_eq_false', Bool.not_eq_true, Bool.not_eq_false, Bool.true_eq_false, Bool.false_eq_true] at h
      refine awp_skip ?_
      refine awp_region rfl (.n (fun _ => op_move (.plain rfl)) (.n (fun _ => op_add (.plain rfl) (.plain rfl) ?_) (.n (fun _ => op_assign (.plain rfl)) (.nil _)))) ?_
      · unfold InR; omega
      exact ⟨k + 1, ⟨by omega, firstI_succ hE (decide_eq_false h)⟩, by dsimp only; omega, (Ent.kept ⟨rfl, rfl, rfl, trivial⟩ trivial)⟩
  · try simp only [decide_eq_true_eq, decide_eq_false_iff_not, Bool.and_eq_true, Bool.or_eq_true, Bool.and_eq_false_iff, Bool.or_eq_false_iff, Bool.not_eq_true', Bool.not_eq_false', Bool.not_eq_true, Bool.not_eq_false, Bool.true_eq_false, Bool.false_eq_true] at h
    refine awp_exit ?_
    refine awp_seq ?_
    refine awp_region rfl (.n (fun _ => op_assign (.plain rfl)) (.nil _)) ?_
    refine awp_ret ?_
    refine retQ.ret ?_
    refine ret1 rfl rfl rfl ?_
    obtain rfl : k = l.length := by omega
    unfold placeF
    rw [hE]

theorem Over_fc (kI xI yI : Int) (k x y : Nat) (h1 : kI = (k : Nat)) (h2 : xI = (x : Nat)) (h3 : yI = (y : Nat)) (hk : k < 6) (hx : x < 3) (hy : y < 3) : FC Try.prog 31 [.i kI, .i xI, .i yI] (.bool (ovN k x y)) := by
  refine FC.intro Try.func31 rfl (Nat.le_of_ble_eq_true rfl) fun hfit => ?_
  have fit0 : -9223372036854775808 ≤ (kI : Int) ∧ (kI : Int) ≤ 9223372036854775807 := (hfit _ (.head _)).int64
  have fit1 : -9223372036854775808 ≤ (xI : Int) ∧ (xI : Int) ≤ 9223372036854775807 := (hfit _ (.tail _ (.head _))).int64
  have fit2 : -9223372036854775808 ≤ (yI : Int) ∧ (yI : Int) ≤ 9223372036854775807 := (hfit _ (.tail _ (.tail _ (.head _)))).int64
  subst h1 h2 h3
  refine awp_seq ?_
  refine awp_region rfl (.n (fun _ => op_assign (.plain rfl)) (.nil _)) ?_
  refine awp_seq ?_
  refine awp_region rfl (.n (fun _ => op_move (.plain rfl)) (.n (fun _ => op_call1 Try.call8 (.plain rfl) (OrderNo_fc _ k ?_ ?_)) (.n (fun _ => op_assign (.plain rfl)) (.nil _)))) ?_
  · rfl
  · omega
  refine awp_seq ?_
  refine awp_region rfl (.n (fun _ => op_move (.plain rfl)) (.n (fun _ => op_move (.plain rfl)) (.n (fun _ => op_call2 Try.call32 (.plain rfl) (.plain rfl) (Place_fc _ _)) (.n (fun _ => op_assign (.plain rfl)) (.nil _))))) ?_
  refine awp_seq ?_
  refine awp_region rfl (.n (fun _ => op_move (.plain rfl)) (.n (fun _ => op_move (.plain rfl)) (.n (fun _ => op_call2 Try.call32 (.plain rfl) (.plain rfl) (Place_fc _ _)) (.n (fun _ => op_assign (.plain rfl)) (.nil _))))) ?_
  refine awp_seq ?_
  refine awp_region rfl (.n (fun _ => op_move (.plain rfl)) (.n (fun _ => op_move (.plain rfl)) (.n (fun _ => op_lss (.plain rfl) (.plain rfl)) (.n (fun _ => op_assign (.plain rfl)) (.nil _))))) ?_
  refine awp_ret ?_
  refine retQ.ret ?_
  refine ret1 rfl rfl rfl ?_
  rw [ov_place k hk x hx y hy]

theorem In_fc (x : Int) (l : List Int) : FC Try.prog 23 [.i x, .ints l] (.bool (decide (0 ≤ placeF l x))) := by
  refine FC.intro Try.func23 rfl (Nat.le_of_ble_eq_true rfl) fun hfit => ?_
  have fit0 : -9223372036854775808 ≤ (x : Int) ∧ (x : Int) ≤ 9223372036854775807 := (hfit _ (.head _)).int64
  obtain ⟨fitl1, fitr1⟩ := (hfit _ (.tail _ (.head _))).ints
  refine awp_seq ?_
  refine awp_region rfl (.n (fun _ => op_assign (.plain rfl)) (.nil _)) ?_
  refine awp_seq ?_
  refine awp_region rfl (.n (fun _ => op_move (.plain rfl)) (.n (fun _ => op_move (.plain rfl)) (.n (fun _ => op_call2 Try.call32 (.plain rfl) (.plain rfl) (Place_fc _ _)) (.n (fun _ => op_geq (.plain rfl) (.plain rfl)) (.n (fun _ => op_assign (.plain rfl)) (.nil _)))))) ?_
  refine awp_ret ?_
  refine retQ.ret ?_
  refine ret1 rfl rfl rfl ?_
  rfl

theorem overs_fc  : FC Try.prog 30 [] (.bools (mapr 54 ovI)) := by
  refine FC.intro Try.func30 rfl (Nat.le_of_ble_eq_true rfl) fun hfit => ?_
  refine awp_seq ?_
  refine awp_region rfl (.n (fun _ => op_assign (.plain rfl)) (.nil _)) ?_
  refine awp_seq ?_
  refine awp_region rfl (.e (op_make (α := Bool) (d := false) (f := (fun b => [.bool b])) 5 false ety52 (.plain rfl) (.plain rfl) (fun _ => rfl) rfl rfl ?_) rfl (.n (fun _ => op_assign (.plain rfl)) (.nil _))) ?_
  · omega
  refine awp_seq ?_
  refine awp_seq ?_
  refine awp_region rfl (.n (fun _ => op_assign (.plain rfl)) (.nil _)) ?_
  refine awp_block ?_
  refine awp_ent (Ent.ren 5 1001 rfl rfl rfl) ?_
  refine awp_loop (σ := Nat) (fun (k : Nat) => k ≤ 6) (fun (k : Nat) => ⟨[(1, .own 1001), (2, .int (k : Nat))], [(1001, .arr 4 1 Bool false (fun b => [.bool b]) (mapr 54 fun j => if j < 9 * k then ovI j else false))]⟩) (fun (k : Nat) => 6 - k) 0 ?_ (Ent.kept ⟨rfl, rfl, trivial⟩ ⟨(congrArg (fun l => some (Blk.arr 4 1 Bool false (fun b => [.bool b]) l)) (by rw [show ((54 : Int)).toNat = 54 from rfl, replicate_mapr]; exact mapr_same fun j _ => by simp)), trivial⟩) ?_
  · simp
  rintro k hp
  try dsimp only at hp
  refine awp_seq ?_
  refine awp_seq ?_
  refine awp_region rfl (.n (fun _ => op_move (.plain rfl)) (.n (fun _ => op_lss (.plain rfl) (.plain rfl)) (.nil _))) ?_
  refine awp_cond rfl (fun h => ?_) (fun h => ?_)
  · try simp only [decide_eq_true_eq, decide_eq_false_iff_not, Bool.and_eq_true, Bool.or_eq_true, Bool.and_eq_false_iff, Bool.or_eq_false_iff, Bool.not_eq_true', Bool.not_eq_false', Bool.not_eq_true, Bool.not_eq_false, Bool.true_eq_false, Bool.false_eq_true] at h
    refine awp_skip ?_
    refine awp_seq ?_
    refine awp_block ?_
    refine awp_seq ?_
    refine awp_region rfl (.n (fun _ => op_assign (.plain rfl)) (.nil _)) ?_
    refine awp_block ?_
    refine awp_loop (σ := Nat) (fun (x : Nat) => x ≤ 3) (fun (x : Nat) => ⟨[(1, .own 1001), (2, .int (k : Nat)), (3, .int (x : Nat))], [(1001, .arr 4 1 Bool false (fun b => [.bool b]) (mapr 54 fun j => if j < 9 * k + 3 * x then ovI j else false))]⟩) (fun (x : Nat) => 3 - x) 0 ?_ (Ent.kept ⟨rfl, rfl, rfl, trivial⟩ ⟨rfl, trivial⟩) ?_
    · simp
    rintro x hp
    try dsimp only at hp
    refine awp_seq ?_
    refine awp_seq ?_
    refine awp_region rfl (.n (fun _ => op_move (.plain rfl)) (.n (fun _ => op_lss (.plain rfl) (.plain rfl)) (.nil _))) ?_
    refine awp_cond rfl (fun h => ?_) (fun h => ?_)
    · try simp only [decide_eq_true_eq, decide_eq_false_iff_not, Bool.and_eq_true, Bool.or_eq_true, Bool.and_eq_false_iff, Bool.or_eq_false_iff, Bool.not_eq_true', Bool.not_eq_false', Bool.not_eq_true, Bool.not_eq_false, Bool.true_eq_false, Bool.false_eq_true] at h
      refine awp_skip ?_
      refine awp_seq ?_
      refine awp_block ?_
      refine awp_seq ?_
      refine awp_region rfl (.n (fun _ => op_assign (.plain rfl)) (.nil _)) ?_
      refine awp_block ?_
      refine awp_loop (σ := Nat) (fun (y : Nat) => y ≤ 3) (fun (y : Nat) => ⟨[(1, .own 1001), (2, .int (k : Nat)), (3, .int (x : Nat)), (4, .int (y : Nat))], [(1001, .arr 4 1 Bool false (fun b => [.bool b]) (mapr 54 fun j => if j < 9 * k + 3 * x + y then ovI j else false))]⟩) (fun (y : Nat) => 3 - y) 0 ?_ (Ent.kept ⟨rfl, rfl, rfl, rfl, trivial⟩ ⟨rfl, trivial⟩) ?_
      · simp
      rintro y hp
      try dsimp only at hp
      have hml : (mapr 54 fun j => if j < 9 * k + 3 * x + y then ovI j else false).length = 54 := mapr_length _ _
      refine awp_seq ?_
      refine awp_seq ?_
      refine awp_region rfl (.n (fun _ => op_move (.plain rfl)) (.n (fun _ => op_lss (.plain rfl) (.plain rfl)) (.nil _))) ?_
      refine awp_cond rfl (fun h => ?_) (fun h => ?_)
      · try simp only [decide_eq_true_eq, decide_eq_false_iff_not, Bool.and_eq_true, Bool.or_eq_true, Bool.and_eq_false_iff, Bool.or_eq_false_iff, Bool.not_eq_true', Bool.not_eq_false', Bool.not_eq_true, Bool.not_eq_false, Bool.true_eq_false, Bool.false_eq_true] at h
        refine awp_skip ?_
        refine awp_seq ?_
        refine awp_block ?_
        refine awp_region rfl (.n (fun _ => op_move (.plain rfl)) (.n (fun _ => op_move (.plain rfl)) (.n (fun _ => op_mul (.plain rfl) (.plain rfl) ?_) (.n (fun _ => op_move (.plain rfl)) (.n (fun _ => op_mul (.plain rfl) (.plain rfl) ?_) (.n (fun _ => op_add (.plain rfl) (.plain rfl) ?_) (.n (fun _ => op_move (.plain rfl)) (.n (fun _ => op_add (.plain rfl) (.plain rfl) ?_) (.n (fun _ => op_move (.plain rfl)) (.n (fun _ => op_move (.plain rfl)) (.n (fun _ => op_move (.plain rfl)) (.n (fun _ => op_call3 Try.call31 (.plain rfl) (.plain rfl) (.plain rfl) (Over_fc _ _ _ k x y ?_ ?_ ?_ ?_ ?_ ?_)) (.r (op_indexAddrO Try.underlying52 Try.sizeOf4 (.plain rfl) rfl (.plain rfl) ?_) (.e (op_storeE _ Try.sizeOf4 (.plain rfl) (.plain rfl) rfl (fun _ => rfl) ?_ (by decide) rfl rfl) rfl (.nil _))))))))))))))) ?_
        · unfold InR; omega
        · unfold InR; omega
        · unfold InR; omega
        · unfold InR; omega
        · rfl
        · rfl
        · rfl
        · omega
        · omega
        · omega
        · first | omega | (simp; omega)
        · first | omega | (simp; omega)
        refine awp_region rfl (.n (fun _ => op_move (.plain rfl)) (.n (fun _ => op_add (.plain rfl) (.plain rfl) ?_) (.n (fun _ => op_assign (.plain rfl)) (.nil _)))) ?_
        · unfold InR; omega
        exact ⟨y + 1, by omega, by dsimp only; omega, (Ent.kept ⟨rfl, rfl, rfl, rfl, trivial⟩ ⟨(congrArg (fun l => some (Blk.arr 4 1 Bool false (fun b => [.bool b]) l)) (ov_set (by omega) (by omega) (by omega))), trivial⟩)⟩
      · try simp only [decide_eq_true_eq, decide_eq_false_iff_not, Bool.and_eq_true, Bool.or_eq_true, Bool.and_eq_false_iff, Bool.or_eq_false_iff, Bool.not_eq_true', Bool.not_eq_false', Bool.not_eq_true, Bool.not_eq_false, Bool.true_eq_false, Bool.false_eq_true] at h
        obtain rfl : y = 3 := by omega
        refine awp_exit ?_
        refine awp_region rfl (.n (fun _ => op_move (.plain rfl)) (.n (fun _ => op_add (.plain rfl) (.plain rfl) ?_) (.n (fun _ => op_assign (.plain rfl)) (.nil _)))) ?_
        · unfold InR; omega
        exact ⟨x + 1, by omega, by dsimp only; omega, (Ent.kept ⟨rfl, rfl, rfl, trivial⟩ ⟨rfl, trivial⟩)⟩
    · try simp only [decide_eq_true_eq, decide_eq_false_iff_not, Bool.and_eq_true, Bool.or_eq_true, Bool.and_eq_false_iff, Bool.or_eq_false_iff, Bool.not_eq_true', Bool.not_eq_false', Bool.not_eq_true, Bool.not_eq_false, Bool.true_eq_false, Bool.false_eq_true] at h
      obtain rfl : x = 3 := by omega
      refine awp_exit ?_
      refine awp_region rfl (.n (fun _ => op_move (.plain rfl)) (.n (fun _ => op_add (.plain rfl) (.plain rfl) ?_) (.n (fun _ => op_assign (.plain rfl)) (.nil _)))) ?_
      · unfold InR; omega
      exact ⟨k + 1, by omega, by dsimp only; omega, (Ent.kept ⟨rfl, rfl, trivial⟩ ⟨rfl, trivial⟩)⟩
  · try simp only [decide_eq_true_eq, decide_eq_false_iff_not, Bool.and_eq_true, Bool.or_eq_true, Bool.and_eq_false_iff, Bool.or_eq_false_iff, Bool.not_eq_true', Bool.not_eq_false', Bool.not_eq_true, Bool.not_eq_false, Bool.true_eq_false, Bool.false_eq_true] at h
    obtain rfl : k = 6 := by omega
    rw [ov_end]
    refine awp_exit ?_
    refine awp_seq ?_
    refine awp_region rfl (.n (fun _ => op_move (.plain rfl)) (.n (fun _ => op_assign (.plain rfl)) (.nil _))) ?_
    refine awp_ret ?_
    refine retQ.ret ?_
    refine ret1 rfl rfl rfl ?_
    rfl

theorem AgreesR_fc (rule : List Int) (hok : TabOk rule 6) : FC Try.prog 20 [.ints rule] (.bool (allF (agrP rule))) := by
  refine FC.intro Try.func20 rfl (Nat.le_of_ble_eq_true rfl) fun hfit => ?_
  obtain ⟨fitl0, fitr0⟩ := (hfit _ (.head _)).ints
  have hlen := hok.len
  have hol : (mapr 54 ovI).length = 54 := mapr_length _ _
  refine awp_seq ?_
  refine awp_region rfl (.n (fun _ => op_assign (.plain rfl)) (.nil _)) ?_
  refine awp_seq ?_
  refine awp_region rfl (.n (fun _ => op_call0 Try.call30  (overs_fc)) (.n (fun _ => op_assign (.plain rfl)) (.nil _))) ?_
  refine awp_seq ?_
  refine awp_seq ?_
  refine awp_region rfl (.n (fun _ => op_assign (.plain rfl)) (.nil _)) ?_
  refine awp_block ?_
  refine awp_loop (σ := Nat) (fun (p : Nat) => p ≤ 36 ∧ allTo (agR rule) p = true) (fun (p : Nat) => ⟨[(0, .pv (.ints rule)), (3, .pv (.bools (mapr 54 ovI))), (4, .int (p : Nat))], []⟩) (fun (p : Nat) => 36 - p) 0 ?_ (Ent.kept ⟨rfl, rfl, rfl, trivial⟩ trivial) ?_
  · exact ⟨Nat.zero_le _, rfl⟩
  rintro p hp
  try dsimp only at hp
  obtain ⟨hp, hap⟩ := hp
  refine awp_seq ?_
  refine awp_seq ?_
  refine awp_region rfl (.n (fun _ => op_move (.plain rfl)) (.n (fun _ => op_lss (.plain rfl) (.plain rfl)) (.nil _))) ?_
  refine awp_cond rfl (fun h => ?_) (fun h => ?_)
  · try simp only [decide_eq_true_eq, decide_eq_false_iff_not, Bool.and_eq_true, Bool.or_eq_true, Bool.and_eq_false_iff, Bool.or_eq_false_iff, Bool.not_eq_true', Bool.not_eq_false', Bool.not_eq_true, Bool.not_eq_false, Bool.true_eq_false, Bool.false_eq_true] at h
    refine awp_skip ?_
    refine awp_seq ?_
    refine awp_block ?_
    refine awp_seq ?_
    refine awp_region rfl (.n (fun _ => op_assign (.plain rfl)) (.nil _)) ?_
    refine awp_block ?_
    refine awp_loop (σ := Nat) (fun (x : Nat) => x ≤ 9 ∧ allTo (agX rule p) x = true) (fun (x : Nat) => ⟨[(0, .pv (.ints rule)), (3, .pv (.bools (mapr 54 ovI))), (4, .int (p : Nat)), (5, .int (x : Nat))], []⟩) (fun (x : Nat) => 9 - x) 0 ?_ (Ent.kept ⟨rfl, rfl, rfl, rfl, trivial⟩ trivial) ?_
    · exact ⟨Nat.zero_le _, rfl⟩
    rintro x hp
    try dsimp only at hp
    obtain ⟨hx9, hax⟩ := hp
    refine awp_seq ?_
    refine awp_seq ?_
    refine awp_region rfl (.n (fun _ => op_move (.plain rfl)) (.n (fun _ => op_lss (.plain rfl) (.plain rfl)) (.nil _))) ?_
    refine awp_cond rfl (fun h => ?_) (fun h => ?_)
    · try simp only [decide_eq_true_eq, decide_eq_false_iff_not, Bool.and_eq_true, Bool.or_eq_true, Bool.and_eq_false_iff, Bool.or_eq_false_iff, Bool.not_eq_true', Bool.not_eq_false', Bool.not_eq_true, Bool.not_eq_false, Bool.true_eq_false, Bool.false_eq_true] at h
      have hv := hok.val p (by omega)
      have hrp := rN_cast hok (show p < 36 by omega)
      have hrl := rN_lt (n := 6) hok (show p < 36 by omega)
      have o1 := ov_x (kI := ((p : Nat) : Int) / 6) (k := p / 6) (x := x) (by omega) (by omega) (by omega)
      have o2 := ov_x (kI := ((p : Nat) : Int) % 6) (k := p % 6) (x := x) (by omega) (by omega) (by omega)
      have o3 := ov_x (kI := rule.getD p 0) (k := rN rule p) (x := x) hrp (by omega) (by omega)
      refine awp_skip ?_
      refine awp_seq ?_
      refine awp_block ?_
      refine awp_seq ?_
      refine awp_region rfl (.n (fun _ => op_move (.plain rfl)) (.n (fun _ => op_quo (.plain rfl) (.plain rfl) ?_) (.n (fun _ => op_move (.plain rfl)) (.n (fun _ => op_rem (.plain rfl) (.plain rfl) ?_) (.n (fun _ => op_neq (.plain rfl) (.plain rfl)) (.n (fun _ => op_move (.plain rfl)) (.gn rfl rfl (fun hg _ => op_move (.plain rfl)) (.gn rfl rfl (fun hg _ => op_move (.plain rfl)) (.gn rfl rfl (fun hg _ => op_quo (.opt rfl fun h => h) (.plain rfl) ?_) (.gn rfl rfl (fun hg _ => op_mul (.plain rfl) (.opt rfl fun h => h) ?_) (.gn rfl rfl (fun hg _ => op_move (.plain rfl)) (.gn rfl rfl (fun hg _ => op_add (.opt rfl fun h => h) (.opt rfl fun h => h) ?_) (.gn rfl rfl (fun hg _ => op_indexAddr Try.underlying52 Try.sizeOf4 (.opt rfl fun h => h) (.opt rfl fun h => h) (fun _ => rfl) ?_) (.gn rfl rfl (fun hg _ => op_load Try.isAgg4 (.opt rfl fun h => h)) (.n (fun _ => op_and (.plain rfl) (.plain rfl) (.plain rfl) (fun h => eqT h)) (.n (fun _ => op_move (.plain rfl)) (.gn rfl rfl (fun hg _ => op_move (.plain rfl)) (.gn rfl rfl (fun hg _ => op_move (.plain rfl)) (.gn rfl rfl (fun hg _ => op_rem (.opt rfl fun h => h) (.plain rfl) ?_) (.gn rfl rfl (fun hg _ => op_mul (.plain rfl) (.opt rfl fun h => h) ?_) (.gn rfl rfl (fun hg _ => op_move (.plain rfl)) (.gn rfl rfl (fun hg _ => op_add (.opt rfl fun h => h) (.opt rfl fun h => h) ?_) (.gn rfl rfl (fun hg _ => op_indexAddr Try.underlying52 Try.sizeOf4 (.opt rfl fun h => h) (.opt rfl fun h => h) (fun _ => rfl) ?_) (.gn rfl rfl (fun hg _ => op_load Try.isAgg4 (.opt rfl fun h => h)) (.n (fun _ => op_and (.plain rfl) (.plain rfl) (.plain rfl) (fun h => eqT h)) (.n (fun _ => op_move (.plain rfl)) (.gn rfl rfl (fun hg _ => op_move (.plain rfl)) (.gn rfl rfl (fun hg _ => op_move (.plain rfl)) (.gn rfl rfl (fun hg _ => op_move (.plain rfl)) (.gn rfl rfl (fun hg _ => op_indexAddrN Try.underlying22 Try.sizeOf3 (.opt rfl fun h => h) (.opt rfl fun h => h) (fun _ => rfl) ?_) (.gn rfl rfl (fun hg _ => op_load Try.isAgg3 (.opt rfl fun h => h)) (.gn rfl rfl (fun hg _ => op_mul (.plain rfl) (.opt rfl fun h => h) ?_) (.gn rfl rfl (fun hg _ => op_move (.plain rfl)) (.gn rfl rfl (fun hg _ => op_add (.opt rfl fun h => h) (.opt rfl fun h => h) ?_) (.gn rfl rfl (fun hg _ => op_indexAddr Try.underlying52 Try.sizeOf4 (.opt rfl fun h => h) (.opt rfl fun h => h) (fun _ => rfl) ?_) (.gn rfl rfl (fun hg _ => op_load Try.isAgg4 (.opt rfl fun h => h)) (.gn rfl rfl (fun hg _ => op_not (.opt rfl fun h => h)) (.n (fun _ => op_and (.plain rfl) (.plain rfl) (.plain rfl) (fun h => eqT h)) (.nil _))))))))))))))))))))))))))))))))))))))) ?_
      · omega
      · omega
      · try simp only [beq_iff_eq, beq_true, beq_false, Bool.and_eq_true, decide_eq_true_eq, decide_eq_false_iff_not, Bool.not_eq_true', Bool.or_eq_true, Bool.or_eq_false_iff] at hg
        omega
      · try simp only [beq_iff_eq, beq_true, beq_false, Bool.and_eq_true, decide_eq_true_eq, decide_eq_false_iff_not, Bool.not_eq_true', Bool.or_eq_true, Bool.or_eq_false_iff] at hg
        unfold InR; omega
      · try simp only [beq_iff_eq, beq_true, beq_false, Bool.and_eq_true, decide_eq_true_eq, decide_eq_false_iff_not, Bool.not_eq_true', Bool.or_eq_true, Bool.or_eq_false_iff] at hg
        unfold InR; omega
      · try simp only [beq_iff_eq, beq_true, beq_false, Bool.and_eq_true, decide_eq_true_eq, decide_eq_false_iff_not, Bool.not_eq_true', Bool.or_eq_true, Bool.or_eq_false_iff] at hg
        omega
      · try simp only [beq_iff_eq, beq_true, beq_false, Bool.and_eq_true, decide_eq_true_eq, decide_eq_false_iff_not, Bool.not_eq_true', Bool.or_eq_true, Bool.or_eq_false_iff] at hg
        omega
      · try simp only [beq_iff_eq, beq_true, beq_false, Bool.and_eq_true, decide_eq_true_eq, decide_eq_false_iff_not, Bool.not_eq_true', Bool.or_eq_true, Bool.or_eq_false_iff] at hg
        unfold InR; omega
      · try simp only [beq_iff_eq, beq_true, beq_false, Bool.and_eq_true, decide_eq_true_eq, decide_eq_false_iff_not, Bool.not_eq_true', Bool.or_eq_true, Bool.or_eq_false_iff] at hg
        unfold InR; omega
      · try simp only [beq_iff_eq, beq_true, beq_false, Bool.and_eq_true, decide_eq_true_eq, decide_eq_false_iff_not, Bool.not_eq_true', Bool.or_eq_true, Bool.or_eq_false_iff] at hg
        omega
      · try simp only [beq_iff_eq, beq_true, beq_false, Bool.and_eq_true, decide_eq_true_eq, decide_eq_false_iff_not, Bool.not_eq_true', Bool.or_eq_true, Bool.or_eq_false_iff] at hg
        omega
      · try simp only [beq_iff_eq, beq_true, beq_false, Bool.and_eq_true, decide_eq_true_eq, decide_eq_false_iff_not, Bool.not_eq_true', Bool.or_eq_true, Bool.or_eq_false_iff] at hg
        unfold InR; omega
      · try simp only [beq_iff_eq, beq_true, beq_false, Bool.and_eq_true, decide_eq_true_eq, decide_eq_false_iff_not, Bool.not_eq_true', Bool.or_eq_true, Bool.or_eq_false_iff] at hg
        unfold InR; omega
      · try simp only [beq_iff_eq, beq_true, beq_false, Bool.and_eq_true, decide_eq_true_eq, decide_eq_false_iff_not, Bool.not_eq_true', Bool.or_eq_true, Bool.or_eq_false_iff] at hg
        omega
      refine awp_cond rfl (fun h => ?_) (fun h => ?_)
      · try simp only [decide_eq_true_eq, decide_eq_false_iff_not, Bool.and_eq_true, Bool.or_eq_true, Bool.and_eq_false_iff, Bool.or_eq_false_iff, Bool.not_eq_true', Bool.not_eq_false', Bool.not_eq_true, Bool.not_eq_false, Bool.true_eq_false, Bool.false_eq_true] at h
        rw [o1, o2, o3] at h
        have hx : agX rule p x = false := by
          unfold agX
          rw [h.1.1.2, h.1.2, h.2, decide_eq_false (by omega)]
          rfl
        refine awp_seq ?_
        refine awp_region rfl (.n (fun _ => op_assign (.plain rfl)) (.nil _)) ?_
        refine awp_ret ?_
        refine retQ.ret ?_
        refine ret1 rfl rfl rfl ?_
        rw [← agr_same, show allTo (agR rule) 36 = false from allTo_stop (allTo_stop hx (by omega)) (show p < 36 by omega)]
      · try simp only [decide_eq_true_eq, decide_eq_false_iff_not, Bool.and_eq_true, Bool.or_eq_true, Bool.and_eq_false_iff, Bool.or_eq_false_iff, Bool.not_eq_true', Bool.not_eq_false', Bool.not_eq_true, Bool.not_eq_false, Bool.true_eq_false, Bool.false_eq_true] at h
        rw [o1, o2, o3] at h
        have hx : agX rule p x = true := by
          unfold agX
          rcases h with ((h | h) | h) | h
          · rw [decide_eq_true (show x / 3 = x % 3 by omega)]; rfl
          · rw [h, Bool.and_false]; rfl
          · rw [h, Bool.and_false]; rfl
          · rw [h, Bool.not_true, Bool.and_false]; rfl
        refine awp_skip ?_
        refine awp_region rfl (.n (fun _ => op_move (.plain rfl)) (.n (fun _ => op_add (.plain rfl) (.plain rfl) ?_) (.n (fun _ => op_assign (.plain rfl)) (.nil _)))) ?_
        · unfold InR; omega
        exact ⟨x + 1, ⟨by omega, allTo_succ hax hx⟩, by dsimp only; omega, (Ent.kept ⟨rfl, rfl, rfl, rfl, trivial⟩ trivial)⟩
    · try simp only [decide_eq_true_eq, decide_eq_false_iff_not, Bool.and_eq_true, Bool.or_eq_true, Bool.and_eq_false_iff, Bool.or_eq_false_iff, Bool.not_eq_true', Bool.not_eq_false', Bool.not_eq_true, Bool.not_eq_false, Bool.true_eq_false, Bool.false_eq_true] at h
      obtain rfl : x = 9 := by omega
      refine awp_exit ?_
      refine awp_region rfl (.n (fun _ => op_move (.plain rfl)) (.n (fun _ => op_add (.plain rfl) (.plain rfl) ?_) (.n (fun _ => op_assign (.plain rfl)) (.nil _)))) ?_
      · unfold InR; omega
      exact ⟨p + 1, ⟨by omega, allTo_succ hap hax⟩, by dsimp only; omega, (Ent.kept ⟨rfl, rfl, rfl, trivial⟩ trivial)⟩
  · try simp only [decide_eq_true_eq, decide_eq_false_iff_not, Bool.and_eq_true, Bool.or_eq_true, Bool.and_eq_false_iff, Bool.or_eq_false_iff, Bool.not_eq_true', Bool.not_eq_false', Bool.not_eq_true, Bool.not_eq_false, Bool.true_eq_false, Bool.false_eq_true] at h
    obtain rfl : p = 36 := by omega
    refine awp_exit ?_
    refine awp_seq ?_
    refine awp_region rfl (.n (fun _ => op_assign (.plain rfl)) (.nil _)) ?_
    refine awp_ret ?_
    refine retQ.ret ?_
    refine ret1 rfl rfl rfl ?_
    rw [← agr_same, hap]

theorem ApartR_fc (rule : List Int) (hok : TabOk rule 6) : FC Try.prog 21 [.ints rule] (.bool (allF (aptP rule))) := by
  refine FC.intro Try.func21 rfl (Nat.le_of_ble_eq_true rfl) fun hfit => ?_
  obtain ⟨fitl0, fitr0⟩ := (hfit _ (.head _)).ints
  have hlen := hok.len
  have hol : (mapr 54 ovI).length = 54 := mapr_length _ _
  refine awp_seq ?_
  refine awp_region rfl (.n (fun _ => op_assign (.plain rfl)) (.nil _)) ?_
  refine awp_seq ?_
  refine awp_region rfl (.n (fun _ => op_call0 Try.call30  (overs_fc)) (.n (fun _ => op_assign (.plain rfl)) (.nil _))) ?_
  refine awp_seq ?_
  refine awp_seq ?_
  refine awp_region rfl (.n (fun _ => op_assign (.plain rfl)) (.nil _)) ?_
  refine awp_block ?_
  refine awp_loop (σ := Nat) (fun (p : Nat) => p ≤ 36 ∧ allTo (apR rule) p = true) (fun (p : Nat) => ⟨[(0, .pv (.ints rule)), (3, .pv (.bools (mapr 54 ovI))), (4, .int (p : Nat))], []⟩) (fun (p : Nat) => 36 - p) 0 ?_ (Ent.kept ⟨rfl, rfl, rfl, trivial⟩ trivial) ?_
  · exact ⟨Nat.zero_le _, rfl⟩
  rintro p hp
  try dsimp only at hp
  obtain ⟨hp, hap⟩ := hp
  refine awp_seq ?_
  refine awp_seq ?_
  refine awp_region rfl (.n (fun _ => op_move (.plain rfl)) (.n (fun _ => op_lss (.plain rfl) (.plain rfl)) (.nil _))) ?_
  refine awp_cond rfl (fun h => ?_) (fun h => ?_)
  · try simp only [decide_eq_true_eq, decide_eq_false_iff_not, Bool.and_eq_true, Bool.or_eq_true, Bool.and_eq_false_iff, Bool.or_eq_false_iff, Bool.not_eq_true', Bool.not_eq_false', Bool.not_eq_true, Bool.not_eq_false, Bool.true_eq_false, Bool.false_eq_true] at h
    refine awp_skip ?_
    refine awp_seq ?_
    refine awp_block ?_
    refine awp_seq ?_
    refine awp_region rfl (.n (fun _ => op_assign (.plain rfl)) (.nil _)) ?_
    refine awp_block ?_
    refine awp_loop (σ := Nat) (fun (q : Nat) => q ≤ 36 ∧ allTo (apQ rule p) q = true) (fun (q : Nat) => ⟨[(0, .pv (.ints rule)), (3, .pv (.bools (mapr 54 ovI))), (4, .int (p : Nat)), (5, .int (q : Nat))], []⟩) (fun (q : Nat) => 36 - q) 0 ?_ (Ent.kept ⟨rfl, rfl, rfl, rfl, trivial⟩ trivial) ?_
    · exact ⟨Nat.zero_le _, rfl⟩
    rintro q hp
    try dsimp only at hp
    obtain ⟨hq36, haq⟩ := hp
    refine awp_seq ?_
    refine awp_seq ?_
    refine awp_region rfl (.n (fun _ => op_move (.plain rfl)) (.n (fun _ => op_lss (.plain rfl) (.plain rfl)) (.nil _))) ?_
    refine awp_cond rfl (fun h => ?_) (fun h => ?_)
    · try simp only [decide_eq_true_eq, decide_eq_false_iff_not, Bool.and_eq_true, Bool.or_eq_true, Bool.and_eq_false_iff, Bool.or_eq_false_iff, Bool.not_eq_true', Bool.not_eq_false', Bool.not_eq_true, Bool.not_eq_false, Bool.true_eq_false, Bool.false_eq_true] at h
      refine awp_skip ?_
      refine awp_seq ?_
      refine awp_block ?_
      refine awp_seq ?_
      refine awp_region rfl (.n (fun _ => op_assign (.plain rfl)) (.nil _)) ?_
      refine awp_block ?_
      refine awp_loop (σ := Nat) (fun (x : Nat) => x ≤ 9 ∧ allTo (apX rule p q) x = true) (fun (x : Nat) => ⟨[(0, .pv (.ints rule)), (3, .pv (.bools (mapr 54 ovI))), (4, .int (p : Nat)), (5, .int (q : Nat)), (6, .int (x : Nat))], []⟩) (fun (x : Nat) => 9 - x) 0 ?_ (Ent.kept ⟨rfl, rfl, rfl, rfl, rfl, trivial⟩ trivial) ?_
      · exact ⟨Nat.zero_le _, rfl⟩
      rintro x hp
      try dsimp only at hp
      obtain ⟨hx9, hax⟩ := hp
      refine awp_seq ?_
      refine awp_seq ?_
      refine awp_region rfl (.n (fun _ => op_move (.plain rfl)) (.n (fun _ => op_lss (.plain rfl) (.plain rfl)) (.nil _))) ?_
      refine awp_cond rfl (fun h => ?_) (fun h => ?_)
      · try simp only [decide_eq_true_eq, decide_eq_false_iff_not, Bool.and_eq_true, Bool.or_eq_true, Bool.and_eq_false_iff, Bool.or_eq_false_iff, Bool.not_eq_true', Bool.not_eq_false', Bool.not_eq_true, Bool.not_eq_false, Bool.true_eq_false, Bool.false_eq_true] at h
        have hv := hok.val p (by omega)
        have hvq := hok.val q (by omega)
        have hrp := rN_cast hok (show p < 36 by omega)
        have hrl := rN_lt (n := 6) hok (show p < 36 by omega)
        have hrq := rN_cast hok (show q < 36 by omega)
        have hrlq := rN_lt (n := 6) hok (show q < 36 by omega)
        have o1 := ov_x (kI := ((p : Nat) : Int) / 6) (k := p / 6) (x := x) (by omega) (by omega) (by omega)
        have o2 := ov_x (kI := ((p : Nat) : Int) % 6) (k := p % 6) (x := x) (by omega) (by omega) (by omega)
        have o3 := ov_x (kI := rule.getD p 0) (k := rN rule p) (x := x) hrp (by omega) (by omega)
        have q1 := ov_x (kI := ((q : Nat) : Int) / 6) (k := q / 6) (x := x) (by omega) (by omega) (by omega)
        have q2 := ov_x (kI := ((q : Nat) : Int) % 6) (k := q % 6) (x := x) (by omega) (by omega) (by omega)
        have q3 := ov_x (kI := rule.getD q 0) (k := rN rule q) (x := x) hrq (by omega) (by omega)
        refine awp_skip ?_
        refine awp_seq ?_
        refine awp_block ?_
        refine awp_seq ?_
        refine awp_region_draw mixed rfl (.n (fun _ => op_move (.plain rfl)) (.n (fun _ => op_move (.plain rfl)) (.n (fun _ => op_quo (.plain rfl) (.plain rfl) ?_) (.n (fun _ => op_mul (.plain rfl) (.plain rfl) ?_) (.n (fun _ => op_move (.plain rfl)) (.n (fun _ => op_add (.plain rfl) (.plain rfl) ?_) (.n (fun _ => op_indexAddr Try.underlying52 Try.sizeOf4 (.plain rfl) (.plain rfl) (fun _ => rfl) ?_) (.n (fun _ => op_load Try.isAgg4 (.plain rfl)) (.n (fun _ => op_move (.plain rfl)) (.n (fun _ => op_move (.plain rfl)) (.n (fun _ => op_quo (.plain rfl) (.plain rfl) ?_) (.n (fun _ => op_mul (.plain rfl) (.plain rfl) ?_) (.n (fun _ => op_move (.plain rfl)) (.n (fun _ => op_add (.plain rfl) (.plain rfl) ?_) (.n (fun _ => op_indexAddr Try.underlying52 Try.sizeOf4 (.plain rfl) (.plain rfl) (fun _ => rfl) ?_) (.n (fun _ => op_load Try.isAgg4 (.plain rfl)) (.n (fun _ => op_eqb Try.underlying4 (.plain rfl) (.plain rfl)) (.n (fun _ => op_move (.plain rfl)) (.gn rfl rfl (fun hg _ => op_move (.plain rfl)) (.gn rfl rfl (fun hg _ => op_move (.plain rfl)) (.gn rfl rfl (fun hg _ => op_rem (.opt rfl fun h => h) (.plain rfl) ?_) (.gn rfl rfl (fun hg _ => op_mul (.plain rfl) (.opt rfl fun h => h) ?_) (.gn rfl rfl (fun hg _ => op_move (.plain rfl)) (.gn rfl rfl (fun hg _ => op_add (.opt rfl fun h => h) (.opt rfl fun h => h) ?_) (.gn rfl rfl (fun hg _ => op_indexAddr Try.underlying52 Try.sizeOf4 (.opt rfl fun h => h) (.opt rfl fun h => h) (fun _ => rfl) ?_) (.gn rfl rfl (fun hg _ => op_load Try.isAgg4 (.opt rfl fun h => h)) (.gn rfl rfl (fun hg _ => op_move (.plain rfl)) (.gn rfl rfl (fun hg _ => op_move (.plain rfl)) (.gn rfl rfl (fun hg _ => op_rem (.opt rfl fun h => h) (.plain rfl) ?_) (.gn rfl rfl (fun hg _ => op_mul (.plain rfl) (.opt rfl fun h => h) ?_) (.gn rfl rfl (fun hg _ => op_move (.plain rfl)) (.gn rfl rfl (fun hg _ => op_add (.opt rfl fun h => h) (.opt rfl fun h => h) ?_) (.gn rfl rfl (fun hg _ => op_indexAddr Try.underlying52 Try.sizeOf4 (.opt rfl fun h => h) (.opt rfl fun h => h) (fun _ => rfl) ?_) (.gn rfl rfl (fun hg _ => op_load Try.isAgg4 (.opt rfl fun h => h)) (.gn rfl rfl (fun hg _ => op_eqb Try.underlying4 (.opt rfl fun h => h) (.opt rfl fun h => h)) (.n (fun _ => op_and (.plain rfl) (.plain rfl) (.plain rfl) (fun h => eqT h)) (.n (fun _ => op_assign (.plain rfl)) (.nil _)))))))))))))))))))))))))))))))))))))) ?d4 ?_
        · omega
        · unfold InR; omega
        · unfold InR; omega
        · omega
        · omega
        · unfold InR; omega
        · unfold InR; omega
        · omega
        · try simp only [beq_iff_eq, beq_true, beq_false, Bool.and_eq_true, decide_eq_true_eq, decide_eq_false_iff_not, Bool.not_eq_true', Bool.or_eq_true, Bool.or_eq_false_iff] at hg
          omega
        · try simp only [beq_iff_eq, beq_true, beq_false, Bool.and_eq_true, decide_eq_true_eq, decide_eq_false_iff_not, Bool.not_eq_true', Bool.or_eq_true, Bool.or_eq_false_iff] at hg
          unfold InR; omega
        · try simp only [beq_iff_eq, beq_true, beq_false, Bool.and_eq_true, decide_eq_true_eq, decide_eq_false_iff_not, Bool.not_eq_true', Bool.or_eq_true, Bool.or_eq_false_iff] at hg
          unfold InR; omega
        · try simp only [beq_iff_eq, beq_true, beq_false, Bool.and_eq_true, decide_eq_true_eq, decide_eq_false_iff_not, Bool.not_eq_true', Bool.or_eq_true, Bool.or_eq_false_iff] at hg
          omega
        · try simp only [beq_iff_eq, beq_true, beq_false, Bool.and_eq_true, decide_eq_true_eq, decide_eq_false_iff_not, Bool.not_eq_true', Bool.or_eq_true, Bool.or_eq_false_iff] at hg
          omega
        · try simp only [beq_iff_eq, beq_true, beq_false, Bool.and_eq_true, decide_eq_true_eq, decide_eq_false_iff_not, Bool.not_eq_true', Bool.or_eq_true, Bool.or_eq_false_iff] at hg
          unfold InR; omega
        · try simp only [beq_iff_eq, beq_true, beq_false, Bool.and_eq_true, decide_eq_true_eq, decide_eq_false_iff_not, Bool.not_eq_true', Bool.or_eq_true, Bool.or_eq_false_iff] at hg
          unfold InR; omega
        · try simp only [beq_iff_eq, beq_true, beq_false, Bool.and_eq_true, decide_eq_true_eq, decide_eq_false_iff_not, Bool.not_eq_true', Bool.or_eq_true, Bool.or_eq_false_iff] at hg
          omega
        · kernel_rfl
        refine awp_seq ?_
        refine awp_region_draw mixed rfl (.n (fun _ => op_move (.plain rfl)) (.n (fun _ => op_quo (.plain rfl) (.plain rfl) ?_) (.n (fun _ => op_move (.plain rfl)) (.n (fun _ => op_rem (.plain rfl) (.plain rfl) ?_) (.n (fun _ => op_neq (.plain rfl) (.plain rfl)) (.n (fun _ => op_move (.plain rfl)) (.gn rfl rfl (fun hg _ => op_move (.plain rfl)) (.n (fun _ => op_and (.plain rfl) (.plain rfl) (.plain rfl) (fun h => eqT h)) (.n (fun _ => op_move (.plain rfl)) (.gn rfl rfl (fun hg _ => op_move (.plain rfl)) (.gn rfl rfl (fun hg _ => op_move (.plain rfl)) (.gn rfl rfl (fun hg _ => op_move (.plain rfl)) (.gn rfl rfl (fun hg _ => op_indexAddrN Try.underlying22 Try.sizeOf3 (.opt rfl fun h => h) (.opt rfl fun h => h) (fun _ => rfl) ?_) (.gn rfl rfl (fun hg _ => op_load Try.isAgg3 (.opt rfl fun h => h)) (.gn rfl rfl (fun hg _ => op_mul (.plain rfl) (.opt rfl fun h => h) ?_) (.gn rfl rfl (fun hg _ => op_move (.plain rfl)) (.gn rfl rfl (fun hg _ => op_add (.opt rfl fun h => h) (.opt rfl fun h => h) ?_) (.gn rfl rfl (fun hg _ => op_indexAddr Try.underlying52 Try.sizeOf4 (.opt rfl fun h => h) (.opt rfl fun h => h) (fun _ => rfl) ?_) (.gn rfl rfl (fun hg _ => op_load Try.isAgg4 (.opt rfl fun h => h)) (.gn rfl rfl (fun hg _ => op_move (.plain rfl)) (.gn rfl rfl (fun hg _ => op_move (.plain rfl)) (.gn rfl rfl (fun hg _ => op_move (.plain rfl)) (.gn rfl rfl (fun hg _ => op_indexAddrN Try.underlying22 Try.sizeOf3 (.opt rfl fun h => h) (.opt rfl fun h => h) (fun _ => rfl) ?_) (.gn rfl rfl (fun hg _ => op_load Try.isAgg3 (.opt rfl fun h => h)) (.gn rfl rfl (fun hg _ => op_mul (.plain rfl) (.opt rfl fun h => h) ?_) (.gn rfl rfl (fun hg _ => op_move (.plain rfl)) (.gn rfl rfl (fun hg _ => op_add (.opt rfl fun h => h) (.opt rfl fun h => h) ?_) (.gn rfl rfl (fun hg _ => op_indexAddr Try.underlying52 Try.sizeOf4 (.opt rfl fun h => h) (.opt rfl fun h => h) (fun _ => rfl) ?_) (.gn rfl rfl (fun hg _ => op_load Try.isAgg4 (.opt rfl fun h => h)) (.gn rfl rfl (fun hg _ => op_neb Try.underlying4 (.opt rfl fun h => h) (.opt rfl fun h => h)) (.n (fun _ => op_and (.plain rfl) (.plain rfl) (.plain rfl) (fun h => eqT h)) (.nil _)))))))))))))))))))))))))))))))) ?d5 ?_
        · omega
        · omega
        · try simp only [beq_iff_eq, beq_true, beq_false, Bool.and_eq_true, decide_eq_true_eq, decide_eq_false_iff_not, Bool.not_eq_true', Bool.or_eq_true, Bool.or_eq_false_iff] at hg
          omega
        · try simp only [beq_iff_eq, beq_true, beq_false, Bool.and_eq_true, decide_eq_true_eq, decide_eq_false_iff_not, Bool.not_eq_true', Bool.or_eq_true, Bool.or_eq_false_iff] at hg
          unfold InR; omega
        · try simp only [beq_iff_eq, beq_true, beq_false, Bool.and_eq_true, decide_eq_true_eq, decide_eq_false_iff_not, Bool.not_eq_true', Bool.or_eq_true, Bool.or_eq_false_iff] at hg
          unfold InR; omega
        · try simp only [beq_iff_eq, beq_true, beq_false, Bool.and_eq_true, decide_eq_true_eq, decide_eq_false_iff_not, Bool.not_eq_true', Bool.or_eq_true, Bool.or_eq_false_iff] at hg
          omega
        · try simp only [beq_iff_eq, beq_true, beq_false, Bool.and_eq_true, decide_eq_true_eq, decide_eq_false_iff_not, Bool.not_eq_true', Bool.or_eq_true, Bool.or_eq_false_iff] at hg
          omega
        · try simp only [beq_iff_eq, beq_true, beq_false, Bool.and_eq_true, decide_eq_true_eq, decide_eq_false_iff_not, Bool.not_eq_true', Bool.or_eq_true, Bool.or_eq_false_iff] at hg
          unfold InR; omega
        · try simp only [beq_iff_eq, beq_true, beq_false, Bool.and_eq_true, decide_eq_true_eq, decide_eq_false_iff_not, Bool.not_eq_true', Bool.or_eq_true, Bool.or_eq_false_iff] at hg
          unfold InR; omega
        · try simp only [beq_iff_eq, beq_true, beq_false, Bool.and_eq_true, decide_eq_true_eq, decide_eq_false_iff_not, Bool.not_eq_true', Bool.or_eq_true, Bool.or_eq_false_iff] at hg
          omega
        · kernel_rfl
        refine awp_cond rfl (fun h => ?_) (fun h => ?_)
        · try simp only [decide_eq_true_eq, decide_eq_false_iff_not, Bool.and_eq_true, Bool.or_eq_true, Bool.and_eq_false_iff, Bool.or_eq_false_iff, Bool.not_eq_true', Bool.not_eq_false', Bool.not_eq_true, Bool.not_eq_false, Bool.true_eq_false, Bool.false_eq_true] at h
          rw [o1, o2, o3, q1, q2, q3] at h
          have hx : apX rule p q x = false := by
            unfold apX
            rw [h.1.2.1, h.1.2.2, h.2, decide_eq_false (by omega)]
            rfl
          refine awp_seq ?_
          refine awp_region rfl (.n (fun _ => op_assign (.plain rfl)) (.nil _)) ?_
          refine awp_ret ?_
          refine retQ.ret ?_
          refine ret1 rfl rfl rfl ?_
          rw [← apt_same, show allTo (apR rule) 36 = false from allTo_stop (allTo_stop (allTo_stop hx (by omega)) (show q < 36 by omega)) (show p < 36 by omega)]
        · try simp only [decide_eq_true_eq, decide_eq_false_iff_not, Bool.and_eq_true, Bool.or_eq_true, Bool.and_eq_false_iff, Bool.or_eq_false_iff, Bool.not_eq_true', Bool.not_eq_false', Bool.not_eq_true, Bool.not_eq_false, Bool.true_eq_false, Bool.false_eq_true] at h
          rw [o1, o2, o3, q1, q2, q3] at h
          have hx : apX rule p q x = true := by
            unfold apX
            rcases h with (h | h | h) | h
            · rw [decide_eq_true (show x / 3 = x % 3 by omega)]; rfl
            · rw [h, Bool.false_and, Bool.and_false]; rfl
            · rw [h, Bool.and_false, Bool.and_false]; rfl
            · rw [h, Bool.not_true, Bool.and_false]; rfl
          refine awp_skip ?_
          refine awp_region rfl (.n (fun _ => op_move (.plain rfl)) (.n (fun _ => op_add (.plain rfl) (.plain rfl) ?_) (.n (fun _ => op_assign (.plain rfl)) (.nil _)))) ?_
          · unfold InR; omega
          exact ⟨x + 1, ⟨by omega, allTo_succ hax hx⟩, by dsimp only; omega, (Ent.kept ⟨rfl, rfl, rfl, rfl, rfl, trivial⟩ trivial)⟩
      · try simp only [decide_eq_true_eq, decide_eq_false_iff_not, Bool.and_eq_true, Bool.or_eq_true, Bool.and_eq_false_iff, Bool.or_eq_false_iff, Bool.not_eq_true', Bool.not_eq_false', Bool.not_eq_true, Bool.not_eq_false, Bool.true_eq_false, Bool.false_eq_true] at h
        obtain rfl : x = 9 := by omega
        refine awp_exit ?_
        refine awp_region rfl (.n (fun _ => op_move (.plain rfl)) (.n (fun _ => op_add (.plain rfl) (.plain rfl) ?_) (.n (fun _ => op_assign (.plain rfl)) (.nil _)))) ?_
        · unfold InR; omega
        exact ⟨q + 1, ⟨by omega, allTo_succ haq hax⟩, by dsimp only; omega, (Ent.kept ⟨rfl, rfl, rfl, rfl, trivial⟩ trivial)⟩
    · try simp only [decide_eq_true_eq, decide_eq_false_iff_not, Bool.and_eq_true, Bool.or_eq_true, Bool.and_eq_false_iff, Bool.or_eq_false_iff, Bool.not_eq_true', Bool.not_eq_false', Bool.not_eq_true, Bool.not_eq_false, Bool.true_eq_false, Bool.false_eq_true] at h
      obtain rfl : q = 36 := by omega
      refine awp_exit ?_
      refine awp_region rfl (.n (fun _ => op_move (.plain rfl)) (.n (fun _ => op_add (.plain rfl) (.plain rfl) ?_) (.n (fun _ => op_assign (.plain rfl)) (.nil _)))) ?_
      · unfold InR; omega
      exact ⟨p + 1, ⟨by omega, allTo_succ hap haq⟩, by dsimp only; omega, (Ent.kept ⟨rfl, rfl, rfl, trivial⟩ trivial)⟩
  · try simp only [decide_eq_true_eq, decide_eq_false_iff_not, Bool.and_eq_true, Bool.or_eq_true, Bool.and_eq_false_iff, Bool.or_eq_false_iff, Bool.not_eq_true', Bool.not_eq_false', Bool.not_eq_true, Bool.not_eq_false, Bool.true_eq_false, Bool.false_eq_true] at h
    obtain rfl : p = 36 := by omega
    refine awp_exit ?_
    refine awp_seq ?_
    refine awp_region rfl (.n (fun _ => op_assign (.plain rfl)) (.nil _)) ?_
    refine awp_ret ?_
    refine retQ.ret ?_
    refine ret1 rfl rfl rfl ?_
    rw [← apt_same, hap]

theorem HonestR_fc (rule : List Int) (hok : TabOk rule 3) : FC Try.prog 22 [.ints rule] (.tup [.bool (honO rule).isNone, .ints (honL rule)]) := by
  refine FC.intro Try.func22 rfl (Nat.le_of_ble_eq_true rfl) fun hfit => ?_
  obtain ⟨fitl0, fitr0⟩ := (hfit _ (.head _)).ints
  have hlen := hok.len
  refine awp_seq ?_
  refine awp_region rfl (.n (fun _ => op_assign (.plain rfl)) (.n (fun _ => op_assign (.plain rfl)) (.nil _))) ?_
  refine awp_seq ?_
  refine awp_seq ?_
  refine awp_region rfl (.n (fun _ => op_assign (.plain rfl)) (.nil _)) ?_
  refine awp_block ?_
  refine awp_loop (σ := Nat) (fun (p : Nat) => p ≤ 36 ∧ firstI (honP rule) (12 * p) = none) (fun (p : Nat) => ⟨[(0, .pv (.ints rule)), (4, .int (p : Nat))], []⟩) (fun (p : Nat) => 36 - p) 0 ?_ (Ent.kept ⟨rfl, rfl, trivial⟩ trivial) ?_
  · exact ⟨Nat.zero_le _, rfl⟩
  rintro p hp
  try dsimp only at hp
  obtain ⟨hp36, hap⟩ := hp
  refine awp_seq ?_
  refine awp_seq ?_
  refine awp_region rfl (.n (fun _ => op_move (.plain rfl)) (.n (fun _ => op_lss (.plain rfl) (.plain rfl)) (.nil _))) ?_
  refine awp_cond rfl (fun h => ?_) (fun h => ?_)
  · try simp only [decide_eq_true_eq, decide_eq_false_iff_not, Bool.and_eq_true, Bool.or_eq_true, Bool.and_eq_false_iff, Bool.or_eq_false_iff, Bool.not_eq_true', Bool.not_eq_false', Bool.not_eq_true, Bool.not_eq_false, Bool.true_eq_false, Bool.false_eq_true] at h
    refine awp_skip ?_
    refine awp_seq ?_
    refine awp_block ?_
    refine awp_seq ?_
    refine awp_region rfl (.n (fun _ => op_assign (.plain rfl)) (.nil _)) ?_
    refine awp_block ?_
    refine awp_loop (σ := Nat) (fun (k : Nat) => k ≤ 12 ∧ firstI (honP rule) (12 * p + k) = none) (fun (k : Nat) => ⟨[(0, .pv (.ints rule)), (4, .int (p : Nat)), (5, .int (k : Nat))], []⟩) (fun (k : Nat) => 12 - k) 0 ?_ (Ent.kept ⟨rfl, rfl, rfl, trivial⟩ trivial) ?_
    · exact ⟨Nat.zero_le _, hap⟩
    rintro k hp
    try dsimp only at hp
    obtain ⟨hk12, hak⟩ := hp
    refine awp_seq ?_
    refine awp_seq ?_
    refine awp_region rfl (.n (fun _ => op_move (.plain rfl)) (.n (fun _ => op_lss (.plain rfl) (.plain rfl)) (.nil _))) ?_
    refine awp_cond rfl (fun h => ?_) (fun h => ?_)
    · try simp only [decide_eq_true_eq, decide_eq_false_iff_not, Bool.and_eq_true, Bool.or_eq_true, Bool.and_eq_false_iff, Bool.or_eq_false_iff, Bool.not_eq_true', Bool.not_eq_false', Bool.not_eq_true, Bool.not_eq_false, Bool.true_eq_false, Bool.false_eq_true] at h
      have hvp := hok.val p (by omega)
      have hy := rN_cast hok (show p < 36 by omega)
      have hyl := rN_lt (n := 3) hok (show p < 36 by omega)
      refine awp_skip ?_
      refine awp_seq ?_
      refine awp_block ?_
      refine awp_seq ?_
      refine awp_region rfl (.n (fun _ => op_move (.plain rfl)) (.n (fun _ => op_quo (.plain rfl) (.plain rfl) ?_) (.n (fun _ => op_assign (.plain rfl)) (.nil _)))) ?_
      · omega
      refine awp_seq ?_
      refine awp_region rfl (.n (fun _ => op_move (.plain rfl)) (.n (fun _ => op_quo (.plain rfl) (.plain rfl) ?_) (.n (fun _ => op_assign (.plain rfl)) (.nil _)))) ?_
      · omega
      refine awp_seq ?_
      refine awp_region rfl (.n (fun _ => op_move (.plain rfl)) (.n (fun _ => op_rem (.plain rfl) (.plain rfl) ?_) (.n (fun _ => op_mul (.plain rfl) (.plain rfl) ?_) (.n (fun _ => op_move (.plain rfl)) (.n (fun _ => op_rem (.plain rfl) (.plain rfl) ?_) (.n (fun _ => op_add (.plain rfl) (.plain rfl) ?_) (.n (fun _ => op_assign (.plain rfl)) (.nil _)))))))) ?_
      · omega
      · unfold InR; omega
      · omega
      · unfold InR; omega
      refine awp_seq ?_
      refine awp_seq ?_
      refine awp_region rfl (.n (fun _ => op_move (.plain rfl)) (.n (fun _ => op_eql (.plain rfl) (.plain rfl)) (.nil _))) ?_
      refine awp_cond rfl (fun h => ?_) (fun h => ?_)
      · try simp only [decide_eq_true_eq, decide_eq_false_iff_not, Bool.and_eq_true, Bool.or_eq_true, Bool.and_eq_false_iff, Bool.or_eq_false_iff, Bool.not_eq_true', Bool.not_eq_false', Bool.not_eq_true, Bool.not_eq_false, Bool.true_eq_false, Bool.false_eq_true] at h
        obtain ⟨o, ho⟩ : ∃ o : Nat, o = p % 6 := ⟨_, rfl⟩
        obtain ⟨L, hL⟩ : ∃ L : Nat, L = 6 * (p / 6) + k % 6 := ⟨_, rfl⟩
        have hLI : (6 * (((p : Nat) : Int) / 6) + ((k : Nat) : Int) % 6).toNat = L := by omega
        have hvl := hok.val L (by omega)
        have hx : rule.getD (6 * (((p : Nat) : Int) / 6) + ((k : Nat) : Int) % 6).toNat 0 = ((rN rule L : Nat) : Int) := by rw [hLI]; exact rN_cast hok (show L < 36 by omega)
        have hxl := rN_lt (n := 3) hok (show L < 36 by omega)
        have hpp : payP rule (p / 6) (p % 6) (k / 6) (k % 6) = (!decide (rN rule L = rN rule p) && abvN o (rN rule L) (rN rule p)) := by unfold payP; rw [if_pos (by omega), if_pos (by omega), ← ho, ← hL, show 6 * (p / 6) + o = p by omega]
        refine awp_seq ?_
        refine awp_region rfl (.n (fun _ => op_move (.plain rfl)) (.n (fun _ => op_rem (.plain rfl) (.plain rfl) ?_) (.n (fun _ => op_assign (.plain rfl)) (.nil _)))) ?_
        · omega
        refine awp_region rfl (.n (fun _ => op_move (.plain rfl)) (.n (fun _ => op_quo (.plain rfl) (.plain rfl) ?_) (.n (fun _ => op_mul (.plain rfl) (.plain rfl) ?_) (.n (fun _ => op_move (.plain rfl)) (.n (fun _ => op_rem (.plain rfl) (.plain rfl) ?_) (.n (fun _ => op_add (.plain rfl) (.plain rfl) ?_) (.n (fun _ => op_assign (.plain rfl)) (.nil _)))))))) ?_
        · omega
        · unfold InR; omega
        · omega
        · unfold InR; omega
        refine awp_seq ?_
        refine awp_region_draw mixed rfl (.n (fun _ => op_move (.plain rfl)) (.n (fun _ => op_move (.plain rfl)) (.n (fun _ => op_move (.plain rfl)) (.n (fun _ => op_indexAddr Try.underlying22 Try.sizeOf3 (.plain rfl) (.plain rfl) (fun _ => rfl) ?_) (.n (fun _ => op_load Try.isAgg3 (.plain rfl)) (.n (fun _ => op_move (.plain rfl)) (.n (fun _ => op_move (.plain rfl)) (.n (fun _ => op_indexAddrN Try.underlying22 Try.sizeOf3 (.plain rfl) (.plain rfl) (fun _ => rfl) ?_) (.n (fun _ => op_load Try.isAgg3 (.plain rfl)) (.n (fun _ => op_call3 Try.call31 (.plain rfl) (.plain rfl) (.plain rfl) (Over_fc _ _ _ o (rN rule L) (rN rule p) ?_ ?_ ?_ ?_ ?_ ?_)) (.n (fun _ => op_assign (.plain rfl)) (.nil _)))))))))))) ?d6 ?_
        · omega
        · omega
        · omega
        · exact hx
        · exact hy
        · omega
        · omega
        · omega
        · kernel_rfl
        refine awp_seq ?_
        refine awp_region_draw mixed rfl (.n (fun _ => op_move (.plain rfl)) (.n (fun _ => op_move (.plain rfl)) (.n (fun _ => op_indexAddr Try.underlying22 Try.sizeOf3 (.plain rfl) (.plain rfl) (fun _ => rfl) ?_) (.n (fun _ => op_load Try.isAgg3 (.plain rfl)) (.n (fun _ => op_move (.plain rfl)) (.n (fun _ => op_move (.plain rfl)) (.n (fun _ => op_indexAddrN Try.underlying22 Try.sizeOf3 (.plain rfl) (.plain rfl) (fun _ => rfl) ?_) (.n (fun _ => op_load Try.isAgg3 (.plain rfl)) (.n (fun _ => op_neq (.plain rfl) (.plain rfl)) (.n (fun _ => op_move (.plain rfl)) (.gn rfl rfl (fun hg _ => op_move (.plain rfl)) (.n (fun _ => op_and (.plain rfl) (.plain rfl) (.plain rfl) (fun h => eqT h)) (.nil _))))))))))))) ?d7 ?_
        · omega
        · omega
        · kernel_rfl
        refine awp_cond rfl (fun h => ?_) (fun h => ?_)
        · try simp only [decide_eq_true_eq, decide_eq_false_iff_not, Bool.and_eq_true, Bool.or_eq_true, Bool.and_eq_false_iff, Bool.or_eq_false_iff, Bool.not_eq_true', Bool.not_eq_false', Bool.not_eq_true, Bool.not_eq_false, Bool.true_eq_false, Bool.false_eq_true] at h
          have hq : honP rule (12 * p + k) = true := by
            rw [honP_12 (by omega), hpp, decide_eq_false (show ¬ rN rule L = rN rule p by omega), ← abv_ov (by omega), h.2]
            rfl
          refine awp_seq ?_
          refine awp_region rfl (.n (fun _ => op_move (.plain rfl)) (.n (fun _ => op_quo (.plain rfl) (.plain rfl) ?_) (.n (fun _ => op_move (.plain rfl)) (.n (fun _ => op_rem (.plain rfl) (.plain rfl) ?_) (.n (fun _ => op_move (.plain rfl)) (.n (fun _ => op_move (.plain rfl)) (.n (fun _ => op_rem (.plain rfl) (.plain rfl) ?_) (.n (fun _ => op_slit (pp := [(0, _), (1, _), (2, _), (3, _)]) (α := Int) (d := 0) (f := (fun n => [.int .i64 n])) [_, _, _, _] ety22 rfl ⟨rfl, (.plain rfl), (by simp), rfl, (.plain rfl), (by simp), rfl, (.plain rfl), (by simp), rfl, (.plain rfl), (by simp), trivial⟩ rfl (by decide) rfl) (.n (fun _ => op_assign (.plain rfl)) (.n (fun _ => op_assign (.plain rfl)) (.nil _))))))))))) ?_
          · omega
          · omega
          · omega
          refine awp_ret ?_
          refine retQ.ret ?_
          refine ret2 rfl rfl rfl rfl rfl ?_
          have hst : honO rule = some (12 * p + k) := firstI_stop hak hq (by omega)
          unfold honL
          rw [hst]
          simp only [Option.isNone_some]
          obtain ⟨v1, v2, v3, v4⟩ := hon_vals (p := p) (show k < 12 by omega)
          rw [v1, v2, v3, v4]
          rfl
        · try simp only [decide_eq_true_eq, decide_eq_false_iff_not, Bool.and_eq_true, Bool.or_eq_true, Bool.and_eq_false_iff, Bool.or_eq_false_iff, Bool.not_eq_true', Bool.not_eq_false', Bool.not_eq_true, Bool.not_eq_false, Bool.true_eq_false, Bool.false_eq_true] at h
          have hq : honP rule (12 * p + k) = false := by
            rw [honP_12 (by omega), hpp]
            rcases h with h | h
            · rw [decide_eq_true (show rN rule L = rN rule p by omega)]; rfl
            · by_cases c : rN rule L = rN rule p
              · rw [decide_eq_true c]; rfl
              · rw [← abv_ov c, h, Bool.and_false]
          refine awp_skip ?_
          refine awp_region rfl (.n (fun _ => op_move (.plain rfl)) (.n (fun _ => op_add (.plain rfl) (.plain rfl) ?_) (.n (fun _ => op_assign (.plain rfl)) (.nil _)))) ?_
          · unfold InR; omega
          exact ⟨k + 1, ⟨by omega, firstI_succ hak hq⟩, by dsimp only; omega, (Ent.kept ⟨rfl, rfl, rfl, trivial⟩ trivial)⟩
      · try simp only [decide_eq_true_eq, decide_eq_false_iff_not, Bool.and_eq_true, Bool.or_eq_true, Bool.and_eq_false_iff, Bool.or_eq_false_iff, Bool.not_eq_true', Bool.not_eq_false', Bool.not_eq_true, Bool.not_eq_false, Bool.true_eq_false, Bool.false_eq_true] at h
        obtain ⟨o, ho⟩ : ∃ o : Nat, o = p / 6 := ⟨_, rfl⟩
        obtain ⟨L, hL⟩ : ∃ L : Nat, L = 6 * (k % 6) + p % 6 := ⟨_, rfl⟩
        have hLI : (6 * (((k : Nat) : Int) % 6) + ((p : Nat) : Int) % 6).toNat = L := by omega
        have hvl := hok.val L (by omega)
        have hx : rule.getD (6 * (((k : Nat) : Int) % 6) + ((p : Nat) : Int) % 6).toNat 0 = ((rN rule L : Nat) : Int) := by rw [hLI]; exact rN_cast hok (show L < 36 by omega)
        have hxl := rN_lt (n := 3) hok (show L < 36 by omega)
        have hpp : payP rule (p / 6) (p % 6) (k / 6) (k % 6) = (!decide (rN rule L = rN rule p) && abvN o (rN rule L) (rN rule p)) := by unfold payP; rw [if_neg (by omega), if_neg (by omega), ← ho, ← hL, show 6 * o + p % 6 = p by omega]
        refine awp_skip ?_
        refine awp_seq ?_
        refine awp_region_draw mixed rfl (.n (fun _ => op_move (.plain rfl)) (.n (fun _ => op_move (.plain rfl)) (.n (fun _ => op_move (.plain rfl)) (.n (fun _ => op_indexAddr Try.underlying22 Try.sizeOf3 (.plain rfl) (.plain rfl) (fun _ => rfl) ?_) (.n (fun _ => op_load Try.isAgg3 (.plain rfl)) (.n (fun _ => op_move (.plain rfl)) (.n (fun _ => op_move (.plain rfl)) (.n (fun _ => op_indexAddrN Try.underlying22 Try.sizeOf3 (.plain rfl) (.plain rfl) (fun _ => rfl) ?_) (.n (fun _ => op_load Try.isAgg3 (.plain rfl)) (.n (fun _ => op_call3 Try.call31 (.plain rfl) (.plain rfl) (.plain rfl) (Over_fc _ _ _ o (rN rule L) (rN rule p) ?_ ?_ ?_ ?_ ?_ ?_)) (.n (fun _ => op_assign (.plain rfl)) (.nil _)))))))))))) ?d8 ?_
        · omega
        · omega
        · omega
        · exact hx
        · exact hy
        · omega
        · omega
        · omega
        · kernel_rfl
        refine awp_seq ?_
        refine awp_region_draw mixed rfl (.n (fun _ => op_move (.plain rfl)) (.n (fun _ => op_move (.plain rfl)) (.n (fun _ => op_indexAddr Try.underlying22 Try.sizeOf3 (.plain rfl) (.plain rfl) (fun _ => rfl) ?_) (.n (fun _ => op_load Try.isAgg3 (.plain rfl)) (.n (fun _ => op_move (.plain rfl)) (.n (fun _ => op_move (.plain rfl)) (.n (fun _ => op_indexAddrN Try.underlying22 Try.sizeOf3 (.plain rfl) (.plain rfl) (fun _ => rfl) ?_) (.n (fun _ => op_load Try.isAgg3 (.plain rfl)) (.n (fun _ => op_neq (.plain rfl) (.plain rfl)) (.n (fun _ => op_move (.plain rfl)) (.gn rfl rfl (fun hg _ => op_move (.plain rfl)) (.n (fun _ => op_and (.plain rfl) (.plain rfl) (.plain rfl) (fun h => eqT h)) (.nil _))))))))))))) ?d9 ?_
        · omega
        · omega
        · kernel_rfl
        refine awp_cond rfl (fun h => ?_) (fun h => ?_)
        · try simp only [decide_eq_true_eq, decide_eq_false_iff_not, Bool.and_eq_true, Bool.or_eq_true, Bool.and_eq_false_iff, Bool.or_eq_false_iff, Bool.not_eq_true', Bool.not_eq_false', Bool.not_eq_true, Bool.not_eq_false, Bool.true_eq_false, Bool.false_eq_true] at h
          have hq : honP rule (12 * p + k) = true := by
            rw [honP_12 (by omega), hpp, decide_eq_false (show ¬ rN rule L = rN rule p by omega), ← abv_ov (by omega), h.2]
            rfl
          refine awp_seq ?_
          refine awp_region rfl (.n (fun _ => op_move (.plain rfl)) (.n (fun _ => op_quo (.plain rfl) (.plain rfl) ?_) (.n (fun _ => op_move (.plain rfl)) (.n (fun _ => op_rem (.plain rfl) (.plain rfl) ?_) (.n (fun _ => op_move (.plain rfl)) (.n (fun _ => op_move (.plain rfl)) (.n (fun _ => op_rem (.plain rfl) (.plain rfl) ?_) (.n (fun _ => op_slit (pp := [(0, _), (1, _), (2, _), (3, _)]) (α := Int) (d := 0) (f := (fun n => [.int .i64 n])) [_, _, _, _] ety22 rfl ⟨rfl, (.plain rfl), (by simp), rfl, (.plain rfl), (by simp), rfl, (.plain rfl), (by simp), rfl, (.plain rfl), (by simp), trivial⟩ rfl (by decide) rfl) (.n (fun _ => op_assign (.plain rfl)) (.n (fun _ => op_assign (.plain rfl)) (.nil _))))))))))) ?_
          · omega
          · omega
          · omega
          refine awp_ret ?_
          refine retQ.ret ?_
          refine ret2 rfl rfl rfl rfl rfl ?_
          have hst : honO rule = some (12 * p + k) := firstI_stop hak hq (by omega)
          unfold honL
          rw [hst]
          simp only [Option.isNone_some]
          obtain ⟨v1, v2, v3, v4⟩ := hon_vals (p := p) (show k < 12 by omega)
          rw [v1, v2, v3, v4]
          rfl
        · try simp only [decide_eq_true_eq, decide_eq_false_iff_not, Bool.and_eq_true, Bool.or_eq_true, Bool.and_eq_false_iff, Bool.or_eq_false_iff, Bool.not_eq_true', Bool.not_eq_false', Bool.not_eq_true, Bool.not_eq_false, Bool.true_eq_false, Bool.false_eq_true] at h
          have hq : honP rule (12 * p + k) = false := by
            rw [honP_12 (by omega), hpp]
            rcases h with h | h
            · rw [decide_eq_true (show rN rule L = rN rule p by omega)]; rfl
            · by_cases c : rN rule L = rN rule p
              · rw [decide_eq_true c]; rfl
              · rw [← abv_ov c, h, Bool.and_false]
          refine awp_skip ?_
          refine awp_region rfl (.n (fun _ => op_move (.plain rfl)) (.n (fun _ => op_add (.plain rfl) (.plain rfl) ?_) (.n (fun _ => op_assign (.plain rfl)) (.nil _)))) ?_
          · unfold InR; omega
          exact ⟨k + 1, ⟨by omega, firstI_succ hak hq⟩, by dsimp only; omega, (Ent.kept ⟨rfl, rfl, rfl, trivial⟩ trivial)⟩
    · try simp only [decide_eq_true_eq, decide_eq_false_iff_not, Bool.and_eq_true, Bool.or_eq_true, Bool.and_eq_false_iff, Bool.or_eq_false_iff, Bool.not_eq_true', Bool.not_eq_false', Bool.not_eq_true, Bool.not_eq_false, Bool.true_eq_false, Bool.false_eq_true] at h
      obtain rfl : k = 12 := by omega
      refine awp_exit ?_
      refine awp_region rfl (.n (fun _ => op_move (.plain rfl)) (.n (fun _ => op_add (.plain rfl) (.plain rfl) ?_) (.n (fun _ => op_assign (.plain rfl)) (.nil _)))) ?_
      · unfold InR; omega
      exact ⟨p + 1, ⟨by omega, hak⟩, by dsimp only; omega, (Ent.kept ⟨rfl, rfl, trivial⟩ trivial)⟩
  · try simp only [decide_eq_true_eq, decide_eq_false_iff_not, Bool.and_eq_true, Bool.or_eq_true, Bool.and_eq_false_iff, Bool.or_eq_false_iff, Bool.not_eq_true', Bool.not_eq_false', Bool.not_eq_true, Bool.not_eq_false, Bool.true_eq_false, Bool.false_eq_true] at h
    obtain rfl : p = 36 := by omega
    refine awp_exit ?_
    refine awp_seq ?_
    refine awp_region rfl (.n (fun _ => op_slit (pp := [(0, _), (1, _), (2, _), (3, _)]) (α := Int) (d := 0) (f := (fun n => [.int .i64 n])) [_, _, _, _] ety22 rfl ⟨rfl, (.plain rfl), (by simp), rfl, (.plain rfl), (by simp), rfl, (.plain rfl), (by simp), rfl, (.plain rfl), (by simp), trivial⟩ rfl (by decide) rfl) (.n (fun _ => op_assign (.plain rfl)) (.n (fun _ => op_assign (.plain rfl)) (.nil _)))) ?_
    refine awp_ret ?_
    refine retQ.ret ?_
    refine ret2 rfl rfl rfl rfl rfl ?_
    have hst : honO rule = none := hap
    unfold honL
    rw [hst]
    rfl


theorem and_eq {a b c d : Bool} (h : a = b) (h' : c = d) : (a && c) = (b && d) := by rw [h, h']
theorem ru0 {rule : List Int} {p : Nat} : (allTo (rul0 rule) p && decide (rule.getD p 0 = ((p : Nat) : Int) / 6)) = allTo (rul0 rule) (p + 1) := by
  show _ = (allTo (rul0 rule) p && rul0 rule p)
  unfold rul0
  rw [show ((p : Nat) : Int) / 6 = ((p / 6 : Nat) : Int) by omega]
theorem ru1 {rule : List Int} {p : Nat} : (allTo (rul1 rule) p && decide (rule.getD p 0 = ((p : Nat) : Int) % 6)) = allTo (rul1 rule) (p + 1) := by
  show _ = (allTo (rul1 rule) p && rul1 rule p)
  unfold rul1
  rw [show ((p : Nat) : Int) % 6 = ((p % 6 : Nat) : Int) by omega]
theorem ch0 {rule : List Int} {p : Nat} (hp : p < 36) : (allTo (cho0 rule) p && decide (rule.getD p 0 = (ordL (p / 6)).getD 0 0)) = allTo (cho0 rule) (p + 1) := by
  show _ = (allTo (cho0 rule) p && cho0 rule p)
  unfold cho0
  rw [top_of _ (by omega)]
theorem ch1 {rule : List Int} {p : Nat} (hp : p < 36) : (allTo (cho1 rule) p && decide (rule.getD p 0 = (ordL (p % 6)).getD 0 0)) = allTo (cho1 rule) (p + 1) := by
  show _ = (allTo (cho1 rule) p && cho1 rule p)
  unfold cho1
  rw [top_of _ (by omega)]
theorem honL_hV {rule : List Int} (hz : tabE rule 3 = 0) : [((hV rule (fun n => n / 72) : Nat) : Int), ((hV rule (fun n => n / 12 % 6) : Nat) : Int), ((hV rule (fun n => n / 6 % 2) : Nat) : Int), ((hV rule (fun n => n % 6) : Nat) : Int)] = honL rule := by
  unfold hV honL
  simp only [if_pos hz]
  cases honO rule <;> rfl
theorem hOk_z {rule : List Int} (hz : tabE rule 3 = 0) : hOk rule = (honO rule).isNone := if_pos hz
theorem hV_lt (rule : List Int) (g : Nat → Nat) (hg : ∀ n, n < 432 → g n < 6) : hV rule g < 6 := by
  unfold hV
  split
  · cases e : honO rule with
    | some n => exact hg n (firstI_spec e).1
    | none => show 0 < 6; omega
  · omega
theorem hV_n {rule : List Int} (hz : ¬ tabE rule 3 = 0) (g : Nat → Nat) : hV rule g = 0 := if_neg hz
theorem hOk_n {rule : List Int} (hz : ¬ tabE rule 3 = 0) : hOk rule = false := if_neg hz

theorem orderRule_fc (rule : List Int) : FC Try.prog 9 [.ints rule, .i (tabE rule 6)] (.bool true) := by
  refine FC.intro Try.func9 rfl (Nat.le_of_ble_eq_true rfl) fun hfit => ?_
  obtain ⟨fitl0, fitr0⟩ := (hfit _ (.head _)).ints
  have fit1 : -9223372036854775808 ≤ ((tabE rule 6) : Int) ∧ ((tabE rule 6) : Int) ≤ 9223372036854775807 := (hfit _ (.tail _ (.head _))).int64
  refine awp_seq ?_
  refine awp_region rfl (.n (fun _ => op_assign (.plain rfl)) (.nil _)) ?_
  refine awp_seq ?_
  refine awp_region rfl (.n (fun _ => op_move (.plain rfl)) (.n (fun _ => op_call1 Try.call12 (.plain rfl) (Agrees_fc _)) (.n (fun _ => op_move (.plain rfl)) (.n (fun _ => op_extract (.plain rfl) rfl) (.n (fun _ => op_extract (.plain rfl) rfl) (.n (fun _ => op_assign (.plain rfl)) (.n (fun _ => op_assign (.plain rfl)) (.nil _)))))))) ?_
  refine awp_seq ?_
  refine awp_region rfl (.n (fun _ => op_move (.plain rfl)) (.n (fun _ => op_call1 Try.call13 (.plain rfl) (Apart_fc _)) (.n (fun _ => op_move (.plain rfl)) (.n (fun _ => op_extract (.plain rfl) rfl) (.n (fun _ => op_extract (.plain rfl) rfl) (.n (fun _ => op_assign (.plain rfl)) (.n (fun _ => op_assign (.plain rfl)) (.nil _)))))))) ?_
  refine awp_seq ?_
  refine awp_region rfl (.n (fun _ => op_move (.plain rfl)) (.n (fun _ => op_call1 Try.call14 (.plain rfl) (Rulers_fc _)) (.n (fun _ => op_move (.plain rfl)) (.n (fun _ => op_extract (.plain rfl) rfl) (.n (fun _ => op_extract (.plain rfl) rfl) (.e (op_alloc 9 Try.zeroValue34 rfl rfl rfl) rfl (.e (op_storeRA Try.sizeOf34 (.plain rfl) (.plain rfl) rfl rfl (Nat.le_of_ble_eq_true rfl) rfl) rfl (.n (fun _ => op_assign (.plain rfl)) (.nil _))))))))) ?_
  refine awp_seq ?_
  refine awp_seq ?_
  refine awp_region rfl (.n (fun _ => op_move (.plain rfl)) (.n (fun _ => op_neq (.plain rfl) (.plain rfl)) (.nil _))) ?_
  refine awp_cond rfl (fun h => ?_) (fun h => ?_)
  · try simp only [decide_eq_true_eq, decide_eq_false_iff_not, Bool.and_eq_true, Bool.or_eq_true, Bool.and_eq_false_iff, Bool.or_eq_false_iff, Bool.not_eq_true', Bool.not_eq_false', Bool.not_eq_true, Bool.not_eq_false, Bool.true_eq_false, Bool.false_eq_true] at h
    simp only [if_neg h]
    refine awp_seq ?_
    refine awp_region rfl (.n (fun _ => op_move (.plain rfl)) (.n (fun _ => op_move (.plain rfl)) (.n (fun _ => op_eql (.plain rfl) (.plain rfl)) (.n (fun _ => op_move (.plain rfl)) (.gn rfl rfl (fun hg _ => op_move (.plain rfl)) (.gn rfl rfl (fun hg _ => op_move (.plain rfl)) (.gn rfl rfl (fun hg _ => op_eql (.opt rfl fun h => h) (.opt rfl fun h => h)) (.n (fun _ => op_and (.plain rfl) (.plain rfl) (.plain rfl) (fun h => eqT h)) (.n (fun _ => op_move (.plain rfl)) (.gn rfl rfl (fun hg _ => op_move (.plain rfl)) (.gn rfl rfl (fun hg _ => op_move (.plain rfl)) (.gn rfl rfl (fun hg _ => op_eql (.opt rfl fun h => h) (.opt rfl fun h => h)) (.n (fun _ => op_and (.plain rfl) (.plain rfl) (.plain rfl) (fun h => eqT h)) (.n (fun _ => op_move (.plain rfl)) (.gn rfl rfl (fun hg _ => op_move (.plain rfl)) (.gn rfl rfl (fun hg _ => op_not (.opt rfl fun h => h)) (.n (fun _ => op_and (.plain rfl) (.plain rfl) (.plain rfl) (fun h => eqT h)) (.n (fun _ => op_move (.plain rfl)) (.gn rfl rfl (fun hg _ => op_move (.plain rfl)) (.gn rfl rfl (fun hg _ => op_not (.opt rfl fun h => h)) (.n (fun _ => op_and (.plain rfl) (.plain rfl) (.plain rfl) (fun h => eqT h)) (.n (fun _ => op_move (.plain rfl)) (.gn rfl rfl (fun hg _ => op_indexAddrA Try.underlying34 Try.sizeOf4 (.plain rfl) (.plain rfl) ?_) (.gr rfl rfl (fun hg => op_loadR Try.isAgg4 (.opt rfl fun h => h) rfl rfl) (.gn rfl rfl (fun hg _ => op_not (.opt rfl fun h => h)) (.n (fun _ => op_and (.plain rfl) (.plain rfl) (.plain rfl) (fun h => eqT h)) (.n (fun _ => op_move (.plain rfl)) (.gn rfl rfl (fun hg _ => op_indexAddrA Try.underlying34 Try.sizeOf4 (.plain rfl) (.plain rfl) ?_) (.gr rfl rfl (fun hg => op_loadR Try.isAgg4 (.opt rfl fun h => h) rfl rfl) (.gn rfl rfl (fun hg _ => op_not (.opt rfl fun h => h)) (.n (fun _ => op_and (.plain rfl) (.plain rfl) (.plain rfl) (fun h => eqT h)) (.n (fun _ => op_assign (.plain rfl)) (.nil _))))))))))))))))))))))))))))))))) ?_
    · try simp only [beq_iff_eq, beq_true, beq_false, Bool.and_eq_true, decide_eq_true_eq, decide_eq_false_iff_not, Bool.not_eq_true', Bool.or_eq_true, Bool.or_eq_false_iff] at hg
      omega
    · try simp only [beq_iff_eq, beq_true, beq_false, Bool.and_eq_true, decide_eq_true_eq, decide_eq_false_iff_not, Bool.not_eq_true', Bool.or_eq_true, Bool.or_eq_false_iff] at hg
      omega
    refine awp_ret ?_
    refine retQ.ret ?_
    refine ret1 rfl rfl rfl ?_
    simp
  · try simp only [decide_eq_true_eq, decide_eq_false_iff_not, Bool.and_eq_true, Bool.or_eq_true, Bool.and_eq_false_iff, Bool.or_eq_false_iff, Bool.not_eq_true', Bool.not_eq_false', Bool.not_eq_true, Bool.not_eq_false, Bool.true_eq_false, Bool.false_eq_true] at h
    simp only [if_pos h]
    have hz := h
    have hok := TabOk.of h
    have hlen := hok.len
    refine awp_skip ?_
    refine awp_seq ?_
    refine awp_region rfl (.n (fun _ => op_assign (.plain rfl)) (.nil _)) ?_
    refine awp_seq ?_
    refine awp_region rfl (.n (fun _ => op_assign (.plain rfl)) (.nil _)) ?_
    refine awp_seq ?_
    refine awp_seq ?_
    refine awp_region rfl (.n (fun _ => op_assign (.plain rfl)) (.nil _)) ?_
    refine awp_block ?_
    refine awp_loop (σ := Nat) (fun (p : Nat) => p ≤ 36) (fun (p : Nat) => ⟨[(0, .pv (.ints rule)), (5, .pv (.bool (allF (agrP rule)))), (6, .pv (.i (tabE rule 6))), (7, .pv (.bool (allF (aptP rule)))), (8, .pv (.i (tabE rule 6))), (9, .ref 9 0), (10, .pv (.i (tabE rule 6))), (11, .bool (allTo (rul0 rule) p)), (12, .bool (allTo (rul1 rule) p)), (13, .int (p : Nat))], [(9, .box [.pv (.bool (allTo (rul0 rule) 36)), .pv (.bool (allTo (rul1 rule) 36))])]⟩) (fun (p : Nat) => 36 - p) 0 ?_ (Ent.kept ⟨rfl, rfl, rfl, rfl, rfl, rfl, rfl, rfl, rfl, rfl, trivial⟩ ⟨rfl, trivial⟩) ?_
    · simp
    rintro p hp
    try dsimp only at hp
    refine awp_seq ?_
    refine awp_seq ?_
    refine awp_region rfl (.n (fun _ => op_move (.plain rfl)) (.n (fun _ => op_lss (.plain rfl) (.plain rfl)) (.nil _))) ?_
    refine awp_cond rfl (fun h => ?_) (fun h => ?_)
    · try simp only [decide_eq_true_eq, decide_eq_false_iff_not, Bool.and_eq_true, Bool.or_eq_true, Bool.and_eq_false_iff, Bool.or_eq_false_iff, Bool.not_eq_true', Bool.not_eq_false', Bool.not_eq_true, Bool.not_eq_false, Bool.true_eq_false, Bool.false_eq_true] at h
      refine awp_skip ?_
      refine awp_seq ?_
      refine awp_block ?_
      refine awp_seq ?_
      refine awp_region rfl (.n (fun _ => op_move (.plain rfl)) (.n (fun _ => op_move (.plain rfl)) (.gn rfl rfl (fun hg _ => op_move (.plain rfl)) (.gn rfl rfl (fun hg _ => op_move (.plain rfl)) (.gn rfl rfl (fun hg _ => op_indexAddrN Try.underlying22 Try.sizeOf3 (.opt rfl fun h => h) (.opt rfl fun h => h) (fun _ => rfl) ?_) (.gn rfl rfl (fun hg _ => op_load Try.isAgg3 (.opt rfl fun h => h)) (.gn rfl rfl (fun hg _ => op_move (.plain rfl)) (.gn rfl rfl (fun hg _ => op_quo (.opt rfl fun h => h) (.plain rfl) ?_) (.gn rfl rfl (fun hg _ => op_eql (.opt rfl fun h => h) (.opt rfl fun h => h)) (.n (fun _ => op_and (.plain rfl) (.plain rfl) (.plain rfl) (fun h => eqT h)) (.n (fun _ => op_assign (.plain rfl)) (.nil _)))))))))))) ?_
      · try simp only [beq_iff_eq, beq_true, beq_false, Bool.and_eq_true, decide_eq_true_eq, decide_eq_false_iff_not, Bool.not_eq_true', Bool.or_eq_true, Bool.or_eq_false_iff] at hg
        omega
      · try simp only [beq_iff_eq, beq_true, beq_false, Bool.and_eq_true, decide_eq_true_eq, decide_eq_false_iff_not, Bool.not_eq_true', Bool.or_eq_true, Bool.or_eq_false_iff] at hg
        omega
      refine awp_region rfl (.n (fun _ => op_move (.plain rfl)) (.n (fun _ => op_move (.plain rfl)) (.gn rfl rfl (fun hg _ => op_move (.plain rfl)) (.gn rfl rfl (fun hg _ => op_move (.plain rfl)) (.gn rfl rfl (fun hg _ => op_indexAddrN Try.underlying22 Try.sizeOf3 (.opt rfl fun h => h) (.opt rfl fun h => h) (fun _ => rfl) ?_) (.gn rfl rfl (fun hg _ => op_load Try.isAgg3 (.opt rfl fun h => h)) (.gn rfl rfl (fun hg _ => op_move (.plain rfl)) (.gn rfl rfl (fun hg _ => op_rem (.opt rfl fun h => h) (.plain rfl) ?_) (.gn rfl rfl (fun hg _ => op_eql (.opt rfl fun h => h) (.opt rfl fun h => h)) (.n (fun _ => op_and (.plain rfl) (.plain rfl) (.plain rfl) (fun h => eqT h)) (.n (fun _ => op_assign (.plain rfl)) (.nil _)))))))))))) ?_
      · try simp only [beq_iff_eq, beq_true, beq_false, Bool.and_eq_true, decide_eq_true_eq, decide_eq_false_iff_not, Bool.not_eq_true', Bool.or_eq_true, Bool.or_eq_false_iff] at hg
        omega
      · try simp only [beq_iff_eq, beq_true, beq_false, Bool.and_eq_true, decide_eq_true_eq, decide_eq_false_iff_not, Bool.not_eq_true', Bool.or_eq_true, Bool.or_eq_false_iff] at hg
        omega
      refine awp_region rfl (.n (fun _ => op_move (.plain rfl)) (.n (fun _ => op_add (.plain rfl) (.plain rfl) ?_) (.n (fun _ => op_assign (.plain rfl)) (.nil _)))) ?_
      · unfold InR; omega
      exact ⟨p + 1, by omega, by dsimp only; omega, (Ent.kept ⟨rfl, rfl, rfl, rfl, rfl, rfl, rfl, (congrArg (fun b => some (SV.bool b)) (ru0)), (congrArg (fun b => some (SV.bool b)) (ru1)), rfl, trivial⟩ ⟨rfl, trivial⟩)⟩
    · try simp only [decide_eq_true_eq, decide_eq_false_iff_not, Bool.and_eq_true, Bool.or_eq_true, Bool.and_eq_false_iff, Bool.or_eq_false_iff, Bool.not_eq_true', Bool.not_eq_false', Bool.not_eq_true, Bool.not_eq_false, Bool.true_eq_false, Bool.false_eq_true] at h
      obtain rfl : p = 36 := by omega
      refine awp_exit ?_
      refine awp_seq ?_
      refine awp_region rfl (.n (fun _ => op_move (.plain rfl)) (.n (fun _ => op_eql (.plain rfl) (.plain rfl)) (.n (fun _ => op_move (.plain rfl)) (.gn rfl rfl (fun hg _ => op_move (.plain rfl)) (.gn rfl rfl (fun hg _ => op_eql (.opt rfl fun h => h) (.plain rfl)) (.n (fun _ => op_and (.plain rfl) (.plain rfl) (.plain rfl) (fun h => eqT h)) (.n (fun _ => op_move (.plain rfl)) (.gn rfl rfl (fun hg _ => op_move (.plain rfl)) (.gn rfl rfl (fun hg _ => op_eql (.opt rfl fun h => h) (.plain rfl)) (.n (fun _ => op_and (.plain rfl) (.plain rfl) (.plain rfl) (fun h => eqT h)) (.n (fun _ => op_move (.plain rfl)) (.gn rfl rfl (fun hg _ => op_move (.plain rfl)) (.gn rfl rfl (fun hg _ => op_move (.plain rfl)) (.gn rfl rfl (fun hg _ => op_call1 Try.call20 (.opt rfl fun h => h) (AgreesR_fc _ ?_)) (.gn rfl rfl (fun hg _ => op_eqb Try.underlying4 (.opt rfl fun h => h) (.opt rfl fun h => h)) (.n (fun _ => op_and (.plain rfl) (.plain rfl) (.plain rfl) (fun h => eqT h)) (.n (fun _ => op_move (.plain rfl)) (.gn rfl rfl (fun hg _ => op_move (.plain rfl)) (.gn rfl rfl (fun hg _ => op_move (.plain rfl)) (.gn rfl rfl (fun hg _ => op_call1 Try.call21 (.opt rfl fun h => h) (ApartR_fc _ ?_)) (.gn rfl rfl (fun hg _ => op_eqb Try.underlying4 (.opt rfl fun h => h) (.opt rfl fun h => h)) (.n (fun _ => op_and (.plain rfl) (.plain rfl) (.plain rfl) (fun h => eqT h)) (.n (fun _ => op_move (.plain rfl)) (.gn rfl rfl (fun hg _ => op_indexAddrA Try.underlying34 Try.sizeOf4 (.plain rfl) (.plain rfl) ?_) (.gr rfl rfl (fun hg => op_loadR Try.isAgg4 (.opt rfl fun h => h) rfl rfl) (.gn rfl rfl (fun hg _ => op_move (.plain rfl)) (.gn rfl rfl (fun hg _ => op_eqb Try.underlying4 (.opt rfl fun h => h) (.opt rfl fun h => h)) (.n (fun _ => op_and (.plain rfl) (.plain rfl) (.plain rfl) (fun h => eqT h)) (.n (fun _ => op_move (.plain rfl)) (.gn rfl rfl (fun hg _ => op_indexAddrA Try.underlying34 Try.sizeOf4 (.plain rfl) (.plain rfl) ?_) (.gr rfl rfl (fun hg => op_loadR Try.isAgg4 (.opt rfl fun h => h) rfl rfl) (.gn rfl rfl (fun hg _ => op_move (.plain rfl)) (.gn rfl rfl (fun hg _ => op_eqb Try.underlying4 (.opt rfl fun h => h) (.opt rfl fun h => h)) (.n (fun _ => op_and (.plain rfl) (.plain rfl) (.plain rfl) (fun h => eqT h)) (.n (fun _ => op_assign (.plain rfl)) (.nil _)))))))))))))))))))))))))))))))))))) ?_
      · try simp only [beq_iff_eq, beq_true, beq_false, Bool.and_eq_true, decide_eq_true_eq, decide_eq_false_iff_not, Bool.not_eq_true', Bool.or_eq_true, Bool.or_eq_false_iff] at hg
        assumption
      · try simp only [beq_iff_eq, beq_true, beq_false, Bool.and_eq_true, decide_eq_true_eq, decide_eq_false_iff_not, Bool.not_eq_true', Bool.or_eq_true, Bool.or_eq_false_iff] at hg
        assumption
      · try simp only [beq_iff_eq, beq_true, beq_false, Bool.and_eq_true, decide_eq_true_eq, decide_eq_false_iff_not, Bool.not_eq_true', Bool.or_eq_true, Bool.or_eq_false_iff] at hg
        omega
      · try simp only [beq_iff_eq, beq_true, beq_false, Bool.and_eq_true, decide_eq_true_eq, decide_eq_false_iff_not, Bool.not_eq_true', Bool.or_eq_true, Bool.or_eq_false_iff] at hg
        omega
      refine awp_ret ?_
      refine retQ.ret ?_
      refine ret1 rfl rfl rfl ?_
      rw [hz]
      simp

set_option maxRecDepth 1000000 in
set_option maxHeartbeats 2000000 in
theorem choiceRule_fc (rule : List Int) : FC Try.prog 11 [.ints rule, .i (tabE rule 3)] (.bool true) := by
  refine FC.intro Try.func11 rfl (Nat.le_of_ble_eq_true rfl) fun hfit => ?_
  obtain ⟨fitl0, fitr0⟩ := (hfit _ (.head _)).ints
  have fit1 : -9223372036854775808 ≤ ((tabE rule 3) : Int) ∧ ((tabE rule 3) : Int) ≤ 9223372036854775807 := (hfit _ (.tail _ (.head _))).int64
  refine awp_seq ?_
  refine awp_region rfl (.n (fun _ => op_assign (.plain rfl)) (.nil _)) ?_
  refine awp_seq ?_
  refine awp_region rfl (.n (fun _ => op_move (.plain rfl)) (.n (fun _ => op_call1 Try.call16 (.plain rfl) (Onto_fc _)) (.n (fun _ => op_move (.plain rfl)) (.n (fun _ => op_extract (.plain rfl) rfl) (.n (fun _ => op_extract (.plain rfl) rfl) (.n (fun _ => op_assign (.plain rfl)) (.n (fun _ => op_assign (.plain rfl)) (.nil _)))))))) ?_
  refine awp_seq ?_
  refine awp_region rfl (.n (fun _ => op_move (.plain rfl)) (.n (fun _ => op_call1 Try.call17 (.plain rfl) (Honest_fc _)) (.n (fun _ => op_move (.plain rfl)) (.n (fun _ => op_extract (.plain rfl) rfl) (.n (fun _ => op_extract (.plain rfl) rfl) (.n (fun _ => op_extract (.plain rfl) rfl) (.n (fun _ => op_extract (.plain rfl) rfl) (.n (fun _ => op_extract (.plain rfl) rfl) (.n (fun _ => op_extract (.plain rfl) rfl) (.n (fun _ => op_assign (.plain rfl)) (.n (fun _ => op_assign (.plain rfl)) (.n (fun _ => op_assign (.plain rfl)) (.n (fun _ => op_assign (.plain rfl)) (.n (fun _ => op_assign (.plain rfl)) (.n (fun _ => op_assign (.plain rfl)) (.nil _)))))))))))))))) ?_
  refine awp_seq ?_
  refine awp_region rfl (.n (fun _ => op_move (.plain rfl)) (.n (fun _ => op_call1 Try.call18 (.plain rfl) (Choosers_fc _)) (.n (fun _ => op_move (.plain rfl)) (.n (fun _ => op_extract (.plain rfl) rfl) (.n (fun _ => op_extract (.plain rfl) rfl) (.e (op_alloc 13 Try.zeroValue34 rfl rfl rfl) rfl (.e (op_storeRA Try.sizeOf34 (.plain rfl) (.plain rfl) rfl rfl (Nat.le_of_ble_eq_true rfl) rfl) rfl (.n (fun _ => op_assign (.plain rfl)) (.nil _))))))))) ?_
  refine awp_seq ?_
  refine awp_seq ?_
  refine awp_region rfl (.n (fun _ => op_move (.plain rfl)) (.n (fun _ => op_neq (.plain rfl) (.plain rfl)) (.nil _))) ?_
  refine awp_cond rfl (fun h => ?_) (fun h => ?_)
  · try simp only [decide_eq_true_eq, decide_eq_false_iff_not, Bool.and_eq_true, Bool.or_eq_true, Bool.and_eq_false_iff, Bool.or_eq_false_iff, Bool.not_eq_true', Bool.not_eq_false', Bool.not_eq_true, Bool.not_eq_false, Bool.true_eq_false, Bool.false_eq_true] at h
    have hz := h
    simp only [if_neg h]
    simp only [hV_n h, hOk_n h]
    refine awp_seq ?_
    refine awp_region rfl (.n (fun _ => op_move (.plain rfl)) (.n (fun _ => op_move (.plain rfl)) (.n (fun _ => op_eql (.plain rfl) (.plain rfl)) (.n (fun _ => op_move (.plain rfl)) (.gn rfl rfl (fun hg _ => op_move (.plain rfl)) (.gn rfl rfl (fun hg _ => op_move (.plain rfl)) (.gn rfl rfl (fun hg _ => op_eql (.opt rfl fun h => h) (.opt rfl fun h => h)) (.n (fun _ => op_and (.plain rfl) (.plain rfl) (.plain rfl) (fun h => eqT h)) (.n (fun _ => op_move (.plain rfl)) (.gn rfl rfl (fun hg _ => op_move (.plain rfl)) (.gn rfl rfl (fun hg _ => op_move (.plain rfl)) (.gn rfl rfl (fun hg _ => op_eql (.opt rfl fun h => h) (.opt rfl fun h => h)) (.n (fun _ => op_and (.plain rfl) (.plain rfl) (.plain rfl) (fun h => eqT h)) (.n (fun _ => op_move (.plain rfl)) (.gn rfl rfl (fun hg _ => op_move (.plain rfl)) (.gn rfl rfl (fun hg _ => op_not (.opt rfl fun h => h)) (.n (fun _ => op_and (.plain rfl) (.plain rfl) (.plain rfl) (fun h => eqT h)) (.n (fun _ => op_move (.plain rfl)) (.gn rfl rfl (fun hg _ => op_move (.plain rfl)) (.gn rfl rfl (fun hg _ => op_not (.opt rfl fun h => h)) (.n (fun _ => op_and (.plain rfl) (.plain rfl) (.plain rfl) (fun h => eqT h)) (.n (fun _ => op_move (.plain rfl)) (.gn rfl rfl (fun hg _ => op_move (.plain rfl)) (.gn rfl rfl (fun hg _ => op_move (.plain rfl)) (.gn rfl rfl (fun hg _ => op_add (.opt rfl fun h => h) (.opt rfl fun h => h) ?_) (.gn rfl rfl (fun hg _ => op_move (.plain rfl)) (.gn rfl rfl (fun hg _ => op_add (.opt rfl fun h => h) (.opt rfl fun h => h) ?_) (.gn rfl rfl (fun hg _ => op_move (.plain rfl)) (.gn rfl rfl (fun hg _ => op_add (.opt rfl fun h => h) (.opt rfl fun h => h) ?_) (.gn rfl rfl (fun hg _ => op_eql (.opt rfl fun h => h) (.plain rfl)) (.n (fun _ => op_and (.plain rfl) (.plain rfl) (.plain rfl) (fun h => eqT h)) (.n (fun _ => op_move (.plain rfl)) (.gn rfl rfl (fun hg _ => op_indexAddrA Try.underlying34 Try.sizeOf4 (.plain rfl) (.plain rfl) ?_) (.gr rfl rfl (fun hg => op_loadR Try.isAgg4 (.opt rfl fun h => h) rfl rfl) (.gn rfl rfl (fun hg _ => op_not (.opt rfl fun h => h)) (.n (fun _ => op_and (.plain rfl) (.plain rfl) (.plain rfl) (fun h => eqT h)) (.n (fun _ => op_move (.plain rfl)) (.gn rfl rfl (fun hg _ => op_indexAddrA Try.underlying34 Try.sizeOf4 (.plain rfl) (.plain rfl) ?_) (.gr rfl rfl (fun hg => op_loadR Try.isAgg4 (.opt rfl fun h => h) rfl rfl) (.gn rfl rfl (fun hg _ => op_not (.opt rfl fun h => h)) (.n (fun _ => op_and (.plain rfl) (.plain rfl) (.plain rfl) (fun h => eqT h)) (.n (fun _ => op_assign (.plain rfl)) (.nil _))))))))))))))))))))))))))))))))))))))))))) ?_
    · try simp only [beq_iff_eq, beq_true, beq_false, Bool.and_eq_true, decide_eq_true_eq, decide_eq_false_iff_not, Bool.not_eq_true', Bool.or_eq_true, Bool.or_eq_false_iff] at hg
      simp [InR]
    · try simp only [beq_iff_eq, beq_true, beq_false, Bool.and_eq_true, decide_eq_true_eq, decide_eq_false_iff_not, Bool.not_eq_true', Bool.or_eq_true, Bool.or_eq_false_iff] at hg
      simp [InR]
    · try simp only [beq_iff_eq, beq_true, beq_false, Bool.and_eq_true, decide_eq_true_eq, decide_eq_false_iff_not, Bool.not_eq_true', Bool.or_eq_true, Bool.or_eq_false_iff] at hg
      simp [InR]
    · try simp only [beq_iff_eq, beq_true, beq_false, Bool.and_eq_true, decide_eq_true_eq, decide_eq_false_iff_not, Bool.not_eq_true', Bool.or_eq_true, Bool.or_eq_false_iff] at hg
      omega
    · try simp only [beq_iff_eq, beq_true, beq_false, Bool.and_eq_true, decide_eq_true_eq, decide_eq_false_iff_not, Bool.not_eq_true', Bool.or_eq_true, Bool.or_eq_false_iff] at hg
      omega
    refine awp_ret ?_
    refine retQ.ret ?_
    refine ret1 rfl rfl rfl ?_
    simp
  · try simp only [decide_eq_true_eq, decide_eq_false_iff_not, Bool.and_eq_true, Bool.or_eq_true, Bool.and_eq_false_iff, Bool.or_eq_false_iff, Bool.not_eq_true', Bool.not_eq_false', Bool.not_eq_true, Bool.not_eq_false, Bool.true_eq_false, Bool.false_eq_true] at h
    simp only [if_pos h]
    have hz := h
    have hok := TabOk.of h
    have hlen := hok.len
    refine awp_skip ?_
    refine awp_seq ?_
    refine awp_region rfl (.n (fun _ => op_assign (.plain rfl)) (.nil _)) ?_
    refine awp_seq ?_
    refine awp_region rfl (.n (fun _ => op_assign (.plain rfl)) (.nil _)) ?_
    refine awp_seq ?_
    refine awp_seq ?_
    refine awp_region rfl (.n (fun _ => op_assign (.plain rfl)) (.nil _)) ?_
    refine awp_block ?_
    refine awp_loop (σ := Nat) (fun (p : Nat) => p ≤ 36) (fun (p : Nat) => ⟨[(0, .pv (.ints rule)), (5, .pv (.bool (seenB rule 36 0 == true && seenB rule 36 1 == true && seenB rule 36 2 == true))), (6, .pv (.i (tabE rule 3))), (7, .pv (.bool (hOk rule))), (8, .pv (.i (hV rule (fun n => n / 72) : Nat))), (9, .pv (.i (hV rule (fun n => n / 12 % 6) : Nat))), (10, .pv (.i (hV rule (fun n => n / 6 % 2) : Nat))), (11, .pv (.i (hV rule (fun n => n % 6) : Nat))), (12, .pv (.i (tabE rule 3))), (13, .ref 13 0), (14, .pv (.i (tabE rule 3))), (15, .bool (allTo (cho0 rule) p)), (16, .bool (allTo (cho1 rule) p)), (17, .int (p : Nat))], [(13, .box [.pv (.bool (allTo (cho0 rule) 36)), .pv (.bool (allTo (cho1 rule) 36))])]⟩) (fun (p : Nat) => 36 - p) 0 ?_ (Ent.kept ⟨rfl, rfl, rfl, rfl, rfl, rfl, rfl, rfl, rfl, rfl, rfl, rfl, rfl, rfl, trivial⟩ ⟨rfl, trivial⟩) ?_
    · simp
    rintro p hp
    try dsimp only at hp
    refine awp_seq ?_
    refine awp_seq ?_
    refine awp_region rfl (.n (fun _ => op_move (.plain rfl)) (.n (fun _ => op_lss (.plain rfl) (.plain rfl)) (.nil _))) ?_
    refine awp_cond rfl (fun h => ?_) (fun h => ?_)
    · try simp only [decide_eq_true_eq, decide_eq_false_iff_not, Bool.and_eq_true, Bool.or_eq_true, Bool.and_eq_false_iff, Bool.or_eq_false_iff, Bool.not_eq_true', Bool.not_eq_false', Bool.not_eq_true, Bool.not_eq_false, Bool.true_eq_false, Bool.false_eq_true] at h
      refine awp_skip ?_
      refine awp_seq ?_
      refine awp_block ?_
      refine awp_seq ?_
      refine awp_region_draw mixed rfl (.n (fun _ => op_move (.plain rfl)) (.n (fun _ => op_move (.plain rfl)) (.gn rfl rfl (fun hg _ => op_move (.plain rfl)) (.gn rfl rfl (fun hg _ => op_move (.plain rfl)) (.gn rfl rfl (fun hg _ => op_indexAddrN Try.underlying22 Try.sizeOf3 (.opt rfl fun h => h) (.opt rfl fun h => h) (fun _ => rfl) ?_) (.gn rfl rfl (fun hg _ => op_load Try.isAgg3 (.opt rfl fun h => h)) (.gn rfl rfl (fun hg _ => op_move (.plain rfl)) (.gn rfl rfl (fun hg _ => op_quo (.opt rfl fun h => h) (.plain rfl) ?_) (.gn rfl rfl (fun hg _ => op_call1 Try.call8 (.opt rfl fun h => h) (OrderNo_fc _ (p / 6) ?_ ?_)) (.gn rfl rfl (fun hg _ => op_indexAddr Try.underlying22 Try.sizeOf3 (.opt rfl fun h => h) (.plain rfl) (fun _ => rfl) ?_) (.gn rfl rfl (fun hg _ => op_load Try.isAgg3 (.opt rfl fun h => h)) (.gn rfl rfl (fun hg _ => op_eql (.opt rfl fun h => h) (.opt rfl fun h => h)) (.n (fun _ => op_and (.plain rfl) (.plain rfl) (.plain rfl) (fun h => eqT h)) (.n (fun _ => op_assign (.plain rfl)) (.nil _))))))))))))))) ?d10 ?_
      · try simp only [beq_iff_eq, beq_true, beq_false, Bool.and_eq_true, decide_eq_true_eq, decide_eq_false_iff_not, Bool.not_eq_true', Bool.or_eq_true, Bool.or_eq_false_iff] at hg
        omega
      · try simp only [beq_iff_eq, beq_true, beq_false, Bool.and_eq_true, decide_eq_true_eq, decide_eq_false_iff_not, Bool.not_eq_true', Bool.or_eq_true, Bool.or_eq_false_iff] at hg
        omega
      · try simp only [beq_iff_eq, beq_true, beq_false, Bool.and_eq_true, decide_eq_true_eq, decide_eq_false_iff_not, Bool.not_eq_true', Bool.or_eq_true, Bool.or_eq_false_iff] at hg
        omega
      · try simp only [beq_iff_eq, beq_true, beq_false, Bool.and_eq_true, decide_eq_true_eq, decide_eq_false_iff_not, Bool.not_eq_true', Bool.or_eq_true, Bool.or_eq_false_iff] at hg
        omega
      · try simp only [beq_iff_eq, beq_true, beq_false, Bool.and_eq_true, decide_eq_true_eq, decide_eq_false_iff_not, Bool.not_eq_true', Bool.or_eq_true, Bool.or_eq_false_iff] at hg
        exact ⟨Int.le_refl _, by show (0 : Int) < 3; omega⟩
      · kernel_rfl
      refine awp_region_draw mixed rfl (.n (fun _ => op_move (.plain rfl)) (.n (fun _ => op_move (.plain rfl)) (.gn rfl rfl (fun hg _ => op_move (.plain rfl)) (.gn rfl rfl (fun hg _ => op_move (.plain rfl)) (.gn rfl rfl (fun hg _ => op_indexAddrN Try.underlying22 Try.sizeOf3 (.opt rfl fun h => h) (.opt rfl fun h => h) (fun _ => rfl) ?_) (.gn rfl rfl (fun hg _ => op_load Try.isAgg3 (.opt rfl fun h => h)) (.gn rfl rfl (fun hg _ => op_move (.plain rfl)) (.gn rfl rfl (fun hg _ => op_rem (.opt rfl fun h => h) (.plain rfl) ?_) (.gn rfl rfl (fun hg _ => op_call1 Try.call8 (.opt rfl fun h => h) (OrderNo_fc _ (p % 6) ?_ ?_)) (.gn rfl rfl (fun hg _ => op_indexAddr Try.underlying22 Try.sizeOf3 (.opt rfl fun h => h) (.plain rfl) (fun _ => rfl) ?_) (.gn rfl rfl (fun hg _ => op_load Try.isAgg3 (.opt rfl fun h => h)) (.gn rfl rfl (fun hg _ => op_eql (.opt rfl fun h => h) (.opt rfl fun h => h)) (.n (fun _ => op_and (.plain rfl) (.plain rfl) (.plain rfl) (fun h => eqT h)) (.n (fun _ => op_assign (.plain rfl)) (.nil _))))))))))))))) ?d11 ?_
      · try simp only [beq_iff_eq, beq_true, beq_false, Bool.and_eq_true, decide_eq_true_eq, decide_eq_false_iff_not, Bool.not_eq_true', Bool.or_eq_true, Bool.or_eq_false_iff] at hg
        omega
      · try simp only [beq_iff_eq, beq_true, beq_false, Bool.and_eq_true, decide_eq_true_eq, decide_eq_false_iff_not, Bool.not_eq_true', Bool.or_eq_true, Bool.or_eq_false_iff] at hg
        omega
      · try simp only [beq_iff_eq, beq_true, beq_false, Bool.and_eq_true, decide_eq_true_eq, decide_eq_false_iff_not, Bool.not_eq_true', Bool.or_eq_true, Bool.or_eq_false_iff] at hg
        omega
      · try simp only [beq_iff_eq, beq_true, beq_false, Bool.and_eq_true, decide_eq_true_eq, decide_eq_false_iff_not, Bool.not_eq_true', Bool.or_eq_true, Bool.or_eq_false_iff] at hg
        omega
      · try simp only [beq_iff_eq, beq_true, beq_false, Bool.and_eq_true, decide_eq_true_eq, decide_eq_false_iff_not, Bool.not_eq_true', Bool.or_eq_true, Bool.or_eq_false_iff] at hg
        exact ⟨Int.le_refl _, by show (0 : Int) < 3; omega⟩
      · kernel_rfl
      refine awp_region rfl (.n (fun _ => op_move (.plain rfl)) (.n (fun _ => op_add (.plain rfl) (.plain rfl) ?_) (.n (fun _ => op_assign (.plain rfl)) (.nil _)))) ?_
      · unfold InR; omega
      exact ⟨p + 1, by omega, by dsimp only; omega, (Ent.kept ⟨rfl, rfl, rfl, rfl, rfl, rfl, rfl, rfl, rfl, rfl, rfl, (congrArg (fun b => some (SV.bool b)) (ch0 (by omega))), (congrArg (fun b => some (SV.bool b)) (ch1 (by omega))), rfl, trivial⟩ ⟨rfl, trivial⟩)⟩
    · try simp only [decide_eq_true_eq, decide_eq_false_iff_not, Bool.and_eq_true, Bool.or_eq_true, Bool.and_eq_false_iff, Bool.or_eq_false_iff, Bool.not_eq_true', Bool.not_eq_false', Bool.not_eq_true, Bool.not_eq_false, Bool.true_eq_false, Bool.false_eq_true] at h
      obtain rfl : p = 36 := by omega
      refine awp_exit ?_
      refine awp_seq ?_
      refine awp_region rfl (.n (fun _ => op_move (.plain rfl)) (.n (fun _ => op_call1 Try.call22 (.plain rfl) (HonestR_fc _ ?_)) (.n (fun _ => op_move (.plain rfl)) (.n (fun _ => op_extract (.plain rfl) rfl) (.n (fun _ => op_extract (.plain rfl) rfl) (.n (fun _ => op_assign (.plain rfl)) (.n (fun _ => op_assign (.plain rfl)) (.nil _)))))))) ?_
      · assumption
      refine awp_seq ?_
      refine awp_region rfl (.n (fun _ => op_move (.plain rfl)) (.n (fun _ => op_call2 Try.call23 (.plain rfl) (.plain rfl) (In_fc _ _)) (.n (fun _ => op_move (.plain rfl)) (.gn rfl rfl (fun hg _ => op_move (.plain rfl)) (.gn rfl rfl (fun hg _ => op_call2 Try.call23 (.plain rfl) (.opt rfl fun h => h) (In_fc _ _)) (.n (fun _ => op_and (.plain rfl) (.plain rfl) (.plain rfl) (fun h => eqT h)) (.n (fun _ => op_move (.plain rfl)) (.gn rfl rfl (fun hg _ => op_move (.plain rfl)) (.gn rfl rfl (fun hg _ => op_call2 Try.call23 (.plain rfl) (.opt rfl fun h => h) (In_fc _ _)) (.n (fun _ => op_and (.plain rfl) (.plain rfl) (.plain rfl) (fun h => eqT h)) (.n (fun _ => op_assign (.plain rfl)) (.nil _)))))))))))) ?_
      refine awp_seq ?_
      refine awp_region rfl (.n (fun _ => op_move (.plain rfl)) (.n (fun _ => op_eql (.plain rfl) (.plain rfl)) (.n (fun _ => op_move (.plain rfl)) (.gn rfl rfl (fun hg _ => op_move (.plain rfl)) (.gn rfl rfl (fun hg _ => op_eql (.opt rfl fun h => h) (.plain rfl)) (.n (fun _ => op_and (.plain rfl) (.plain rfl) (.plain rfl) (fun h => eqT h)) (.n (fun _ => op_move (.plain rfl)) (.gn rfl rfl (fun hg _ => op_move (.plain rfl)) (.gn rfl rfl (fun hg _ => op_eql (.opt rfl fun h => h) (.plain rfl)) (.n (fun _ => op_and (.plain rfl) (.plain rfl) (.plain rfl) (fun h => eqT h)) (.n (fun _ => op_move (.plain rfl)) (.gn rfl rfl (fun hg _ => op_move (.plain rfl)) (.gn rfl rfl (fun hg _ => op_move (.plain rfl)) (.gn rfl rfl (fun hg _ => op_eqb Try.underlying4 (.opt rfl fun h => h) (.opt rfl fun h => h)) (.n (fun _ => op_and (.plain rfl) (.plain rfl) (.plain rfl) (fun h => eqT h)) (.n (fun _ => op_move (.plain rfl)) (.gn rfl rfl (fun hg _ => op_move (.plain rfl)) (.gn rfl rfl (fun hg _ => op_move (.plain rfl)) (.gn rfl rfl (fun hg _ => op_eqb Try.underlying4 (.opt rfl fun h => h) (.opt rfl fun h => h)) (.n (fun _ => op_and (.plain rfl) (.plain rfl) (.plain rfl) (fun h => eqT h)) (.n (fun _ => op_move (.plain rfl)) (.gn rfl rfl (fun hg _ => op_move (.plain rfl)) (.gn rfl rfl (fun hg _ => op_move (.plain rfl)) (.gn rfl rfl (fun hg _ => op_move (.plain rfl)) (.gn rfl rfl (fun hg _ => op_move (.plain rfl)) (.gn rfl rfl (fun hg _ => op_slit (pp := [(0, _), (1, _), (2, _), (3, _)]) (α := Int) (d := 0) (f := (fun n => [.int .i64 n])) [_, _, _, _] ety22 rfl ⟨rfl, (.opt rfl fun h => h), (by simp), rfl, (.opt rfl fun h => h), (by simp), rfl, (.opt rfl fun h => h), (by simp), rfl, (.opt rfl fun h => h), (by simp), trivial⟩ rfl (by decide) rfl) (.gn rfl rfl (fun hg _ => op_move (.plain rfl)) (.gn rfl rfl (fun hg _ => op_call2 Try.call7 (.opt rfl fun h => h) (.opt rfl fun h => h) (sameInts_fc _ _)) (.n (fun _ => op_and (.plain rfl) (.plain rfl) (.plain rfl) (fun h => eqT h)) (.n (fun _ => op_move (.plain rfl)) (.gn rfl rfl (fun hg _ => op_indexAddrA Try.underlying34 Try.sizeOf4 (.plain rfl) (.plain rfl) ?_) (.gr rfl rfl (fun hg => op_loadR Try.isAgg4 (.opt rfl fun h => h) rfl rfl) (.gn rfl rfl (fun hg _ => op_move (.plain rfl)) (.gn rfl rfl (fun hg _ => op_eqb Try.underlying4 (.opt rfl fun h => h) (.opt rfl fun h => h)) (.n (fun _ => op_and (.plain rfl) (.plain rfl) (.plain rfl) (fun h => eqT h)) (.n (fun _ => op_move (.plain rfl)) (.gn rfl rfl (fun hg _ => op_indexAddrA Try.underlying34 Try.sizeOf4 (.plain rfl) (.plain rfl) ?_) (.gr rfl rfl (fun hg => op_loadR Try.isAgg4 (.opt rfl fun h => h) rfl rfl) (.gn rfl rfl (fun hg _ => op_move (.plain rfl)) (.gn rfl rfl (fun hg _ => op_eqb Try.underlying4 (.opt rfl fun h => h) (.opt rfl fun h => h)) (.n (fun _ => op_and (.plain rfl) (.plain rfl) (.plain rfl) (fun h => eqT h)) (.n (fun _ => op_assign (.plain rfl)) (.nil _))))))))))))))))))))))))))))))))))))))))))) ?_
      · try simp only [beq_iff_eq, beq_true, beq_false, Bool.and_eq_true, decide_eq_true_eq, decide_eq_false_iff_not, Bool.not_eq_true', Bool.or_eq_true, Bool.or_eq_false_iff] at hg
        omega
      · try simp only [beq_iff_eq, beq_true, beq_false, Bool.and_eq_true, decide_eq_true_eq, decide_eq_false_iff_not, Bool.not_eq_true', Bool.or_eq_true, Bool.or_eq_false_iff] at hg
        omega
      refine awp_ret ?_
      refine retQ.ret ?_
      refine ret1 rfl rfl rfl ?_
      have i0 : decide (0 ≤ placeF rule 0) = seenB rule 36 0 := in_seen hok (v := 0)
      have i1 : decide (0 ≤ placeF rule 1) = seenB rule 36 1 := in_seen hok (v := 1)
      have i2 : decide (0 ≤ placeF rule 2) = seenB rule 36 2 := in_seen hok (v := 2)
      rw [hz, hOk_z hz, honL_hV hz, i0, i1, i2]
      simp

theorem RulesSays_fc (rule : List Int) (k : Int) : FC Try.prog 3 [.ints rule, .i k] (.bool true) := by
  refine FC.intro Try.func3 rfl (Nat.le_of_ble_eq_true rfl) fun hfit => ?_
  obtain ⟨fitl0, fitr0⟩ := (hfit _ (.head _)).ints
  have fit1 : -9223372036854775808 ≤ (k : Int) ∧ (k : Int) ≤ 9223372036854775807 := (hfit _ (.tail _ (.head _))).int64
  refine awp_seq ?_
  refine awp_region rfl (.n (fun _ => op_assign (.plain rfl)) (.nil _)) ?_
  refine awp_seq ?_
  refine awp_seq ?_
  refine awp_region rfl (.n (fun _ => op_move (.plain rfl)) (.n (fun _ => op_len (s := 0) Try.underlying22 (.plain rfl)) (.n (fun _ => op_gtr (.plain rfl) (.plain rfl)) (.nil _)))) ?_
  refine awp_cond rfl (fun h => ?_) (fun h => ?_)
  · try simp only [decide_eq_true_eq, decide_eq_false_iff_not, Bool.and_eq_true, Bool.or_eq_true, Bool.and_eq_false_iff, Bool.or_eq_false_iff, Bool.not_eq_true', Bool.not_eq_false', Bool.not_eq_true, Bool.not_eq_false, Bool.true_eq_false, Bool.false_eq_true] at h
    refine awp_seq ?_
    refine awp_region rfl (.n (fun _ => op_assign (.plain rfl)) (.nil _)) ?_
    refine awp_ret ?_
    refine retQ.ret ?_
    refine ret1 rfl rfl rfl ?_
    first | rfl | simp
  · try simp only [decide_eq_true_eq, decide_eq_false_iff_not, Bool.and_eq_true, Bool.or_eq_true, Bool.and_eq_false_iff, Bool.or_eq_false_iff, Bool.not_eq_true', Bool.not_eq_false', Bool.not_eq_true, Bool.not_eq_false, Bool.true_eq_false, Bool.false_eq_true] at h
    refine awp_skip ?_
    refine awp_seq ?_
    refine awp_region rfl (.n (fun _ => op_move (.plain rfl)) (.n (fun _ => op_call1 Try.call6 (.plain rfl) (Order_fc _)) (.n (fun _ => op_move (.plain rfl)) (.n (fun _ => op_extract (.plain rfl) rfl) (.n (fun _ => op_extract (.plain rfl) rfl) (.e (op_alloc 5 Try.zeroValue23 rfl rfl rfl) rfl (.e (op_storeRA Try.sizeOf23 (.plain rfl) (.plain rfl) rfl rfl (Nat.le_of_ble_eq_true rfl) rfl) rfl (.n (fun _ => op_assign (.plain rfl)) (.nil _))))))))) ?_
    refine awp_seq ?_
    refine awp_seq ?_
    refine awp_region rfl (.n (fun _ => op_move (.plain rfl)) (.n (fun _ => op_eql (.plain rfl) (.plain rfl)) (.n (fun _ => op_move (.plain rfl)) (.n (fun _ => op_geq (.plain rfl) (.plain rfl)) (.n (fun _ => op_move (.plain rfl)) (.gn rfl rfl (fun hg _ => op_move (.plain rfl)) (.gn rfl rfl (fun hg _ => op_lss (.opt rfl fun h => h) (.plain rfl)) (.n (fun _ => op_and (.plain rfl) (.plain rfl) (.plain rfl) (fun h => eqT h)) (.n (fun _ => op_neb Try.underlying4 (.plain rfl) (.plain rfl)) (.n (fun _ => op_move (.plain rfl)) (.gn rfl rfl (fun hg _ => op_move (.plain rfl)) (.gn rfl rfl (fun hg _ => op_neq (.opt rfl fun h => h) (.plain rfl)) (.gn rfl rfl (fun hg _ => op_move (.opt rfl fun h => h)) (.ggn rfl rfl (fun hg _ => op_move (.plain rfl)) (.ggn rfl rfl (fun hg _ => op_neq (.opt rfl fun h => h) (.plain rfl)) (.ggn rfl rfl (fun hg _ => op_move (.opt rfl fun h => h)) (.ggr rfl rfl (fun hg => op_loadRA Try.isAgg23 Try.sizeOf23 (.plain rfl) rfl (by simp) rfl) (.ggn rfl rfl (fun hg _ => op_buildA (pp := []) Try.underlying23 Try.zeroValue23 rfl Try.sizeOf3 trivial rfl) (.ggn rfl rfl (fun hg _ => op_ne3i (i := Try.t3) Try.underlying23 (by kernel_rfl) (by kernel_rfl) Try.isAgg3 Try.underlying3 (by kernel_rfl) (.opt rfl fun h => h) (.opt rfl fun h => h)) (.ggn rfl rfl (fun hg _ => op_or (.opt rfl fun h => h) (.plain rfl) (.plain rfl) (fun h => andI hg (eqF h))) (.gn rfl rfl (fun hg _ => op_and (.opt rfl fun h => h) (.plain rfl) (.plain rfl) (fun h => andI hg (eqT h))) (.n (fun _ => op_or (.plain rfl) (.plain rfl) (.plain rfl) (fun h => eqF h)) (.nil _))))))))))))))))))))))) ?_
    refine awp_cond rfl (fun h => ?_) (fun h => ?_)
    · try simp only [decide_eq_true_eq, decide_eq_false_iff_not, Bool.and_eq_true, Bool.or_eq_true, Bool.and_eq_false_iff, Bool.or_eq_false_iff, Bool.not_eq_true', Bool.not_eq_false', Bool.not_eq_true, Bool.not_eq_false, Bool.true_eq_false, Bool.false_eq_true] at h
      exfalso
      by_cases hk : 0 ≤ k ∧ k ≤ 5
      · simp [ordE, hk, show k < 6 by omega] at h
      · simp [ordE, ordI, hk] at h
        omega
    · try simp only [decide_eq_true_eq, decide_eq_false_iff_not, Bool.and_eq_true, Bool.or_eq_true, Bool.and_eq_false_iff, Bool.or_eq_false_iff, Bool.not_eq_true', Bool.not_eq_false', Bool.not_eq_true, Bool.not_eq_false, Bool.true_eq_false, Bool.false_eq_true] at h
      refine awp_skip ?_
      refine awp_seq ?_
      refine awp_seq ?_
      refine awp_region_draw mixed rfl (.n (fun _ => op_move (.plain rfl)) (.n (fun _ => op_eql (.plain rfl) (.plain rfl)) (.n (fun _ => op_move (.plain rfl)) (.gn rfl rfl (fun hg _ => op_indexAddrA Try.underlying23 Try.sizeOf3 (.plain rfl) (.plain rfl) ?_) (.gr rfl rfl (fun hg => op_loadR Try.isAgg3 (.opt rfl fun h => h) rfl rfl) (.gn rfl rfl (fun hg _ => op_indexAddrA Try.underlying23 Try.sizeOf3 (.plain rfl) (.plain rfl) ?_) (.gr rfl rfl (fun hg => op_loadR Try.isAgg3 (.opt rfl fun h => h) rfl rfl) (.gn rfl rfl (fun hg _ => op_indexAddrA Try.underlying23 Try.sizeOf3 (.plain rfl) (.plain rfl) ?_) (.gr rfl rfl (fun hg => op_loadR Try.isAgg3 (.opt rfl fun h => h) rfl rfl) (.gn rfl rfl (fun hg _ => op_slit (pp := [(0, _), (1, _), (2, _)]) (α := Int) (d := 0) (f := (fun n => [.int .i64 n])) [_, _, _] ety22 rfl ⟨rfl, (.opt rfl fun h => h), (by simp), rfl, (.opt rfl fun h => h), (by simp), rfl, (.opt rfl fun h => h), (by simp), trivial⟩ rfl (by decide) rfl) (.gn rfl rfl (fun hg _ => op_move (.plain rfl)) (.gn rfl rfl (fun hg _ => op_call1 Try.call8 (.opt rfl fun h => h) (OrderNo_fc _ k.toNat ?_ ?_)) (.gn rfl rfl (fun hg _ => op_call2 Try.call7 (.opt rfl fun h => h) (.opt rfl fun h => h) (sameInts_fc _ _)) (.gn rfl rfl (fun hg _ => op_not (.opt rfl fun h => h)) (.n (fun _ => op_and (.plain rfl) (.plain rfl) (.plain rfl) (fun h => eqT h)) (.nil _)))))))))))))))) ?d12 ?_
      · try simp only [beq_iff_eq, beq_true, beq_false, Bool.and_eq_true, decide_eq_true_eq, decide_eq_false_iff_not, Bool.not_eq_true', Bool.or_eq_true, Bool.or_eq_false_iff] at hg
        omega
      · try simp only [beq_iff_eq, beq_true, beq_false, Bool.and_eq_true, decide_eq_true_eq, decide_eq_false_iff_not, Bool.not_eq_true', Bool.or_eq_true, Bool.or_eq_false_iff] at hg
        omega
      · try simp only [beq_iff_eq, beq_true, beq_false, Bool.and_eq_true, decide_eq_true_eq, decide_eq_false_iff_not, Bool.not_eq_true', Bool.or_eq_true, Bool.or_eq_false_iff] at hg
        omega
      · try simp only [beq_iff_eq, beq_true, beq_false, Bool.and_eq_true, decide_eq_true_eq, decide_eq_false_iff_not, Bool.not_eq_true', Bool.or_eq_true, Bool.or_eq_false_iff] at hg
        have := ordE_iff.1 hg
        omega
      · try simp only [beq_iff_eq, beq_true, beq_false, Bool.and_eq_true, decide_eq_true_eq, decide_eq_false_iff_not, Bool.not_eq_true', Bool.or_eq_true, Bool.or_eq_false_iff] at hg
        have := ordE_iff.1 hg
        omega
      · kernel_rfl
      refine awp_cond rfl (fun h => ?_) (fun h => ?_)
      · try simp only [decide_eq_true_eq, decide_eq_false_iff_not, Bool.and_eq_true, Bool.or_eq_true, Bool.and_eq_false_iff, Bool.or_eq_false_iff, Bool.not_eq_true', Bool.not_eq_false', Bool.not_eq_true, Bool.not_eq_false, Bool.true_eq_false, Bool.false_eq_true] at h
        exfalso
        have hk := ordE_iff.1 h.1
        exact h.2 (ord_same hk)
      · try simp only [decide_eq_true_eq, decide_eq_false_iff_not, Bool.and_eq_true, Bool.or_eq_true, Bool.and_eq_false_iff, Bool.or_eq_false_iff, Bool.not_eq_true', Bool.not_eq_false', Bool.not_eq_true, Bool.not_eq_false, Bool.true_eq_false, Bool.false_eq_true] at h
        refine awp_skip ?_
        refine awp_seq ?_
        refine awp_region rfl (.n (fun _ => op_move (.plain rfl)) (.n (fun _ => op_move (.plain rfl)) (.n (fun _ => op_call2 Try.call10 (.plain rfl) (.plain rfl) (RuleMay_fc _ _)) (.n (fun _ => op_call2 Try.call9 (.plain rfl) (.plain rfl) (orderRule_fc _)) (.n (fun _ => op_move (.plain rfl)) (.gn rfl rfl (fun hg _ => op_move (.plain rfl)) (.gn rfl rfl (fun hg _ => op_move (.plain rfl)) (.gn rfl rfl (fun hg _ => op_call2 Try.call10 (.opt rfl fun h => h) (.plain rfl) (RuleMay_fc _ _)) (.gn rfl rfl (fun hg _ => op_call2 Try.call11 (.opt rfl fun h => h) (.opt rfl fun h => h) (choiceRule_fc _)) (.n (fun _ => op_and (.plain rfl) (.plain rfl) (.plain rfl) (fun h => eqT h)) (.n (fun _ => op_assign (.plain rfl)) (.nil _)))))))))))) ?_
        refine awp_ret ?_
        refine retQ.ret ?_
        refine ret1 rfl rfl rfl ?_
        first | rfl | simp

end Go.Proofs.Ythcgljomiigjiaa

