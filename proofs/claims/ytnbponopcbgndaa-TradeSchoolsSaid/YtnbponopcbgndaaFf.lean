/- What Schools gives, by both ways. Conditions: each theorem names its own. -/
import Derived.Test.YtnbponopcbgndaaProg
import Derived.Test.YtnbponopcbgndaaFc
namespace Go.Proofs.Ytnbponopcbgndaa
open Go.Abs
set_option linter.unusedVariables false
set_option linter.unusedSimpArgs false


/-! ### Schools -/
def firE (W : List (List Int)) (room : List Int) (F : List (List Int)) (k : Nat) : Int := if ordE W.length (F.getD k []) ≠ 0 then ordE W.length (F.getD k []) else if room.getD k 0 < 0 ∨ 6 < room.getD k 0 then 9 else 0
def wisE (W : List (List Int)) (room : List Int) : Int := firstE (fun i => someE room.length (W.getD i [])) W.length
def schE (W : List (List Int)) (room : List Int) (F : List (List Int)) : Int :=
  if 6 < (W.length : Int) ∨ 6 < (room.length : Int) then 2 else if (F.length : Int) ≠ room.length then 7 else if wisE W room ≠ 0 then wisE W room else firstE (firE W room F) room.length
structure SchOk (W : List (List Int)) (room : List Int) (F : List (List Int)) : Prop where
  n6 : W.length ≤ 6
  m6 : room.length ≤ 6
  fl : F.length = room.length
  ws : ∀ i, i < W.length → someE room.length (W.getD i []) = 0
  fs : ∀ k, k < room.length → ordE W.length (F.getD k []) = 0
  rs : ∀ k, k < room.length → 0 ≤ room.getD k 0 ∧ room.getD k 0 ≤ 6
section
variable {W F : List (List Int)} {room : List Int}
theorem schE_2 (h : 6 < (W.length : Int) ∨ 6 < (room.length : Int)) : schE W room F = 2 := if_pos h
theorem schE_7 (h : ¬ (6 < (W.length : Int) ∨ 6 < (room.length : Int))) (h' : ¬ (F.length : Int) = room.length) : schE W room F = 7 := by unfold schE; rw [if_neg h, if_pos h']
theorem schE_w (h : ¬ (6 < (W.length : Int) ∨ 6 < (room.length : Int))) (h' : (F.length : Int) = room.length) {i : Nat} (hE : firstE (fun i => someE room.length (W.getD i [])) i = 0) (hi : i < W.length) (h0 : ¬ someE room.length (W.getD i []) = 0) : schE W room F = someE room.length (W.getD i []) := by
  have e : wisE W room = someE room.length (W.getD i []) := firstE_stop hE rfl h0 hi
  unfold schE; rw [if_neg h, if_neg (fun c => c h'), if_pos (by rw [e]; exact h0), e]
theorem wisE_ok {i : Nat} (hE : firstE (fun i => someE room.length (W.getD i [])) i = 0) (hk : i ≤ W.length) (hi : ¬ (i : Int) < W.length) : wisE W room = 0 := by
  obtain rfl : i = W.length := by omega
  exact hE
theorem firE_ord {k : Nat} (h : ¬ ordE W.length (F.getD k []) = 0) : firE W room F k = ordE W.length (F.getD k []) := if_pos h
theorem firE_9 {k : Nat} (h : ordE W.length (F.getD k []) = 0) (h' : room.getD k 0 < 0 ∨ 6 < room.getD k 0) : firE W room F k = 9 := by unfold firE; rw [if_neg (fun c => c h), if_pos h']
theorem firE_0 {k : Nat} (h : ordE W.length (F.getD k []) = 0) (h' : ¬ (room.getD k 0 < 0 ∨ 6 < room.getD k 0)) : firE W room F k = 0 := by unfold firE; rw [if_neg (fun c => c h), if_neg h']
theorem schE_f (h : ¬ (6 < (W.length : Int) ∨ 6 < (room.length : Int))) (h' : (F.length : Int) = room.length) (hw : wisE W room = 0) : schE W room F = firstE (firE W room F) room.length := by
  unfold schE; rw [if_neg h, if_neg (fun c => c h'), if_neg (fun c => c hw)]
theorem schE_at (h : ¬ (6 < (W.length : Int) ∨ 6 < (room.length : Int))) (h' : (F.length : Int) = room.length) (hw : wisE W room = 0) {k : Nat} {c : Int} (hE : firstE (firE W room F) k = 0) (hk : k < room.length) (hc : firE W room F k = c) (h0 : c ≠ 0) : schE W room F = c := by
  rw [schE_f h h' hw]; exact firstE_stop hE hc h0 hk
theorem schOk_of (h : ¬ (6 < (W.length : Int) ∨ 6 < (room.length : Int))) (h' : (F.length : Int) = room.length) (hw : wisE W room = 0) (hE : firstE (firE W room F) room.length = 0) : SchOk W room F := {
  n6 := by omega
  m6 := by omega
  fl := by omega
  ws := fun i hi => firstE_zero hw i hi
  fs := fun k hk => by
    have := firstE_zero hE k hk
    unfold firE at this; split at this
    · exact this
    · rename_i h1; simpa using h1
  rs := fun k hk => by
    have := firstE_zero hE k hk
    unfold firE at this; split at this
    · rename_i h1; exact absurd this h1
    · split at this
      · omega
      · omega }
end
def nthN (N : List Nat) (j : Nat) : Nat := N.getD j 0
section
variable {W F : List (List Int)} {room : List Int} {S : Stt}
/-- What school one points at is a school with room. -/
theorem sAt_in (h : SchOk W room F) {x : Nat} (hx : x < W.length) : sAt W S x < (room.length : Int) ∧ (0 ≤ sAt W S x ∨ (sAt W S x = -1 ∧ sI (W.getD x []) S.1 = none)) ∧ (0 ≤ sAt W S x → 0 < S.1.getD (sAt W S x).toNat 0) := by
  unfold sAt
  cases e : sI (W.getD x []) S.1 with
  | none => rw [sF_none e]; exact ⟨by omega, .inr ⟨rfl, rfl⟩, by omega⟩
  | some i =>
    have h1 := firstI_spec e
    rw [sF_of e]
    have h2 := someE_in (h.ws x hx) h1.1
    exact ⟨h2.2, .inl h2.1, fun _ => by simpa using h1.2.1⟩
theorem sAt_neg (h : SchOk W room F) {x : Nat} (hx : x < W.length) (hs : sAt W S x < 0) : sI (W.getD x []) S.1 = none := by
  rcases (sAt_in (S := S) h hx).2.1 with h1 | h1
  · omega
  · exact h1.2
theorem sI_neg {l rm : List Int} (h : sI l rm = none) : sF l rm < 0 := by rw [sF_none h]; omega
theorem nxt_in (h : SchOk W room F) {x : Nat} (hx : x < W.length) (hg : S.2.1.getD x false = false) (hs : 0 ≤ sAt W S x) : 0 ≤ nxt W F S x ∧ nxt W F S x < W.length ∧ S.2.1.getD (nxt W F S x).toNat false = false := by
  have h1 := (sAt_in (S := S) h hx).1
  exact best_good (h.fs _ (by omega)) hx hg
def fS (W F : List (List Int)) (S : Stt) (x : Nat) : Nat := if sAt W S x < 0 then x else (nxt W F S x).toNat
theorem fS_at {x : Nat} (h : ¬ sAt W S x < 0) : fS W F S x = (nxt W F S x).toNat := if_neg h
theorem fS_good (h : SchOk W room F) : ∀ x, x < W.length → S.2.1.getD x false = false → fS W F S x < W.length ∧ S.2.1.getD (fS W F S x) false = false := by
  intro x hx hg
  unfold fS
  split
  · exact ⟨hx, hg⟩
  · have := nxt_in h hx hg (by omega)
    exact ⟨by omega, this.2.2⟩
theorem nxt_fS (h : SchOk W room F) {x : Nat} (hx : x < W.length) (hg : S.2.1.getD x false = false) (hs : 0 ≤ sAt W S x) : nxt W F S x = (fS W F S x : Nat) := by
  have := nxt_in h hx hg hs
  rw [fS_at (by omega)]; omega
/-- A ring, as a list. -/
structure RingL (W F : List (List Int)) (S : Stt) (N : List Nat) : Prop where
  pos : 0 < N.length
  lt : ∀ x, x ∈ N → x < W.length
  here : ∀ x, x ∈ N → S.2.1.getD x false = false
  sc : ∀ x, x ∈ N → 0 ≤ sAt W S x
  cl : ∀ x, x ∈ N → fS W F S x ∈ N
  inj : ∀ x y, x ∈ N → y ∈ N → fS W F S x = fS W F S y → x = y
  nd : N.Nodup
variable {N : List Nat}
theorem RingL.isRing (h : SchOk W room F) (hN : RingL W F S N) : IsRing W F W.length room.length S (sel N N.length) := by
  refine ⟨fun x hx => hN.lt x (sel_all.1 hx), fun x hx => hN.here x (sel_all.1 hx), fun x hx => ⟨hN.sc x (sel_all.1 hx), (sAt_in h (hN.lt x (sel_all.1 hx))).1⟩, fun x hx => ?_, fun x y hx hy e => ?_⟩
  · have hm := sel_all.1 hx
    have := nxt_fS h (hN.lt x hm) (hN.here x hm) (hN.sc x hm)
    rw [this]
    exact ⟨by omega, sel_all.2 (by rw [Int.toNat_natCast]; exact hN.cl x hm)⟩
  · have hm := sel_all.1 hx
    have hm2 := sel_all.1 hy
    have h1 := nxt_fS h (hN.lt x hm) (hN.here x hm) (hN.sc x hm)
    have h2 := nxt_fS h (hN.lt y hm2) (hN.here y hm2) (hN.sc y hm2)
    exact hN.inj x y hm hm2 (by omega)
theorem RingL.mv (h : SchOk W room F) (hN : RingL W F S N) : Mv W F W.length room.length S (ringTo W W.length room.length S (sel N N.length)) :=
  .ring _ ⟨N.getD 0 0, sel_all.2 (natD_mem hN.pos)⟩ (hN.isRing h)
theorem RingL.school_inj (h : SchOk W room F) (hN : RingL W F S N) {x y : Nat} (hx : x ∈ N) (hy : y ∈ N) (e : sAt W S x = sAt W S y) : x = y := by
  refine hN.inj x y hx hy ?_
  have h1 := hN.sc x hx
  have h2 := hN.sc y hy
  rw [fS_at (by omega), fS_at (by omega)]
  unfold nxt; rw [e]
/-- What is so when j of a ring have got what they point at. -/
def part (W : List (List Int)) (m : Nat) (S : Stt) (N : List Nat) (j : Nat) : Stt := ringTo W W.length m S (sel N j)
theorem hits_zero {m : Nat} : hits W W.length S (sel N 0) m = false := by
  unfold hits
  rw [List.any_eq_false]
  intro x _
  simp [sel_zero]
theorem part_zero (hl : Lens W.length room.length S) : part W room.length S N 0 = S := by
  unfold part ringTo
  have e1 : mapr room.length (fun k => S.1.getD k 0 - if hits W W.length S (sel N 0) k then 1 else 0) = S.1 := by
    refine list_ext (d := 0) (by simp [hl.1]) fun k hk => ?_
    rw [mapr_getD _ (by simpa using hk), hits_zero]; simp
  have e2 : mapr W.length (fun x => S.2.1.getD x false || sel N 0 x) = S.2.1 := by
    refine list_ext (d := false) (by simp [hl.2.1]) fun k hk => ?_
    rw [mapr_getD _ (by simpa using hk), sel_zero]; simp
  have e3 : mapr W.length (fun x => if sel N 0 x then sAt W S x else S.2.2.getD x 0) = S.2.2 := by
    refine list_ext (d := 0) (by simp [hl.2.2]) fun k hk => ?_
    rw [mapr_getD _ (by simpa using hk), sel_zero]; simp
  rw [e1, e2, e3]
theorem part_got {m j : Nat} (hj : j < N.length) : (part W m S N j).2.2.set (N.getD j 0) (sAt W S (N.getD j 0)) = (part W m S N (j + 1)).2.2 := by
  refine mapr_set (fun hi => ?_) fun x hx hne => ?_
  · rw [sel_succ hj]; simp
  · rw [sel_succ hj, show (x == N.getD j 0) = false from beq_eq_false_iff_ne.2 hne, Bool.or_false]
theorem part_gone {m j : Nat} (hj : j < N.length) : (part W m S N j).2.1.set (N.getD j 0) true = (part W m S N (j + 1)).2.1 := by
  refine mapr_set (fun hi => ?_) fun x hx hne => ?_
  · rw [sel_succ hj]; simp
  · rw [sel_succ hj, show (x == N.getD j 0) = false from beq_eq_false_iff_ne.2 hne, Bool.or_false]
theorem sel_mem {N : List Nat} {j x : Nat} (h : sel N j x = true) : x ∈ N := by
  unfold sel at h
  exact List.mem_of_mem_take (by simpa using h)
theorem sel_not {N : List Nat} (hd : N.Nodup) {j : Nat} (hj : j < N.length) : sel N j (N.getD j 0) = false := by
  cases e : sel N j (N.getD j 0) with
  | false => rfl
  | true =>
    unfold sel at e
    have hm : N.getD j 0 ∈ N.take j := by simpa using e
    obtain ⟨k, hk, e2⟩ := List.getElem_of_mem hm
    have hk2 : k < j := by simp at hk; omega
    rw [List.getElem_take] at e2
    have e3 : N[k]'(by omega) = N[j] := by simpa [List.getD_eq_getElem?_getD, hj] using e2
    exact absurd e3 (List.pairwise_iff_getElem.1 hd k j (by omega) hj hk2)
theorem part_val (h : SchOk W room F) (hN : RingL W F S N) {j : Nat} (hj : j < N.length) : hits W W.length S (sel N j) (sAt W S (N.getD j 0)).toNat = false ∧ (part W room.length S N j).1.getD (sAt W S (N.getD j 0)).toNat 0 = S.1.getD (sAt W S (N.getD j 0)).toNat 0 := by
  have hm := natD_mem hj
  have hs := hN.sc _ hm
  have hlt := (sAt_in (S := S) h (hN.lt _ hm)).1
  have hno : hits W W.length S (sel N j) (sAt W S (N.getD j 0)).toNat = false := by
    cases e : hits W W.length S (sel N j) (sAt W S (N.getD j 0)).toNat with
    | false => rfl
    | true =>
      obtain ⟨x, hx, e2⟩ := (hits_iff (fun x hx => hN.lt x (sel_mem hx))).1 e
      have : x = N.getD j 0 := hN.school_inj h (sel_mem hx) hm (by omega)
      rw [this, sel_not hN.nd hj] at hx; cases hx
  refine ⟨hno, ?_⟩
  show (mapr room.length _).getD _ 0 = _
  rw [mapr_getD _ (by omega), hno]; simp
theorem part_room (h : SchOk W room F) (hN : RingL W F S N) {j : Nat} (hj : j < N.length) : (part W room.length S N j).1.set (sAt W S (N.getD j 0)).toNat ((part W room.length S N j).1.getD (sAt W S (N.getD j 0)).toNat 0 - 1) = (part W room.length S N (j + 1)).1 := by
  have hm := natD_mem hj
  have hs := hN.sc _ hm
  have hlt := (sAt_in (S := S) h (hN.lt _ hm)).1
  have hno := (part_val h hN hj).1
  have hyes : hits W W.length S (sel N (j + 1)) (sAt W S (N.getD j 0)).toNat = true := (hits_iff (fun x hx => hN.lt x (sel_mem hx))).2 ⟨N.getD j 0, by rw [sel_succ hj]; simp, by omega⟩
  rw [(part_val h hN hj).2]
  refine mapr_set (fun hi => ?_) fun k hk hne => ?_
  · rw [hyes]; simp
  · have : hits W W.length S (sel N (j + 1)) k = hits W W.length S (sel N j) k := by
      rw [Bool.eq_iff_iff, hits_iff (fun x hx => hN.lt x (sel_mem hx)), hits_iff (fun x hx => hN.lt x (sel_mem hx))]
      constructor
      · rintro ⟨x, hx, e⟩
        rw [sel_succ hj, Bool.or_eq_true] at hx
        rcases hx with hx | hx
        · exact ⟨x, hx, e⟩
        · have : x = N.getD j 0 := by simpa using hx
          rw [this] at e; omega
      · rintro ⟨x, hx, e⟩
        exact ⟨x, by rw [sel_succ hj, hx]; rfl, e⟩
    rw [this]
theorem part_pos (h : SchOk W room F) (hl : Lens W.length room.length S) (hN : RingL W F S N) (hf : ∀ n, n ∈ S.1 → InR n) {j : Nat} (hj : j < N.length) : InR ((part W room.length S N j).1.getD (sAt W S (N.getD j 0)).toNat 0 - 1) := by
  have hm := natD_mem hj
  have hs := hN.sc _ hm
  have h1 := sAt_in (S := S) h (hN.lt _ hm)
  rw [(part_val h hN hj).2]
  have h2 := h1.2.2 hs
  have h3 := hf _ (getD_mem 0 (show (sAt W S (N.getD j 0)).toNat < S.1.length by rw [hl.1]; omega))
  unfold InR at h3 ⊢
  omega
@[simp] theorem part_len1 {m j : Nat} : (part W m S N j).1.length = m := by simp [part, ringTo]
@[simp] theorem part_len2 {m j : Nat} : (part W m S N j).2.1.length = W.length := by simp [part, ringTo]
@[simp] theorem part_len3 {m j : Nat} : (part W m S N j).2.2.length = W.length := by simp [part, ringTo]
theorem part_less (hN : RingL W F S N) {m : Nat} : leftN W.length (part W m S N N.length).2.1 < leftN W.length S.2.1 := left_less (fun x hx => hN.lt x (sel_all.1 hx)) (fun x hx => hN.here x (sel_all.1 hx)) ⟨N.getD 0 0, sel_all.2 (natD_mem hN.pos)⟩
end
/-! ### One round from i on -/
section
variable (W F : List (List Int)) (m : Nat) (S : Stt) (i : Nat)
/-- After how many it comes back. -/
def t0 : Nat := (firstI (fun t => orb (fS W F S) W.length i t (iter (fS W F S) (W.length + t) i)) (W.length + 1)).getD 0
def one (x y : Nat) : Bool := y == x
def rndF : Stt := match firstI (fun j => decide (sAt W S (iter (fS W F S) j i) < 0)) (W.length + t0 W F S i) with
  | some j => dropTo W.length S (one (iter (fS W F S) j i))
  | none => ringTo W W.length m S (sel (orbM (fS W F S) W.length i (t0 W F S i)) (t0 W F S i))
end
section
variable {W F : List (List Int)} {room : List Int} {S : Stt} {i : Nat}
theorem one_drop (h : SchOk W room F) {x : Nat} (hx : x < W.length) (hg : S.2.1.getD x false = false) (hs : sAt W S x < 0) : Mv W F W.length room.length S (dropTo W.length S (one x)) :=
  .drop _ ⟨x, by simp [one]⟩ ⟨fun y hy => by rw [show y = x by simpa [one] using hy]; exact hx, fun y hy => by rw [show y = x by simpa [one] using hy]; exact hg, fun y hy => by rw [show y = x by simpa [one] using hy]; exact sAt_neg h hx hs⟩
theorem orb_ring (h : SchOk W room F) (hi : i < W.length) (hg : S.2.1.getD i false = false) {t : Nat} (hN : orbN (fS W F S) W.length i t) (hin : orb (fS W F S) W.length i t (iter (fS W F S) (W.length + t) i) = true)
    (hs : ∀ j, j < W.length + t → ¬ sAt W S (iter (fS W F S) j i) < 0) : RingL W F S (orbM (fS W F S) W.length i t) := by
  have hit := iter_in (fS_good (S := S) h) hi hg
  have hoc := orb_close (fun j => (hit j).1) hN hin
  have hmem : ∀ x, x ∈ orbM (fS W F S) W.length i t ↔ orb (fS W F S) W.length i t x = true := fun x => orbM_mem
  refine ⟨by simpa [orbM] using hoc.1, fun x hx => ?_, fun x hx => ?_, fun x hx => ?_, fun x hx => (hmem _).2 (hoc.2.1 x ((hmem x).1 hx)), fun x y hx hy => hoc.2.2 x y ((hmem x).1 hx) ((hmem y).1 hy), ?_⟩
  · obtain ⟨a, ha, rfl⟩ := orb_iff.1 ((hmem x).1 hx); exact (hit _).1
  · obtain ⟨a, ha, rfl⟩ := orb_iff.1 ((hmem x).1 hx); exact (hit _).2
  · obtain ⟨a, ha, rfl⟩ := orb_iff.1 ((hmem x).1 hx); have := hs (W.length + a) (by omega); omega
  · unfold orbM mapr
    exact nodup_map_on List.nodup_range fun x y hx hy => hN x y (List.mem_range.1 hx) (List.mem_range.1 hy)
/-- One comes back at last. -/
theorem t0_spec (h : SchOk W room F) (hi : i < W.length) (hg : S.2.1.getD i false = false) : firstI (fun t => orb (fS W F S) W.length i t (iter (fS W F S) (W.length + t) i)) (W.length + 1) = some (t0 W F S i) := by
  have hit := iter_in (fS_good (S := S) h) hi hg
  obtain ⟨u, hu1, hu2, hu⟩ := iter_back (f := fS W F S) (i := i) (n := W.length) fun j _ => (hit j).1
  unfold t0
  cases e : firstI (fun t => orb (fS W F S) W.length i t (iter (fS W F S) (W.length + t) i)) (W.length + 1) with
  | some t => rfl
  | none =>
    have := firstI_none e u (by omega)
    have h2 : orb (fS W F S) W.length i u (iter (fS W F S) (W.length + u) i) = true := orb_iff.2 ⟨0, by omega, by rw [iter_add _ _ _ u, hu]; rfl⟩
    rw [h2] at this; cases this
theorem t0_of (h : SchOk W room F) (hi : i < W.length) (hg : S.2.1.getD i false = false) {t : Nat} (hno : ∀ s, s < t → orb (fS W F S) W.length i s (iter (fS W F S) (W.length + s) i) = false) (hin : orb (fS W F S) W.length i t (iter (fS W F S) (W.length + t) i) = true) : t0 W F S i = t := by
  have h1 := firstI_spec (t0_spec (S := S) h hi hg)
  rcases Nat.lt_trichotomy (t0 W F S i) t with h2 | h2 | h2
  · have h3 := hno _ h2; have h4 := h1.2.1; rw [h3] at h4; cases h4
  · exact h2
  · have := h1.2.2 t h2; rw [hin] at this; cases this
theorem t0_gt (h : SchOk W room F) (hi : i < W.length) (hg : S.2.1.getD i false = false) {t : Nat} (hno : ∀ s, s ≤ t → orb (fS W F S) W.length i s (iter (fS W F S) (W.length + s) i) = false) : t < t0 W F S i := by
  have h1 := firstI_spec (t0_spec (S := S) h hi hg)
  rcases Nat.lt_or_ge t (t0 W F S i) with h2 | h2
  · exact h2
  · have h3 := hno _ h2; have h4 := h1.2.1; rw [h3] at h4; cases h4
theorem t0_pos (h : SchOk W room F) (hi : i < W.length) (hg : S.2.1.getD i false = false) : 0 < t0 W F S i := t0_gt h hi hg fun s hs => by
  obtain rfl : s = 0 := by omega
  simp [orb]
theorem rndF_drop {k : Nat} {m : Nat} (hk : k < W.length + t0 W F S i) (hno : ∀ j, j < k → ¬ sAt W S (iter (fS W F S) j i) < 0) (hs : sAt W S (iter (fS W F S) k i) < 0) : rndF W F m S i = dropTo W.length S (one (iter (fS W F S) k i)) := by
  unfold rndF
  rw [firstI_stop (k := k) (firstI_of fun j hj => decide_eq_false (hno j hj)) (decide_eq_true hs) hk]
theorem rndF_ring {m t : Nat} (ht : t0 W F S i = t) (hno : ∀ j, j < W.length + t → ¬ sAt W S (iter (fS W F S) j i) < 0) : rndF W F m S i = part W m S (orbM (fS W F S) W.length i t) t := by
  unfold rndF
  rw [ht, firstI_of fun j hj => decide_eq_false (hno j hj)]
  rfl
theorem rndF_mv (h : SchOk W room F) (hi : i < W.length) (hg : S.2.1.getD i false = false) : Mv W F W.length room.length S (rndF W F room.length S i) := by
  have hit := iter_in (fS_good (S := S) h) hi hg
  have ht := t0_spec (S := S) h hi hg
  have h1 := firstI_spec ht
  unfold rndF
  cases e : firstI (fun j => decide (sAt W S (iter (fS W F S) j i) < 0)) (W.length + t0 W F S i) with
  | some j =>
    have := firstI_spec e
    exact one_drop h (hit j).1 (hit j).2 (by simpa using this.2.1)
  | none =>
    have h2 := firstI_none e
    have hN : orbN (fS W F S) W.length i (t0 W F S i) := by
      have key : ∀ t, t ≤ t0 W F S i → orbN (fS W F S) W.length i t := by
        intro t
        induction t with
        | zero => exact fun _ a b ha => absurd ha (Nat.not_lt_zero _)
        | succ t ih => exact fun hle => orbN_succ (ih (by omega)) (h1.2.2 t (by omega))
      exact key _ (Nat.le_refl _)
    have hr := orb_ring h hi hg hN h1.2.1 fun j hj => by simpa using h2 j hj
    have := hr.mv h
    simpa [orbM] using this
end
/-! ### All rounds -/
section
variable (W F : List (List Int)) (room : List Int)
def S0 : Stt := (room, List.replicate W.length false, List.replicate W.length 0)
noncomputable def schF : List Int := endF W F W.length room.length (S0 W room)
def SStar (S : Stt) : Prop := Lens W.length room.length S ∧ Star (Mv W F W.length room.length) (S0 W room) S
end
section
variable {W F : List (List Int)} {room : List Int} {S : Stt} {i : Nat}
theorem SStar.start : SStar W F room (S0 W room) := ⟨⟨rfl, by simp [S0], by simp [S0]⟩, .refl _⟩
theorem SStar.mv {T : Stt} (h : SStar W F room S) (hm : Mv W F W.length room.length S T) : SStar W F room T := ⟨hm.lens h.1, h.2.snoc hm⟩
theorem SStar.done (h : SStar W F room S) (ha : AllGone W.length S) : S.2.2 = schF W F room := endF_of (SStar.start (W := W) (F := F) (room := room)).1 h.2 ha
/-- Who can have nothing goes. -/
def dp (W : List (List Int)) (S : Stt) (i x : Nat) : Bool := decide (x < i) && (!S.2.1.getD x false && decide (sAt W S x < 0))
theorem dp_zero : dp W S 0 = fun _ => false := funext fun x => by simp [dp]
theorem drop_none (hl : Lens W.length room.length S) (p : Nat → Bool) (hp : ∀ x, x < W.length → p x = false) : dropTo W.length S p = S := by
  unfold dropTo
  have e2 : mapr W.length (fun x => S.2.1.getD x false || p x) = S.2.1 := by
    refine list_ext (d := false) (by simp [hl.2.1]) fun k hk => ?_
    rw [mapr_getD _ (by simpa using hk), hp k (by simpa using hk)]; simp
  have e3 : mapr W.length (fun x => if p x then -1 else S.2.2.getD x 0) = S.2.2 := by
    refine list_ext (d := 0) (by simp [hl.2.2]) fun k hk => ?_
    rw [mapr_getD _ (by simpa using hk), hp k (by simpa using hk)]; simp
  rw [e2, e3]
theorem dp_succ_yes {j : Nat} (h : S.2.1.getD j false = false ∧ sAt W S j < 0) : dp W S (j + 1) = union (dp W S j) (one j) := funext fun x => by
  unfold dp union one
  by_cases e : x = j
  · subst e; rw [h.1]; simp [h.2]
  · rw [show (x == j) = false from beq_eq_false_iff_ne.2 e, Bool.or_false, show decide (x < j + 1) = decide (x < j) from decide_eq_decide.2 (by omega)]
theorem dp_succ_no {j : Nat} (h : ¬ (S.2.1.getD j false = false ∧ sAt W S j < 0)) : dp W S (j + 1) = dp W S j := funext fun x => by
  unfold dp
  by_cases e : x = j
  · subst e
    have : (!S.2.1.getD x false && decide (sAt W S x < 0)) = false := by
      cases e1 : S.2.1.getD x false with
      | true => rfl
      | false => rw [decide_eq_false fun c => h ⟨e1, c⟩]; rfl
    rw [this]; simp
  · rw [show decide (x < j + 1) = decide (x < j) from decide_eq_decide.2 (by omega)]
theorem drop_set_gone {p : Nat → Bool} {j : Nat} (n : Nat) : (dropTo n S p).2.1.set j true = (dropTo n S (union p (one j))).2.1 := by
  refine mapr_set (fun hi => ?_) fun x hx hne => ?_
  · simp [union, one]
  · simp only [union, one, beq_eq_false_iff_ne.2 hne, Bool.or_false]
theorem drop_set_got {p : Nat → Bool} {j : Nat} (n : Nat) : (dropTo n S p).2.2.set j (-1) = (dropTo n S (union p (one j))).2.2 := by
  refine mapr_set (fun hi => ?_) fun x hx hne => ?_
  · simp [union, one]
  · simp only [union, one, beq_eq_false_iff_ne.2 hne, Bool.or_false]
theorem drop_gone_at {p : Nat → Bool} {j n : Nat} (hj : j < n) (hp : p j = false) : (dropTo n S p).2.1.getD j false = S.2.1.getD j false := by
  show (mapr n _).getD j false = _
  rw [mapr_getD _ hj, hp, Bool.or_false]
theorem dp_self {j : Nat} : dp W S j j = false := by unfold dp; rw [decide_eq_false (Nat.lt_irrefl j)]; rfl
@[simp] theorem drop_len2 {n : Nat} {p : Nat → Bool} : (dropTo n S p).2.1.length = n := by simp [dropTo]
@[simp] theorem drop_len3 {n : Nat} {p : Nat → Bool} : (dropTo n S p).2.2.length = n := by simp [dropTo]
def allDrop (W : List (List Int)) (S : Stt) : Stt := dropTo W.length S (dp W S W.length)
theorem allDrop_star (h : SchOk W room F) (hs : SStar W F room S) : SStar W F room (allDrop W S) := by
  by_cases hex : ∃ x, dp W S W.length x = true
  · refine hs.mv (.drop _ hex ⟨fun x hx => ?_, fun x hx => ?_, fun x hx => ?_⟩)
    · simp only [dp, Bool.and_eq_true, decide_eq_true_eq] at hx; exact hx.1
    · simp only [dp, Bool.and_eq_true, Bool.not_eq_true', decide_eq_true_eq] at hx; exact hx.2.1
    · simp only [dp, Bool.and_eq_true, Bool.not_eq_true', decide_eq_true_eq] at hx; exact sAt_neg h hx.1 hx.2.2
  · have : allDrop W S = S := drop_none hs.1 _ fun x _ => by
      cases e : dp W S W.length x with
      | false => rfl
      | true => exact absurd ⟨x, e⟩ hex
    rw [this]; exact hs
theorem leftN_mono {n : Nat} {g g' : List Bool} (h : ∀ x, x < n → g.getD x false = true → g'.getD x false = true) : leftN n g' ≤ leftN n g := by
  unfold leftN
  have key : ∀ l : List Nat, (∀ x, x ∈ l → x < n) → (l.filter fun x => !g'.getD x false).length ≤ (l.filter fun x => !g.getD x false).length := by
    intro l
    induction l with
    | nil => simp
    | cons a l ih =>
      intro hl
      have h1 := ih fun x hx => hl x (List.mem_cons_of_mem _ hx)
      have h2 := h a (hl a List.mem_cons_self)
      simp only [List.filter_cons]
      cases e : g.getD a false with
      | true => rw [h2 e]; simpa using h1
      | false => cases e2 : g'.getD a false <;> simp only [Bool.not_false, Bool.not_true, ↓reduceIte, List.length_cons, Bool.false_eq_true] <;> omega
  exact key _ fun x hx => List.mem_range.1 hx
theorem allDrop_left : leftN W.length (allDrop W S).2.1 ≤ leftN W.length S.2.1 := leftN_mono fun x hx hg => by
  show (mapr W.length _).getD x false = true
  rw [mapr_getD _ hx, hg]; rfl
theorem allDrop_sAt (W : List (List Int)) (S : Stt) (x : Nat) : sAt W (allDrop W S) x = sAt W S x := rfl
theorem allDrop_sc (hl : Lens W.length room.length S) {x : Nat} (hx : x < W.length) (hg : (allDrop W S).2.1.getD x false = false) : 0 ≤ sAt W (allDrop W S) x := by
  have e : (allDrop W S).2.1.getD x false = (S.2.1.getD x false || dp W S W.length x) := by
    show (mapr W.length _).getD x false = _
    rw [mapr_getD _ hx]
  rw [e, Bool.or_eq_false_iff] at hg
  rw [allDrop_sAt]
  by_cases h : sAt W S x < 0
  · have h2 := hg.2
    unfold dp at h2
    rw [hg.1, decide_eq_true h, decide_eq_true hx] at h2
    cases h2
  · omega
theorem cyc_ring (h : SchOk W room F) (hs : ∀ x, x < W.length → S.2.1.getD x false = false → 0 ≤ sAt W S x) (hp : 0 < (cycN (fS W F S) W.length S.2.1 W.length).length) : RingL W F S (cycN (fS W F S) W.length S.2.1 W.length) := by
  have hcc := cyc_close (fS_good (S := S) h)
  refine ⟨hp, fun x hx => (cyc_iff.1 (cycN_mem.1 hx)).1, fun x hx => (cyc_iff.1 (cycN_mem.1 hx)).2.1, fun x hx => hs x (cyc_iff.1 (cycN_mem.1 hx)).1 (cyc_iff.1 (cycN_mem.1 hx)).2.1, fun x hx => cycN_mem.2 (hcc.1 x (cycN_mem.1 hx)), fun x y hx hy => hcc.2 x y (cycN_mem.1 hx) (cycN_mem.1 hy), cycN_nodup⟩
end

theorem one_got {W : List (List Int)} {room : List Int} {S : Stt} (hl : Lens W.length room.length S) {x : Nat} : S.2.2.set x (-1) = (dropTo W.length S (one x)).2.2 := by
  refine list_ext (d := 0) (by simp [hl.2.2]) fun k hk => ?_
  have hk2 : k < W.length := by have := hl.2.2; simpa [this] using hk
  show _ = (mapr W.length _).getD k 0
  rw [mapr_getD _ hk2]
  by_cases e : k = x
  · subst e; simp [one, List.getD_eq_getElem?_getD, hl.2.2, hk2]
  · have e2 : ¬ x = k := fun c => e c.symm
    simp [one, e, e2, List.getD_eq_getElem?_getD, List.getElem?_set]
theorem one_gone {W : List (List Int)} {room : List Int} {S : Stt} (hl : Lens W.length room.length S) {x : Nat} : S.2.1.set x true = (dropTo W.length S (one x)).2.1 := by
  refine list_ext (d := false) (by simp [hl.2.1]) fun k hk => ?_
  have hk2 : k < W.length := by have := hl.2.1; simpa [this] using hk
  show _ = (mapr W.length _).getD k false
  rw [mapr_getD _ hk2]
  by_cases e : k = x
  · subst e; simp [one, List.getD_eq_getElem?_getD, hl.2.1, hk2]
  · have e2 : ¬ x = k := fun c => e c.symm
    simp [one, e, e2, List.getD_eq_getElem?_getD, List.getElem?_set]
theorem sF_idx {l rm : List Int} (h : ¬ idxF l (fun x => decide (0 < rm.getD x.toNat 0)) < 0) : l.getD (idxF l (fun x => decide (0 < rm.getD x.toNat 0))).toNat 0 = sF l rm := by
  unfold idxF sF at *
  cases e : firstI (fun i => decide (0 < rm.getD (l.getD i 0).toNat 0)) l.length with
  | some i => simp
  | none => rw [e] at h; simp at h
theorem sF_neg {l rm : List Int} (h : idxF l (fun x => decide (0 < rm.getD x.toNat 0)) < 0) : -1 = sF l rm := by
  unfold idxF sF at *
  cases e : firstI (fun i => decide (0 < rm.getD (l.getD i 0).toNat 0)) l.length with
  | some i => rw [e] at h; simp only at h; omega
  | none => rfl
theorem sch_ins {W F : List (List Int)} {room : List Int} {S : Stt} (h : SchOk W room F) (hl : Lens W.length room.length S) {x : Nat} (hx : x < W.length) : Ins S.1.length (W.getD x []) := fun v hv => by
  obtain ⟨j, hj, e⟩ := List.getElem_of_mem hv
  have := someE_in (h.ws x hx) hj
  rw [List.getD_eq_getElem?_getD, List.getElem?_eq_getElem hj, Option.getD_some, e] at this
  rw [hl.1]; exact this
theorem idxB_lt {l : List Bool} (h : 0 ≤ idxB l false) : idxB l false < (l.length : Int) := by have := (idxB_some h).1; omega
def getsL (W F : List (List Int)) (S : Stt) (i t : Nat) : List Int := mapr t fun j => sAt W S (iter (fS W F S) (W.length + j) i)
@[simp] theorem getsL_length (W F : List (List Int)) (S : Stt) (i t : Nat) : (getsL W F S i t).length = t := by simp [getsL]
theorem getsL_snoc (W F : List (List Int)) (S : Stt) (i t : Nat) : getsL W F S i t ++ [sAt W S (iter (fS W F S) (W.length + t) i)] = getsL W F S i (t + 1) := (mapr_succ t _).symm
def takeL (W : List (List Int)) (S : Stt) (N : List Nat) (j : Nat) : List Int := mapr j fun k => sAt W S (N.getD k 0)
@[simp] theorem takeL_length (W : List (List Int)) (S : Stt) (N : List Nat) (j : Nat) : (takeL W S N j).length = j := by simp [takeL]

theorem ref_round {W F : List (List Int)} {room : List Int} {S : Stt} (h : SchOk W room F) (hs : SStar W F room S) :
    SStar W F room (part W room.length (allDrop W S) (cycN (fS W F (allDrop W S)) W.length (allDrop W S).2.1 W.length) (cycN (fS W F (allDrop W S)) W.length (allDrop W S).2.1 W.length).length) ∧
    (leftN W.length (part W room.length (allDrop W S) (cycN (fS W F (allDrop W S)) W.length (allDrop W S).2.1 W.length) (cycN (fS W F (allDrop W S)) W.length (allDrop W S).2.1 W.length).length).2.1 < leftN W.length S.2.1 ∨
     leftN W.length (part W room.length (allDrop W S) (cycN (fS W F (allDrop W S)) W.length (allDrop W S).2.1 W.length) (cycN (fS W F (allDrop W S)) W.length (allDrop W S).2.1 W.length).length).2.1 = 0) := by
  have hT := allDrop_star h hs
  have hd := allDrop_left (W := W) (S := S)
  by_cases hp : 0 < (cycN (fS W F (allDrop W S)) W.length (allDrop W S).2.1 W.length).length
  · have hR := cyc_ring h (fun x hx hg => allDrop_sc hs.1 hx hg) hp
    refine ⟨hT.mv (hR.mv h), .inl ?_⟩
    have := part_less (m := room.length) hR
    omega
  · have h0 : (cycN (fS W F (allDrop W S)) W.length (allDrop W S).2.1 W.length).length = 0 := by omega
    rw [h0, part_zero hT.1]
    refine ⟨hT, .inr ?_⟩
    rcases Nat.eq_zero_or_pos (leftN W.length (allDrop W S).2.1) with h1 | h1
    · exact h1
    · exact absurd (cycN_pos (fS_good (S := allDrop W S) h) h1) hp

theorem schoolFirst_fc (W F : List (List Int)) (room : List Int) (S : Stt) (hok : SchOk W room F) (hl : Lens W.length room.length S) (x : Nat) (hx : x < W.length) (hs : 0 ≤ sAt W S x) : FC Try.prog 32 [.rows W, .ints S.1, .rows F, .seq Bool false (fun b => [.bool b]) S.2.1, .i (x : Nat)] (.i (nxt W F S x)) := by
  refine FC.intro Try.func32 rfl (Nat.le_of_ble_eq_true rfl) fun hfit => ?_
  obtain ⟨fitl0, fitr0⟩ := (hfit _ (.head _)).rows
  obtain ⟨fitl1, fitr1⟩ := (hfit _ (.tail _ (.head _))).ints
  obtain ⟨fitl2, fitr2⟩ := (hfit _ (.tail _ (.tail _ (.head _)))).rows
  have fit3 := hfit _ (.tail _ (.tail _ (.tail _ (.head _))))
  have fit4 : -9223372036854775808 ≤ ((x : Nat) : Int) ∧ ((x : Nat) : Int) ≤ 9223372036854775807 := (hfit _ (.tail _ (.tail _ (.tail _ (.tail _ (.head _)))))).int64
  have hin := sAt_in (S := S) hok hx
  have hfl := hok.fl
  unfold sAt at hin hs
  refine awp_seq ?_
  refine awp_region rfl (.n (fun _ => op_assign (.plain rfl)) (.nil _)) ?_
  refine awp_seq ?_
  refine awp_region rfl (.n (fun _ => op_move (.plain rfl)) (.n (fun _ => op_move (.plain rfl)) (.n (fun _ => op_indexAddrN Try.underlying22 Try.sizeOf23 (.plain rfl) (.plain rfl) (fun _ => rfl) ?_) (.n (fun _ => op_load Try.isAgg23 (.plain rfl)) (.n (fun _ => op_move (.plain rfl)) (.n (fun _ => op_call2 Try.call31 (.plain rfl) (.plain rfl) (school_fc _ _ ?_)) (.n (fun _ => op_assign (.plain rfl)) (.nil _)))))))) ?_
  · omega
  · exact sch_ins hok hl hx
  refine awp_seq ?_
  refine awp_region rfl (.n (fun _ => op_move (.plain rfl)) (.n (fun _ => op_move (.plain rfl)) (.n (fun _ => op_indexAddr Try.underlying22 Try.sizeOf23 (.plain rfl) (.plain rfl) (fun _ => rfl) ?_) (.n (fun _ => op_load Try.isAgg23 (.plain rfl)) (.n (fun _ => op_move (.plain rfl)) (.n (fun _ => op_call2 Try.call35 (.plain rfl) (.plain rfl) (bestLeft_fc _ _ ?_)) (.n (fun _ => op_assign (.plain rfl)) (.nil _)))))))) ?_
  · omega
  · rw [hl.2.1]; exact ord_ins (hok.fs _ (by omega))
  refine awp_ret ?_
  refine retQ.ret ?_
  refine ret1 rfl rfl rfl ?_
  rfl

theorem pts1_fch (W F : List (List Int)) (room : List Int) (S : Stt) (hok : SchOk W room F) (hl : Lens W.length room.length S) (x : Int) (hx : 0 ≤ x ∧ x < (S.1.length : Int)) : FCH Try.prog 48 [.pv (.i x), .ref 0 0] [(0, .box [.ref 50 0]), (50, .box [.pv (.rows W), .own 51, .pv (.rows F), .own 52, .own 53]), (51, .arr 3 1 Int 0 (fun n => [.int .i64 n]) (S.1)), (52, .arr 3 1 Int 0 (fun n => [.int .i64 n]) (S.2.2)), (53, .arr 4 1 Bool false (fun b => [.bool b]) (S.2.1))] [(0, .box [.ref 50 0]), (50, .box [.pv (.rows W), .own 51, .pv (.rows F), .own 52, .own 53]), (51, .arr 3 1 Int 0 (fun n => [.int .i64 n]) (S.1)), (52, .arr 3 1 Int 0 (fun n => [.int .i64 n]) (S.2.2)), (53, .arr 4 1 Bool false (fun b => [.bool b]) (S.2.1))] (.pv (.bool (decide (0 < S.1.getD x.toNat 0)))) none := by
  refine FCH.intro Try.func48 rfl (Nat.le_of_ble_eq_true rfl) (Nat.le_of_ble_eq_true rfl) fun hfit ι0 => ?_
  change awp _ _ _ _ ⟨[(0, .pv (.i x)), (1, .ref 0 0), (1000000, .pin 0 (ι0 0)), (1000050, .pin 50 (ι0 50)), (1000051, .pin 51 (ι0 51)), (1000052, .pin 52 (ι0 52)), (1000053, .pin 53 (ι0 53))], [(0, .box [.ref 50 0]), (50, .box [.pv (.rows W), .own 51, .pv (.rows F), .own 52, .own 53]), (51, .arr 3 1 Int 0 (fun n => [.int .i64 n]) (S.1)), (52, .arr 3 1 Int 0 (fun n => [.int .i64 n]) (S.2.2)), (53, .arr 4 1 Bool false (fun b => [.bool b]) (S.2.1))]⟩
  have fit0 : -9223372036854775808 ≤ (x : Int) ∧ (x : Int) ≤ 9223372036854775807 := (hfit _ (.head _)).int64
  refine awp_seq ?_
  refine awp_region rfl (.n (fun _ => op_assign (.plain rfl)) (.nil _)) ?_
  refine awp_seq ?_
  refine awp_region rfl (.r (op_loadR Try.isAgg43 (.plain rfl) rfl rfl) (.n (fun _ => op_nilCheckR (.plain rfl)) (.n (fun _ => op_fieldAddrR Try.underlying47 rfl rfl Try.sizeOf23 (.plain rfl)) (.r (op_loadR Try.isAgg23 (.plain rfl) rfl rfl) (.n (fun _ => op_move (.plain rfl)) (.r (op_indexAddrO Try.underlying23 Try.sizeOf3 (.plain rfl) rfl (.plain rfl) ?_) (.r (op_loadE Try.isAgg3 (.plain rfl) rfl (fun _ => rfl) ?_ rfl) (.n (fun _ => op_gtr (.plain rfl) (.plain rfl)) (.n (fun _ => op_assign (.plain rfl)) (.nil _)))))))))) ?_
  · first | omega | (simp; omega)
  · first | omega | (simp; omega)
  refine awp_ret ?_
  refine retH.ret ?_
  refine retH1 rfl rfl ⟨rfl, rfl, rfl, rfl, rfl, trivial⟩ ⟨.inr rfl, .inr rfl, .inr rfl, .inr rfl, .inr rfl, trivial⟩ ?_
  rfl

theorem IndexFunc_fch (W F : List (List Int)) (room : List Int) (S : Stt) (hok : SchOk W room F) (hl : Lens W.length room.length S) (l : List Int) (hin : Ins S.1.length l) : FCH Try.prog 44 [.pv (.ints l), .clo (.func 48) [.ref 0 0]] [(0, .box [.ref 50 0]), (50, .box [.pv (.rows W), .own 51, .pv (.rows F), .own 52, .own 53]), (51, .arr 3 1 Int 0 (fun n => [.int .i64 n]) (S.1)), (52, .arr 3 1 Int 0 (fun n => [.int .i64 n]) (S.2.2)), (53, .arr 4 1 Bool false (fun b => [.bool b]) (S.2.1))] [(0, .box [.ref 50 0]), (50, .box [.pv (.rows W), .own 51, .pv (.rows F), .own 52, .own 53]), (51, .arr 3 1 Int 0 (fun n => [.int .i64 n]) (S.1)), (52, .arr 3 1 Int 0 (fun n => [.int .i64 n]) (S.2.2)), (53, .arr 4 1 Bool false (fun b => [.bool b]) (S.2.1))] (.pv (.i (idxF l (fun x => decide (0 < S.1.getD x.toNat 0))))) none := by
  refine FCH.intro Try.func44 rfl (Nat.le_of_ble_eq_true rfl) (Nat.le_of_ble_eq_true rfl) fun hfit ι0 => ?_
  change awp _ _ _ _ ⟨[(0, .pv (.ints l)), (1, .clo (.func 48) [.ref 0 0]), (1000000, .pin 0 (ι0 0)), (1000050, .pin 50 (ι0 50)), (1000051, .pin 51 (ι0 51)), (1000052, .pin 52 (ι0 52)), (1000053, .pin 53 (ι0 53))], [(0, .box [.ref 50 0]), (50, .box [.pv (.rows W), .own 51, .pv (.rows F), .own 52, .own 53]), (51, .arr 3 1 Int 0 (fun n => [.int .i64 n]) (S.1)), (52, .arr 3 1 Int 0 (fun n => [.int .i64 n]) (S.2.2)), (53, .arr 4 1 Bool false (fun b => [.bool b]) (S.2.1))]⟩
  obtain ⟨fitl0, fitr0⟩ := (hfit _ (.head _)).ints
  refine awp_seq ?_
  refine awp_region rfl (.n (fun _ => op_assign (.plain rfl)) (.nil _)) ?_
  refine awp_seq ?_
  refine awp_seq ?_
  refine awp_region rfl (.n (fun _ => op_move (.plain rfl)) (.n (fun _ => op_len (s := 0) Try.underlying23 (.plain rfl)) (.n (fun _ => op_move (.plain rfl)) (.nil _)))) ?_
  refine awp_block ?_
  refine awp_loop (σ := Nat) (fun (k : Nat) => k ≤ l.length ∧ firstI (fun i => (fun x => decide (0 < S.1.getD x.toNat 0)) (l.getD i 0)) k = none) (fun (k : Nat) => ⟨[(0, .pv (.ints l)), (1, .clo (.func 48) [.ref 0 0]), (6, .pv (.ints l)), (7, .int (l.length : Nat)), (8, .int (k : Nat)), (1000000, .pin 0 (ι0 0)), (1000050, .pin 50 (ι0 50)), (1000051, .pin 51 (ι0 51)), (1000052, .pin 52 (ι0 52)), (1000053, .pin 53 (ι0 53))], [(0, .box [.ref 50 0]), (50, .box [.pv (.rows W), .own 51, .pv (.rows F), .own 52, .own 53]), (51, .arr 3 1 Int 0 (fun n => [.int .i64 n]) (S.1)), (52, .arr 3 1 Int 0 (fun n => [.int .i64 n]) (S.2.2)), (53, .arr 4 1 Bool false (fun b => [.bool b]) (S.2.1))]⟩) (fun (k : Nat) => l.length - k) 0 ?_ (Ent.kept ⟨rfl, rfl, rfl, rfl, rfl, rfl, rfl, rfl, rfl, rfl, trivial⟩ ⟨rfl, rfl, rfl, rfl, rfl, trivial⟩) ?_
  · exact ⟨Nat.zero_le _, rfl⟩
  rintro k hp
  try dsimp only at hp
  obtain ⟨hk, hE⟩ := hp
  refine awp_seq ?_
  refine awp_region rfl (.n (fun _ => op_lss (.plain rfl) (.plain rfl)) (.nil _)) ?_
  refine awp_seq ?_
  refine awp_cond rfl (fun h => ?_) (fun h => ?_)
  · try simp only [decide_eq_true_eq, decide_eq_false_iff_not, Bool.and_eq_true, Bool.or_eq_true, Bool.and_eq_false_iff, Bool.or_eq_false_iff, Bool.not_eq_true', Bool.not_eq_false', Bool.not_eq_true, Bool.not_eq_false, Bool.true_eq_false, Bool.false_eq_true] at h
    refine awp_skip ?_
    refine awp_seq ?_
    refine awp_block ?_
    refine awp_seq ?_
    refine awp_region rfl (.n (fun _ => op_move (.plain rfl)) (.n (fun _ => op_assign (.plain rfl)) (.nil _))) ?_
    refine awp_seq ?_
    refine awp_region rfl (.n (fun _ => op_move (.plain rfl)) (.n (fun _ => op_move (.plain rfl)) (.n (fun _ => op_move (.plain rfl)) (.n (fun _ => op_indexAddrN Try.underlying23 Try.sizeOf3 (.plain rfl) (.plain rfl) (fun _ => rfl) ?_) (.n (fun _ => op_load Try.isAgg3 (.plain rfl)) (.r (op_callVHR (ags := [_]) (fun k => [0, 0, 0, 0, 0, 0, 0, 0, 0, 0, 0, 0, 0, 0, 0, 0, 0, 0, 0, 0, 0, 0, 0, 0, 0, 0, 0, 0, 0, 0, 0, 0, 0, 0, 0, 0, 0, 0, 0, 0, 0, 0, 0, 0, 0, 0, 0, 0, 0, 0, 50, 51, 52, 53].getD k 0) Try.call48 (pts1_fch _ _ _ _ hok hl _ ?_) (.plain rfl) ⟨(.plain rfl), trivial⟩ ⟨rfl, rfl, rfl, rfl, rfl, trivial⟩ (by kernel_rfl)) (.nil _))))))) ?_
    · omega
    · exact hin.at (by omega)
    refine awp_cond rfl (fun h => ?_) (fun h => ?_)
    · try simp only [decide_eq_true_eq, decide_eq_false_iff_not, Bool.and_eq_true, Bool.or_eq_true, Bool.and_eq_false_iff, Bool.or_eq_false_iff, Bool.not_eq_true', Bool.not_eq_false', Bool.not_eq_true, Bool.not_eq_false, Bool.true_eq_false, Bool.false_eq_true] at h
      refine awp_seq ?_
      refine awp_region rfl (.n (fun _ => op_move (.plain rfl)) (.n (fun _ => op_assign (.plain rfl)) (.nil _))) ?_
      refine awp_ret ?_
      refine retH.ret ?_
      refine retH1 rfl rfl ⟨rfl, rfl, rfl, rfl, rfl, trivial⟩ ⟨.inr rfl, .inr rfl, .inr rfl, .inr rfl, .inr rfl, trivial⟩ ?_
      exact congrArg (fun x => SV.pv (.i x)) (by unfold idxF; rw [firstI_stop hE (decide_eq_true (by omega)) (by omega)])
    · try simp only [decide_eq_true_eq, decide_eq_false_iff_not, Bool.and_eq_true, Bool.or_eq_true, Bool.and_eq_false_iff, Bool.or_eq_false_iff, Bool.not_eq_true', Bool.not_eq_false', Bool.not_eq_true, Bool.not_eq_false, Bool.true_eq_false, Bool.false_eq_true] at h
      refine awp_skip ?_
      refine awp_region rfl (.n (fun _ => op_add (.plain rfl) (.plain rfl) ?_) (.n (fun _ => op_move (.plain rfl)) (.nil _))) ?_
      · unfold InR; omega
      exact ⟨k + 1, ⟨by omega, firstI_succ hE (decide_eq_false (by omega))⟩, by dsimp only; omega, (Ent.kept ⟨rfl, rfl, rfl, rfl, rfl, rfl, rfl, rfl, rfl, rfl, trivial⟩ ⟨rfl, rfl, rfl, rfl, rfl, trivial⟩)⟩
  · try simp only [decide_eq_true_eq, decide_eq_false_iff_not, Bool.and_eq_true, Bool.or_eq_true, Bool.and_eq_false_iff, Bool.or_eq_false_iff, Bool.not_eq_true', Bool.not_eq_false', Bool.not_eq_true, Bool.not_eq_false, Bool.true_eq_false, Bool.false_eq_true] at h
    refine awp_exit ?_
    refine awp_seq ?_
    refine awp_region rfl (.n (fun _ => op_assign (.plain rfl)) (.nil _)) ?_
    refine awp_ret ?_
    refine retH.ret ?_
    refine retH1 rfl rfl ⟨rfl, rfl, rfl, rfl, rfl, trivial⟩ ⟨.inr rfl, .inr rfl, .inr rfl, .inr rfl, .inr rfl, trivial⟩ ?_
    obtain rfl : k = l.length := by omega
    exact congrArg (fun x => SV.pv (.i x)) (by unfold idxF; rw [hE])

theorem points_fch (W F : List (List Int)) (room : List Int) (S : Stt) (hok : SchOk W room F) (hl : Lens W.length room.length S) (x : Nat) (hx : x < W.length) : FCH Try.prog 42 [.ref 50 0, .pv (.i (x : Nat))] [(50, .box [.pv (.rows W), .own 51, .pv (.rows F), .own 52, .own 53]), (51, .arr 3 1 Int 0 (fun n => [.int .i64 n]) (S.1)), (52, .arr 3 1 Int 0 (fun n => [.int .i64 n]) (S.2.2)), (53, .arr 4 1 Bool false (fun b => [.bool b]) (S.2.1))] [(50, .box [.pv (.rows W), .own 51, .pv (.rows F), .own 52, .own 53]), (51, .arr 3 1 Int 0 (fun n => [.int .i64 n]) (S.1)), (52, .arr 3 1 Int 0 (fun n => [.int .i64 n]) (S.2.2)), (53, .arr 4 1 Bool false (fun b => [.bool b]) (S.2.1))] (.pv (.i (sAt W S x))) none := by
  refine FCH.intro Try.func42 rfl (Nat.le_of_ble_eq_true rfl) (Nat.le_of_ble_eq_true rfl) fun hfit ι0 => ?_
  change awp _ _ _ _ ⟨[(0, .ref 50 0), (1, .pv (.i (x : Nat))), (1000050, .pin 50 (ι0 50)), (1000051, .pin 51 (ι0 51)), (1000052, .pin 52 (ι0 52)), (1000053, .pin 53 (ι0 53))], [(50, .box [.pv (.rows W), .own 51, .pv (.rows F), .own 52, .own 53]), (51, .arr 3 1 Int 0 (fun n => [.int .i64 n]) (S.1)), (52, .arr 3 1 Int 0 (fun n => [.int .i64 n]) (S.2.2)), (53, .arr 4 1 Bool false (fun b => [.bool b]) (S.2.1))]⟩
  have fit1 : -9223372036854775808 ≤ ((x : Nat) : Int) ∧ ((x : Nat) : Int) ≤ 9223372036854775807 := (hfit _ (.tail _ (.head _))).int64
  refine awp_seq ?_
  refine awp_region rfl (.e (op_boxH 2 (.plain rfl) rfl rfl rfl (fun _ h => by cases h) (fun _ h => by cases h)) rfl (.n (fun _ => op_assign (.plain rfl)) (.nil _))) ?_
  refine awp_seq ?_
  refine awp_region rfl (.r (op_loadR Try.isAgg43 (.plain rfl) rfl rfl) (.n (fun _ => op_nilCheckR (.plain rfl)) (.n (fun _ => op_fieldAddrR Try.underlying47 rfl rfl Try.sizeOf22 (.plain rfl)) (.r (op_loadR Try.isAgg22 (.plain rfl) rfl rfl) (.n (fun _ => op_move (.plain rfl)) (.n (fun _ => op_indexAddrN Try.underlying22 Try.sizeOf23 (.plain rfl) (.plain rfl) (fun _ => rfl) ?_) (.n (fun _ => op_load Try.isAgg23 (.plain rfl)) (.n (fun _ => op_makeFuncS (cs := [_]) ⟨(.plain rfl), trivial⟩) (.r (op_callHR (fun k => [2, 0, 0, 0, 0, 0, 0, 0, 0, 0, 0, 0, 0, 0, 0, 0, 0, 0, 0, 0, 0, 0, 0, 0, 0, 0, 0, 0, 0, 0, 0, 0, 0, 0, 0, 0, 0, 0, 0, 0, 0, 0, 0, 0, 0, 0, 0, 0, 0, 0, 50, 51, 52, 53].getD k 0) Try.call44 (IndexFunc_fch _ _ _ _ hok hl _ ?_) ⟨(.plain rfl), (.plain rfl), trivial⟩ ⟨rfl, rfl, rfl, rfl, rfl, trivial⟩ (by kernel_rfl)) (.n (fun _ => op_assign (.plain rfl)) (.nil _))))))))))) ?_
  · omega
  · exact sch_ins hok hl hx
  refine awp_seq ?_
  refine awp_seq ?_
  refine awp_region rfl (.n (fun _ => op_move (.plain rfl)) (.n (fun _ => op_lss (.plain rfl) (.plain rfl)) (.nil _))) ?_
  refine awp_cond rfl (fun h => ?_) (fun h => ?_)
  · try simp only [decide_eq_true_eq, decide_eq_false_iff_not, Bool.and_eq_true, Bool.or_eq_true, Bool.and_eq_false_iff, Bool.or_eq_false_iff, Bool.not_eq_true', Bool.not_eq_false', Bool.not_eq_true, Bool.not_eq_false, Bool.true_eq_false, Bool.false_eq_true] at h
    refine awp_seq ?_
    refine awp_region rfl (.n (fun _ => op_assign (.plain rfl)) (.nil _)) ?_
    refine awp_ret ?_
    refine retH.ret ?_
    refine retH1 rfl rfl ⟨rfl, rfl, rfl, rfl, trivial⟩ ⟨.inr rfl, .inr rfl, .inr rfl, .inr rfl, trivial⟩ ?_
    exact congrArg (fun x => SV.pv (.i x)) (sF_neg (by omega))
  · try simp only [decide_eq_true_eq, decide_eq_false_iff_not, Bool.and_eq_true, Bool.or_eq_true, Bool.and_eq_false_iff, Bool.or_eq_false_iff, Bool.not_eq_true', Bool.not_eq_false', Bool.not_eq_true, Bool.not_eq_false, Bool.true_eq_false, Bool.false_eq_true] at h
    refine awp_skip ?_
    refine awp_seq ?_
    refine awp_region rfl (.r (op_loadR Try.isAgg43 (.plain rfl) rfl rfl) (.n (fun _ => op_nilCheckR (.plain rfl)) (.n (fun _ => op_fieldAddrR Try.underlying47 rfl rfl Try.sizeOf22 (.plain rfl)) (.r (op_loadR Try.isAgg22 (.plain rfl) rfl rfl) (.n (fun _ => op_move (.plain rfl)) (.n (fun _ => op_indexAddrN Try.underlying22 Try.sizeOf23 (.plain rfl) (.plain rfl) (fun _ => rfl) ?_) (.n (fun _ => op_load Try.isAgg23 (.plain rfl)) (.n (fun _ => op_move (.plain rfl)) (.n (fun _ => op_indexAddr Try.underlying23 Try.sizeOf3 (.plain rfl) (.plain rfl) (fun _ => rfl) ?_) (.n (fun _ => op_load Try.isAgg3 (.plain rfl)) (.n (fun _ => op_assign (.plain rfl)) (.nil _)))))))))))) ?_
    · omega
    · have := idxF_le (l := W.getD x []) (p := (fun x => decide (0 < S.1.getD x.toNat 0))); omega
    refine awp_ret ?_
    refine retH.ret ?_
    refine retH1 rfl rfl ⟨rfl, rfl, rfl, rfl, trivial⟩ ⟨.inr rfl, .inr rfl, .inr rfl, .inr rfl, trivial⟩ ?_
    exact congrArg (fun x => SV.pv (.i x)) (sF_idx (by omega))

theorem first_fch (W F : List (List Int)) (room : List Int) (S : Stt) (hok : SchOk W room F) (hl : Lens W.length room.length S) (k : Int) (hk : 0 ≤ k ∧ k < (room.length : Int)) (hb : 0 ≤ bestF (F.getD k.toNat []) S.2.1) : FCH Try.prog 43 [.ref 50 0, .pv (.i k)] [(50, .box [.pv (.rows W), .own 51, .pv (.rows F), .own 52, .own 53]), (51, .arr 3 1 Int 0 (fun n => [.int .i64 n]) (S.1)), (52, .arr 3 1 Int 0 (fun n => [.int .i64 n]) (S.2.2)), (53, .arr 4 1 Bool false (fun b => [.bool b]) (S.2.1))] [(50, .box [.pv (.rows W), .own 51, .pv (.rows F), .own 52, .own 53]), (51, .arr 3 1 Int 0 (fun n => [.int .i64 n]) (S.1)), (52, .arr 3 1 Int 0 (fun n => [.int .i64 n]) (S.2.2)), (53, .arr 4 1 Bool false (fun b => [.bool b]) (S.2.1))] (.pv (.i (bestF (F.getD k.toNat []) S.2.1))) none := by
  refine FCH.intro Try.func43 rfl (Nat.le_of_ble_eq_true rfl) (Nat.le_of_ble_eq_true rfl) fun hfit ι0 => ?_
  change awp _ _ _ _ ⟨[(0, .ref 50 0), (1, .pv (.i k)), (1000050, .pin 50 (ι0 50)), (1000051, .pin 51 (ι0 51)), (1000052, .pin 52 (ι0 52)), (1000053, .pin 53 (ι0 53))], [(50, .box [.pv (.rows W), .own 51, .pv (.rows F), .own 52, .own 53]), (51, .arr 3 1 Int 0 (fun n => [.int .i64 n]) (S.1)), (52, .arr 3 1 Int 0 (fun n => [.int .i64 n]) (S.2.2)), (53, .arr 4 1 Bool false (fun b => [.bool b]) (S.2.1))]⟩
  have fit1 : -9223372036854775808 ≤ (k : Int) ∧ (k : Int) ≤ 9223372036854775807 := (hfit _ (.tail _ (.head _))).int64
  have hfl := hok.fl
  refine awp_seq ?_
  refine awp_region rfl (.n (fun _ => op_assign (.plain rfl)) (.nil _)) ?_
  refine awp_seq ?_
  refine awp_region_draw mixed rfl (.n (fun _ => op_move (.plain rfl)) (.n (fun _ => op_nilCheckR (.plain rfl)) (.n (fun _ => op_fieldAddrR Try.underlying47 rfl rfl Try.sizeOf22 (.plain rfl)) (.r (op_loadR Try.isAgg22 (.plain rfl) rfl rfl) (.n (fun _ => op_move (.plain rfl)) (.n (fun _ => op_indexAddr Try.underlying22 Try.sizeOf23 (.plain rfl) (.plain rfl) (fun _ => rfl) ?_) (.n (fun _ => op_load Try.isAgg23 (.plain rfl)) (.n (fun _ => op_move (.plain rfl)) (.n (fun _ => op_nilCheckR (.plain rfl)) (.n (fun _ => op_fieldAddrR Try.underlying47 rfl rfl Try.sizeOf45 (.plain rfl)) (.r (op_loadR Try.isAgg45 (.plain rfl) rfl rfl) (.r (op_callL (vals := [_, _]) Try.call33 ⟨⟨_, (.plain rfl), rfl⟩, ⟨_, (.plain rfl), rfl⟩, trivial⟩ (best_fc _ _ ?_ ?_) rfl) (.n (fun _ => op_assign (.plain rfl)) (.nil _)))))))))))))) ?d1 ?_
  · omega
  · rw [hl.2.1]; exact ord_ins (hok.fs _ (by omega))
  · exact hb
  · kernel_rfl
  refine awp_ret ?_
  refine retH.ret ?_
  refine retH1 rfl rfl ⟨rfl, rfl, rfl, rfl, trivial⟩ ⟨.inr rfl, .inr rfl, .inr rfl, .inr rfl, trivial⟩ ?_
  rfl

set_option maxRecDepth 1000000 in
set_option maxHeartbeats 4000000 in
theorem round_fch (W F : List (List Int)) (room : List Int) (S : Stt) (hok : SchOk W room F) (hl : Lens W.length room.length S) (x : Int) (hx : 0 ≤ x ∧ x < (W.length : Int)) (hg : S.2.1.getD x.toNat false = false) : FCH Try.prog 28 [.ref 50 0, .pv (.i x)] [(50, .box [.pv (.rows W), .own 51, .pv (.rows F), .own 52, .own 53]), (51, .arr 3 1 Int 0 (fun n => [.int .i64 n]) (S.1)), (52, .arr 3 1 Int 0 (fun n => [.int .i64 n]) (S.2.2)), (53, .arr 4 1 Bool false (fun b => [.bool b]) (S.2.1))] [(50, .box [.pv (.rows W), .own 51, .pv (.rows F), .own 52, .own 53]), (51, .arr 3 1 Int 0 (fun n => [.int .i64 n]) ((rndF W F room.length S x.toNat).1)), (52, .arr 3 1 Int 0 (fun n => [.int .i64 n]) ((rndF W F room.length S x.toNat).2.2)), (53, .arr 4 1 Bool false (fun b => [.bool b]) ((rndF W F room.length S x.toNat).2.1))] (.pv (.tup [])) none := by
  refine FCH.intro Try.func28 rfl (Nat.le_of_ble_eq_true rfl) (Nat.le_of_ble_eq_true rfl) fun hfit ι0 => ?_
  change awp _ _ _ _ ⟨[(0, .ref 50 0), (1, .pv (.i x)), (1000050, .pin 50 (ι0 50)), (1000051, .pin 51 (ι0 51)), (1000052, .pin 52 (ι0 52)), (1000053, .pin 53 (ι0 53))], [(50, .box [.pv (.rows W), .own 51, .pv (.rows F), .own 52, .own 53]), (51, .arr 3 1 Int 0 (fun n => [.int .i64 n]) (S.1)), (52, .arr 3 1 Int 0 (fun n => [.int .i64 n]) (S.2.2)), (53, .arr 4 1 Bool false (fun b => [.bool b]) (S.2.1))]⟩
  have fit1 : -9223372036854775808 ≤ (x : Int) ∧ (x : Int) ≤ 9223372036854775807 := (hfit _ (.tail _ (.head _))).int64
  refine awp_fitH (id := 51) rfl fun hf2 => ?_
  have hn6 := hok.n6
  have hxi : x.toNat < W.length := by omega
  have hit := iter_in (fS_good (S := S) hok) hxi hg
  have hin : ∀ j, _ := fun j => sAt_in (S := S) hok (hit j).1
  have h2l := hl.2.1
  have h3l := hl.2.2
  have hnx : ∀ j, ¬ sAt W S (iter (fS W F S) (j) x.toNat) < 0 → _ := fun j hj => nxt_in (F := F) hok (hit j).1 (hit j).2 (by omega)
  have hfs : ∀ j, ¬ sAt W S (iter (fS W F S) (j) x.toNat) < 0 → nxt W F S (iter (fS W F S) (j) x.toNat) = ((iter (fS W F S) (j + 1) x.toNat) : Nat) := fun j hj => nxt_fS hok (hit j).1 (hit j).2 (by omega)
  refine awp_seq ?_
  refine awp_region rfl (.n (fun _ => op_move (.plain rfl)) (.n (fun _ => op_assign (.plain rfl)) (.nil _))) ?_
  refine awp_seq ?_
  refine awp_seq ?_
  refine awp_region rfl (.n (fun _ => op_move (.plain rfl)) (.n (fun _ => op_nilCheckR (.plain rfl)) (.n (fun _ => op_fieldAddrR Try.underlying47 rfl rfl Try.sizeOf22 (.plain rfl)) (.r (op_loadR Try.isAgg22 (.plain rfl) rfl rfl) (.n (fun _ => op_len (s := 0) Try.underlying22 (.plain rfl)) (.n (fun _ => op_move (.plain rfl)) (.nil _))))))) ?_
  refine awp_block ?_
  refine awp_loop (σ := Nat) (fun (k : Nat) => k ≤ W.length ∧ ∀ j, j < k → ¬ sAt W S (iter (fS W F S) (j) x.toNat) < 0) (fun (k : Nat) => ⟨[(0, .ref 50 0), (16, .int (W.length : Nat)), (17, .int (k : Nat)), (4, .int ((iter (fS W F S) (k) x.toNat) : Nat)), (1000050, .pin 50 (ι0 50)), (1000051, .pin 51 (ι0 51)), (1000052, .pin 52 (ι0 52)), (1000053, .pin 53 (ι0 53))], [(50, .box [.pv (.rows W), .own 51, .pv (.rows F), .own 52, .own 53]), (51, .arr 3 1 Int 0 (fun n => [.int .i64 n]) (S.1)), (52, .arr 3 1 Int 0 (fun n => [.int .i64 n]) (S.2.2)), (53, .arr 4 1 Bool false (fun b => [.bool b]) (S.2.1))]⟩) (fun (k : Nat) => W.length - k) 0 ?_ (Ent.kept ⟨rfl, rfl, rfl, (congrArg (fun n => some (SV.int n)) (show x = ((x.toNat : Nat) : Int) by omega)), rfl, rfl, rfl, rfl, trivial⟩ ⟨rfl, rfl, rfl, rfl, trivial⟩) ?_
  · exact ⟨Nat.zero_le _, fun j hj => absurd hj (Nat.not_lt_zero _)⟩
  rintro k hp
  try dsimp only at hp
  obtain ⟨hk, hno⟩ := hp
  refine awp_seq ?_
  refine awp_region rfl (.n (fun _ => op_lss (.plain rfl) (.plain rfl)) (.nil _)) ?_
  refine awp_seq ?_
  refine awp_cond rfl (fun h => ?_) (fun h => ?_)
  · try simp only [decide_eq_true_eq, decide_eq_false_iff_not, Bool.and_eq_true, Bool.or_eq_true, Bool.and_eq_false_iff, Bool.or_eq_false_iff, Bool.not_eq_true', Bool.not_eq_false', Bool.not_eq_true, Bool.not_eq_false, Bool.true_eq_false, Bool.false_eq_true] at h
    refine awp_skip ?_
    refine awp_seq ?_
    refine awp_block ?_
    refine awp_seq ?_
    refine awp_region rfl (.n (fun _ => op_move (.plain rfl)) (.n (fun _ => op_move (.plain rfl)) (.r (op_callHR (fun k => [0, 0, 0, 0, 0, 0, 0, 0, 0, 0, 0, 0, 0, 0, 0, 0, 0, 0, 0, 0, 0, 0, 0, 0, 0, 0, 0, 0, 0, 0, 0, 0, 0, 0, 0, 0, 0, 0, 0, 0, 0, 0, 0, 0, 0, 0, 0, 0, 0, 0, 50, 51, 52, 53].getD k 0) Try.call42 (points_fch _ _ _ _ hok hl _ ?_) ⟨(.plain rfl), (.plain rfl), trivial⟩ ⟨rfl, rfl, rfl, rfl, trivial⟩ (by kernel_rfl)) (.n (fun _ => op_assign (.plain rfl)) (.nil _))))) ?_
    · exact (hit k).1
    refine awp_seq ?_
    refine awp_seq ?_
    refine awp_region rfl (.n (fun _ => op_move (.plain rfl)) (.n (fun _ => op_lss (.plain rfl) (.plain rfl)) (.nil _))) ?_
    refine awp_cond rfl (fun h => ?_) (fun h => ?_)
    · try simp only [decide_eq_true_eq, decide_eq_false_iff_not, Bool.and_eq_true, Bool.or_eq_true, Bool.and_eq_false_iff, Bool.or_eq_false_iff, Bool.not_eq_true', Bool.not_eq_false', Bool.not_eq_true, Bool.not_eq_false, Bool.true_eq_false, Bool.false_eq_true] at h
      have hd : (rndF W F room.length S x.toNat) = dropTo W.length S (one (iter (fS W F S) (k) x.toNat)) := rndF_drop (by omega) hno h
      refine awp_seq ?_
      refine awp_region_draw mixed rfl (.n (fun _ => op_move (.plain rfl)) (.n (fun _ => op_nilCheckR (.plain rfl)) (.n (fun _ => op_fieldAddrR Try.underlying47 rfl rfl Try.sizeOf23 (.plain rfl)) (.r (op_loadR Try.isAgg23 (.plain rfl) rfl rfl) (.n (fun _ => op_move (.plain rfl)) (.n (fun _ => op_move (.plain rfl)) (.n (fun _ => op_nilCheckR (.plain rfl)) (.n (fun _ => op_fieldAddrR Try.underlying47 rfl rfl Try.sizeOf45 (.plain rfl)) (.r (op_loadR Try.isAgg45 (.plain rfl) rfl rfl) (.n (fun _ => op_move (.plain rfl)) (.r (op_indexAddrON Try.underlying23 Try.sizeOf3 (.plain rfl) rfl (.plain rfl) ?_) (.e (op_storeE _ Try.sizeOf3 (.plain rfl) (.plain rfl) rfl (fun _ => rfl) ?_ (by decide) rfl rfl) rfl (.r (op_indexAddrON Try.underlying45 Try.sizeOf4 (.plain rfl) rfl (.plain rfl) ?_) (.e (op_storeE _ Try.sizeOf4 (.plain rfl) (.plain rfl) rfl (fun _ => rfl) ?_ (by decide) rfl rfl) rfl (.nil _))))))))))))))) ?d2 ?_
      · have := (hit k).1; omega
      · have := (hit k).1; omega
      · have := (hit k).1; omega
      · have := (hit k).1; omega
      · kernel_rfl
      refine awp_ret ?_
      refine retH.ret ?_
      refine retH0 rfl ⟨rfl, (congrArg (fun l => some (Blk.arr 3 1 Int 0 (fun n => [.int .i64 n]) l)) ((congrArg (fun (T : Stt) => T.1) hd).symm)), (congrArg (fun l => some (Blk.arr 3 1 Int 0 (fun n => [.int .i64 n]) l)) (by rw [hd]; exact one_got hl)), (congrArg (fun l => some (Blk.arr 4 1 Bool false (fun b => [.bool b]) l)) (by rw [hd]; exact one_gone hl)), trivial⟩ ⟨.inr rfl, .inr rfl, .inr rfl, .inr rfl, trivial⟩ ?_
      rfl
    · try simp only [decide_eq_true_eq, decide_eq_false_iff_not, Bool.and_eq_true, Bool.or_eq_true, Bool.and_eq_false_iff, Bool.or_eq_false_iff, Bool.not_eq_true', Bool.not_eq_false', Bool.not_eq_true, Bool.not_eq_false, Bool.true_eq_false, Bool.false_eq_true] at h
      refine awp_skip ?_
      refine awp_region rfl (.n (fun _ => op_move (.plain rfl)) (.n (fun _ => op_move (.plain rfl)) (.r (op_callHR (fun k => [0, 0, 0, 0, 0, 0, 0, 0, 0, 0, 0, 0, 0, 0, 0, 0, 0, 0, 0, 0, 0, 0, 0, 0, 0, 0, 0, 0, 0, 0, 0, 0, 0, 0, 0, 0, 0, 0, 0, 0, 0, 0, 0, 0, 0, 0, 0, 0, 0, 0, 50, 51, 52, 53].getD k 0) Try.call43 (first_fch _ _ _ _ hok hl _ ?_ ?_) ⟨(.plain rfl), (.plain rfl), trivial⟩ ⟨rfl, rfl, rfl, rfl, trivial⟩ (by kernel_rfl)) (.n (fun _ => op_assign (.plain rfl)) (.nil _))))) ?_
      · have h5 := hin k; have h6 := h; omega
      · exact (hnx k h).1
      refine awp_region rfl (.n (fun _ => op_add (.plain rfl) (.plain rfl) ?_) (.n (fun _ => op_move (.plain rfl)) (.nil _))) ?_
      · unfold InR; omega
      refine ⟨k + 1, ⟨by omega, fun j hj => ?_⟩, by dsimp only; omega, (Ent.kept ⟨rfl, rfl, rfl, (congrArg (fun n => some (SV.int n)) (hfs k h)), rfl, rfl, rfl, rfl, trivial⟩ ⟨rfl, rfl, rfl, rfl, trivial⟩)⟩
      by_cases e : j = k
      · subst e; exact h
      · exact hno j (by omega)
  · try simp only [decide_eq_true_eq, decide_eq_false_iff_not, Bool.and_eq_true, Bool.or_eq_true, Bool.and_eq_false_iff, Bool.or_eq_false_iff, Bool.not_eq_true', Bool.not_eq_false', Bool.not_eq_true, Bool.not_eq_false, Bool.true_eq_false, Bool.false_eq_true] at h
    obtain rfl : k = W.length := by omega
    refine awp_exit ?_
    refine awp_seq ?_
    refine awp_region rfl (.n (fun _ => op_assign (.plain rfl)) (.n (fun _ => op_assign (.plain rfl)) (.nil _))) ?_
    refine awp_seq ?_
    refine awp_block ?_
    refine awp_ent (Ent.begin 6 1006 3 1 Int 0 (fun n => [.int .i64 n]) rfl rfl rfl) ?_
    refine awp_ent (Ent.begin 7 1007 3 1 Int 0 (fun n => [.int .i64 n]) rfl rfl rfl) ?_
    refine awp_loop (σ := Nat) (fun (t : Nat) => orbN (fS W F S) W.length x.toNat t ∧ (∀ s, s < t → orb (fS W F S) W.length x.toNat s (iter (fS W F S) (W.length + s) x.toNat) = false) ∧ ∀ j, j < W.length + t → ¬ sAt W S (iter (fS W F S) (j) x.toNat) < 0) (fun (t : Nat) => ⟨[(0, .ref 50 0), (4, .int ((iter (fS W F S) (W.length + t) x.toNat) : Nat)), (6, .own 1006), (7, .own 1007), (1000050, .pin 50 (ι0 50)), (1000051, .pin 51 (ι0 51)), (1000052, .pin 52 (ι0 52)), (1000053, .pin 53 (ι0 53))], [(50, .box [.pv (.rows W), .own 51, .pv (.rows F), .own 52, .own 53]), (51, .arr 3 1 Int 0 (fun n => [.int .i64 n]) (S.1)), (52, .arr 3 1 Int 0 (fun n => [.int .i64 n]) (S.2.2)), (53, .arr 4 1 Bool false (fun b => [.bool b]) (S.2.1)), (1006, .arr 3 1 Int 0 (fun n => [.int .i64 n]) (orbL (fS W F S) W.length x.toNat t)), (1007, .arr 3 1 Int 0 (fun n => [.int .i64 n]) (getsL W F S x.toNat t))]⟩) (fun (t : Nat) => W.length + 1 - t) 0 ?_ (Ent.kept ⟨rfl, rfl, rfl, rfl, rfl, rfl, rfl, rfl, trivial⟩ ⟨rfl, rfl, rfl, rfl, rfl, rfl, trivial⟩) ?_
    · exact ⟨fun a b ha => absurd ha (Nat.not_lt_zero _), fun s hs => absurd hs (Nat.not_lt_zero _), hno⟩
    rintro t hp
    try dsimp only at hp
    obtain ⟨hN, hob, hno⟩ := hp
    refine awp_seq ?_
    refine awp_seq ?_
    refine awp_region rfl (.n (fun _ => op_move (.plain rfl)) (.n (fun _ => op_move (.plain rfl)) (.r (op_callL (vals := [_, _]) Try.call34 ⟨⟨_, (.plain rfl), rfl⟩, ⟨_, (.plain rfl), rfl⟩, trivial⟩ (Contains_fc _ _) rfl) (.n (fun _ => op_not (.plain rfl)) (.nil _))))) ?_
    refine awp_cond rfl (fun h => ?_) (fun h => ?_)
    · try simp only [decide_eq_true_eq, decide_eq_false_iff_not, Bool.and_eq_true, Bool.or_eq_true, Bool.and_eq_false_iff, Bool.or_eq_false_iff, Bool.not_eq_true', Bool.not_eq_false', Bool.not_eq_true, Bool.not_eq_false, Bool.true_eq_false, Bool.false_eq_true] at h
      have hno1 : orb (fS W F S) W.length x.toNat t (iter (fS W F S) (W.length + t) x.toNat) = false := Bool.eq_false_iff.2 fun c => h (placeF_mem.2 (orbL_mem.2 c))
      have hob2 : ∀ s, s ≤ t → orb (fS W F S) W.length x.toNat s (iter (fS W F S) (W.length + s) x.toNat) = false := fun s hs => by
        by_cases e : s = t
        · subst e; exact hno1
        · exact hob s (by omega)
      refine awp_skip ?_
      refine awp_block ?_
      refine awp_seq ?_
      refine awp_region rfl (.n (fun _ => op_move (.plain rfl)) (.n (fun _ => op_move (.plain rfl)) (.r (op_callHR (fun k => [0, 0, 0, 0, 0, 0, 0, 0, 0, 0, 0, 0, 0, 0, 0, 0, 0, 0, 0, 0, 0, 0, 0, 0, 0, 0, 0, 0, 0, 0, 0, 0, 0, 0, 0, 0, 0, 0, 0, 0, 0, 0, 0, 0, 0, 0, 0, 0, 0, 0, 50, 51, 52, 53].getD k 0) Try.call42 (points_fch _ _ _ _ hok hl _ ?_) ⟨(.plain rfl), (.plain rfl), trivial⟩ ⟨rfl, rfl, rfl, rfl, trivial⟩ (by kernel_rfl)) (.n (fun _ => op_assign (.plain rfl)) (.nil _))))) ?_
      · exact (hit _).1
      refine awp_seq ?_
      refine awp_seq ?_
      refine awp_region rfl (.n (fun _ => op_move (.plain rfl)) (.n (fun _ => op_lss (.plain rfl) (.plain rfl)) (.nil _))) ?_
      refine awp_cond rfl (fun h => ?_) (fun h => ?_)
      · try simp only [decide_eq_true_eq, decide_eq_false_iff_not, Bool.and_eq_true, Bool.or_eq_true, Bool.and_eq_false_iff, Bool.or_eq_false_iff, Bool.not_eq_true', Bool.not_eq_false', Bool.not_eq_true, Bool.not_eq_false, Bool.true_eq_false, Bool.false_eq_true] at h
        have hd : (rndF W F room.length S x.toNat) = dropTo W.length S (one (iter (fS W F S) (W.length + t) x.toNat)) := rndF_drop (by have := t0_gt hok hxi hg hob2; omega) hno h
        refine awp_seq ?_
        refine awp_region_draw mixed rfl (.n (fun _ => op_move (.plain rfl)) (.n (fun _ => op_nilCheckR (.plain rfl)) (.n (fun _ => op_fieldAddrR Try.underlying47 rfl rfl Try.sizeOf23 (.plain rfl)) (.r (op_loadR Try.isAgg23 (.plain rfl) rfl rfl) (.n (fun _ => op_move (.plain rfl)) (.n (fun _ => op_move (.plain rfl)) (.n (fun _ => op_nilCheckR (.plain rfl)) (.n (fun _ => op_fieldAddrR Try.underlying47 rfl rfl Try.sizeOf45 (.plain rfl)) (.r (op_loadR Try.isAgg45 (.plain rfl) rfl rfl) (.n (fun _ => op_move (.plain rfl)) (.r (op_indexAddrON Try.underlying23 Try.sizeOf3 (.plain rfl) rfl (.plain rfl) ?_) (.e (op_storeE _ Try.sizeOf3 (.plain rfl) (.plain rfl) rfl (fun _ => rfl) ?_ (by decide) rfl rfl) rfl (.r (op_indexAddrON Try.underlying45 Try.sizeOf4 (.plain rfl) rfl (.plain rfl) ?_) (.e (op_storeE _ Try.sizeOf4 (.plain rfl) (.plain rfl) rfl (fun _ => rfl) ?_ (by decide) rfl rfl) rfl (.nil _))))))))))))))) ?d3 ?_
        · have := (hit (W.length + t)).1; omega
        · have := (hit (W.length + t)).1; omega
        · have := (hit (W.length + t)).1; omega
        · have := (hit (W.length + t)).1; omega
        · kernel_rfl
        refine awp_ret ?_
        refine retH.ret ?_
        refine retH0 rfl ⟨rfl, (congrArg (fun l => some (Blk.arr 3 1 Int 0 (fun n => [.int .i64 n]) l)) ((congrArg (fun (T : Stt) => T.1) hd).symm)), (congrArg (fun l => some (Blk.arr 3 1 Int 0 (fun n => [.int .i64 n]) l)) (by rw [hd]; exact one_got hl)), (congrArg (fun l => some (Blk.arr 4 1 Bool false (fun b => [.bool b]) l)) (by rw [hd]; exact one_gone hl)), trivial⟩ ⟨.inr rfl, .inr rfl, .inr rfl, .inr rfl, trivial⟩ ?_
        rfl
      · try simp only [decide_eq_true_eq, decide_eq_false_iff_not, Bool.and_eq_true, Bool.or_eq_true, Bool.and_eq_false_iff, Bool.or_eq_false_iff, Bool.not_eq_true', Bool.not_eq_false', Bool.not_eq_true, Bool.not_eq_false, Bool.true_eq_false, Bool.false_eq_true] at h
        refine awp_skip ?_
        refine awp_seq ?_
        refine awp_region rfl (.n (fun _ => op_move (.plain rfl)) (.n (fun _ => op_move (.plain rfl)) (.n (fun _ => op_slit (pp := [(0, _)]) (α := Int) (d := 0) (f := (fun n => [.int .i64 n])) [_] ety23 rfl ⟨rfl, (.plain rfl), (by simp), trivial⟩ rfl (by decide) rfl) (.e (op_append (id' := 64) (α := Int) (d := 0) (f := (fun n => [.int .i64 n])) ety23 Try.underlying23 (fun _ => rfl) (fun _ => rfl) (.plain rfl) rfl (.plain rfl) rfl ?_) rfl (.n (fun _ => op_move (.plain rfl)) (.n (fun _ => op_move (.plain rfl)) (.n (fun _ => op_slit (pp := [(0, _)]) (α := Int) (d := 0) (f := (fun n => [.int .i64 n])) [_] ety23 rfl ⟨rfl, (.plain rfl), (by simp), trivial⟩ rfl (by decide) rfl) (.e (op_append (id' := 68) (α := Int) (d := 0) (f := (fun n => [.int .i64 n])) ety23 Try.underlying23 (fun _ => rfl) (fun _ => rfl) (.plain rfl) rfl (.plain rfl) rfl ?_) rfl (.n (fun _ => op_assign (.plain rfl)) (.n (fun _ => op_assign (.plain rfl)) (.nil _))))))))))) ?_
        · have := orbN_le hN fun j => (hit j).1; simp; omega
        · have := orbN_le hN fun j => (hit j).1; simp; omega
        refine awp_region rfl (.n (fun _ => op_move (.plain rfl)) (.n (fun _ => op_move (.plain rfl)) (.r (op_callHR (fun k => [0, 0, 0, 0, 0, 0, 0, 0, 0, 0, 0, 0, 0, 0, 0, 0, 0, 0, 0, 0, 0, 0, 0, 0, 0, 0, 0, 0, 0, 0, 0, 0, 0, 0, 0, 0, 0, 0, 0, 0, 0, 0, 0, 0, 0, 0, 0, 0, 0, 0, 50, 51, 52, 53].getD k 0) Try.call43 (first_fch _ _ _ _ hok hl _ ?_ ?_) ⟨(.plain rfl), (.plain rfl), trivial⟩ ⟨rfl, rfl, rfl, rfl, trivial⟩ (by kernel_rfl)) (.n (fun _ => op_assign (.plain rfl)) (.nil _))))) ?_
        · have h5 := hin (W.length + t); omega
        · exact (hnx _ h).1
        refine ⟨t + 1, ⟨orbN_succ hN hno1, fun s hs => hob2 s (by omega), fun j hj => ?_⟩, by dsimp only; have := orbN_le hN fun j => (hit j).1; omega, (Ent.round2 64 1006 68 1007 ⟨rfl, (congrArg (fun n => some (SV.int n)) (hfs (W.length + t) h)), rfl, rfl, rfl, rfl, rfl, rfl, trivial⟩ ⟨rfl, rfl, rfl, rfl, (congrArg (fun l => some (Blk.arr 3 1 Int 0 (fun n => [.int .i64 n]) l)) ((ringI_snoc _ _).trans (congrArg ringI (orbM_succ _ _ _ _)))), (congrArg (fun l => some (Blk.arr 3 1 Int 0 (fun n => [.int .i64 n]) l)) (getsL_snoc W F S x.toNat t)), trivial⟩ rfl rfl rfl ⟨rfl, rfl, rfl, rfl, rfl, rfl, rfl, rfl, trivial⟩ ⟨rfl, rfl, rfl, rfl, rfl, rfl, trivial⟩ rfl rfl rfl ⟨rfl, rfl, rfl, rfl, rfl, rfl, rfl, rfl, trivial⟩ ⟨rfl, rfl, rfl, rfl, rfl, rfl, trivial⟩)⟩
        by_cases e : j = W.length + t
        · subst e; exact h
        · exact hno j (by omega)
    · try simp only [decide_eq_true_eq, decide_eq_false_iff_not, Bool.and_eq_true, Bool.or_eq_true, Bool.and_eq_false_iff, Bool.or_eq_false_iff, Bool.not_eq_true', Bool.not_eq_false', Bool.not_eq_true, Bool.not_eq_false, Bool.true_eq_false, Bool.false_eq_true] at h
      have hin1 : orb (fS W F S) W.length x.toNat t (iter (fS W F S) (W.length + t) x.toNat) = true := orbL_mem.1 (placeF_mem.1 h)
      have ht0 := t0_of hok hxi hg hob hin1
      have htn := orbN_le hN fun j => (hit j).1
      have hR := orb_ring hok hxi hg hN hin1 hno
      have hd : (rndF W F room.length S x.toNat) = (part W room.length S (orbM (fS W F S) W.length x.toNat t) (t)) := rndF_ring ht0 hno
      refine awp_exit ?_
      refine awp_seq ?_
      refine awp_region rfl (.n (fun _ => op_move (.plain rfl)) (.r (op_lenO Try.underlying23 (.plain rfl) rfl) (.n (fun _ => op_move (.plain rfl)) (.nil _)))) ?_
      refine awp_block ?_
      refine awp_loop (σ := Nat) (fun (j : Nat) => j ≤ t) (fun (j : Nat) => ⟨[(0, .ref 50 0), (7, .own 1007), (72, .own 1006), (73, .int (t : Nat)), (74, .int (j : Nat)), (1000050, .pin 50 (ι0 50)), (1000051, .pin 51 (ι0 51)), (1000052, .pin 52 (ι0 52)), (1000053, .pin 53 (ι0 53))], [(50, .box [.pv (.rows W), .own 51, .pv (.rows F), .own 52, .own 53]), (51, .arr 3 1 Int 0 (fun n => [.int .i64 n]) ((part W room.length S (orbM (fS W F S) W.length x.toNat t) (j)).1)), (52, .arr 3 1 Int 0 (fun n => [.int .i64 n]) ((part W room.length S (orbM (fS W F S) W.length x.toNat t) (j)).2.2)), (53, .arr 4 1 Bool false (fun b => [.bool b]) ((part W room.length S (orbM (fS W F S) W.length x.toNat t) (j)).2.1)), (1006, .arr 3 1 Int 0 (fun n => [.int .i64 n]) (orbL (fS W F S) W.length x.toNat t)), (1007, .arr 3 1 Int 0 (fun n => [.int .i64 n]) (getsL W F S x.toNat t))]⟩) (fun (j : Nat) => t - j) 0 ?_ (Ent.kept ⟨rfl, rfl, rfl, (congrArg (fun n => some (SV.int n)) (congrArg (fun n : Nat => (n : Int)) (orbL_length _ _ _ _))), rfl, rfl, rfl, rfl, rfl, trivial⟩ ⟨rfl, (congrArg (fun l => some (Blk.arr 3 1 Int 0 (fun n => [.int .i64 n]) l)) (by rw [part_zero hl])), (congrArg (fun l => some (Blk.arr 3 1 Int 0 (fun n => [.int .i64 n]) l)) (by rw [part_zero hl])), (congrArg (fun l => some (Blk.arr 4 1 Bool false (fun b => [.bool b]) l)) (by rw [part_zero hl])), rfl, rfl, trivial⟩) ?_
      · simp
      rintro j hp
      try dsimp only at hp
      refine awp_seq ?_
      refine awp_region rfl (.n (fun _ => op_lss (.plain rfl) (.plain rfl)) (.nil _)) ?_
      refine awp_seq ?_
      refine awp_cond rfl (fun h => ?_) (fun h => ?_)
      · try simp only [decide_eq_true_eq, decide_eq_false_iff_not, Bool.and_eq_true, Bool.or_eq_true, Bool.and_eq_false_iff, Bool.or_eq_false_iff, Bool.not_eq_true', Bool.not_eq_false', Bool.not_eq_true, Bool.not_eq_false, Bool.true_eq_false, Bool.false_eq_true] at h
        have hj2 : j < t := by omega
        have hrj : (orbL (fS W F S) W.length x.toNat t).getD j 0 = (((orbM (fS W F S) W.length x.toNat t).getD j 0 : Nat) : Int) := ringI_getD (by simpa [orbM] using hj2)
        have hgj : (getsL W F S x.toNat t).getD j 0 = sAt W S ((orbM (fS W F S) W.length x.toNat t).getD j 0) := by rw [show (getsL W F S x.toNat t).getD j 0 = sAt W S (iter (fS W F S) (W.length + j) x.toNat) from mapr_getD _ hj2, show ((orbM (fS W F S) W.length x.toNat t)).getD j 0 = iter (fS W F S) (W.length + j) x.toNat from mapr_getD _ hj2]
        have hjm : (orbM (fS W F S) W.length x.toNat t).getD j 0 ∈ (orbM (fS W F S) W.length x.toNat t) := natD_mem (by simpa [orbM] using hj2)
        refine awp_skip ?_
        refine awp_seq ?_
        refine awp_block ?_
        refine awp_seq ?_
        refine awp_region rfl (.n (fun _ => op_move (.plain rfl)) (.r (op_indexAddrON Try.underlying23 Try.sizeOf3 (.plain rfl) rfl (.plain rfl) ?_) (.r (op_loadE Try.isAgg3 (.plain rfl) rfl (fun _ => rfl) ?_ rfl) (.n (fun _ => op_assign (.plain rfl)) (.n (fun _ => op_assign (.plain rfl)) (.nil _)))))) ?_
        · simp; omega
        · first | omega | (simp; omega)
        refine awp_seq ?_
        refine awp_region_draw mixed rfl (.n (fun _ => op_move (.plain rfl)) (.n (fun _ => op_nilCheckR (.plain rfl)) (.n (fun _ => op_fieldAddrR Try.underlying47 rfl rfl Try.sizeOf23 (.plain rfl)) (.r (op_loadR Try.isAgg23 (.plain rfl) rfl rfl) (.n (fun _ => op_move (.plain rfl)) (.n (fun _ => op_move (.plain rfl)) (.n (fun _ => op_nilCheckR (.plain rfl)) (.n (fun _ => op_fieldAddrR Try.underlying47 rfl rfl Try.sizeOf45 (.plain rfl)) (.r (op_loadR Try.isAgg45 (.plain rfl) rfl rfl) (.n (fun _ => op_move (.plain rfl)) (.n (fun _ => op_move (.plain rfl)) (.n (fun _ => op_move (.plain rfl)) (.r (op_indexAddrON Try.underlying23 Try.sizeOf3 (.plain rfl) rfl (.plain rfl) ?_) (.r (op_loadE Try.isAgg3 (.plain rfl) rfl (fun _ => rfl) ?_ rfl) (.r (op_indexAddrO Try.underlying23 Try.sizeOf3 (.plain rfl) rfl (.plain rfl) ?_) (.e (op_storeE _ Try.sizeOf3 (.plain rfl) (.plain rfl) rfl (fun _ => rfl) ?_ (by decide) rfl rfl) rfl (.r (op_indexAddrO Try.underlying45 Try.sizeOf4 (.plain rfl) rfl (.plain rfl) ?_) (.e (op_storeE _ Try.sizeOf4 (.plain rfl) (.plain rfl) rfl (fun _ => rfl) ?_ (by decide) rfl rfl) rfl (.nil _))))))))))))))))))) ?d4 ?_
        · simp; omega
        · first | omega | (simp; omega)
        · rw [hrj]; simp only [part_len3]; have := hR.lt _ hjm; omega
        · rw [hrj]; simp only [part_len3, Int.toNat_natCast]; exact hR.lt _ hjm
        · rw [hrj]; simp only [part_len2]; have := hR.lt _ hjm; omega
        · rw [hrj]; simp only [part_len2, Int.toNat_natCast]; exact hR.lt _ hjm
        · kernel_rfl
        refine awp_region_draw mixed rfl (.n (fun _ => op_move (.plain rfl)) (.n (fun _ => op_nilCheckR (.plain rfl)) (.n (fun _ => op_fieldAddrR Try.underlying47 rfl rfl Try.sizeOf23 (.plain rfl)) (.r (op_loadR Try.isAgg23 (.plain rfl) rfl rfl) (.n (fun _ => op_move (.plain rfl)) (.n (fun _ => op_move (.plain rfl)) (.r (op_indexAddrON Try.underlying23 Try.sizeOf3 (.plain rfl) rfl (.plain rfl) ?_) (.r (op_loadE Try.isAgg3 (.plain rfl) rfl (fun _ => rfl) ?_ rfl) (.r (op_indexAddrO Try.underlying23 Try.sizeOf3 (.plain rfl) rfl (.plain rfl) ?_) (.r (op_loadE Try.isAgg3 (.plain rfl) rfl (fun _ => rfl) ?_ rfl) (.n (fun _ => op_sub (.plain rfl) (.plain rfl) ?_) (.r (op_indexAddrO Try.underlying23 Try.sizeOf3 (.plain rfl) rfl (.plain rfl) ?_) (.e (op_storeE _ Try.sizeOf3 (.plain rfl) (.plain rfl) rfl (fun _ => rfl) ?_ (by decide) rfl rfl) rfl (.nil _)))))))))))))) ?d5 ?_
        · simp; omega
        · first | omega | (simp; omega)
        · rw [hgj]; simp only [part_len1]; have h5 := sAt_in (S := S) hok (hR.lt _ hjm); have h6 := hR.sc _ hjm; omega
        · rw [hgj]; simp only [part_len1]; have h5 := sAt_in (S := S) hok (hR.lt _ hjm); have h6 := hR.sc _ hjm; omega
        · rw [hgj]; exact part_pos hok hl hR hf2.ints.2 (by simpa [orbM] using hj2)
        · rw [hgj]; simp only [part_len1]; have h5 := sAt_in (S := S) hok (hR.lt _ hjm); have h6 := hR.sc _ hjm; omega
        · rw [hgj]; simp only [part_len1]; have h5 := sAt_in (S := S) hok (hR.lt _ hjm); have h6 := hR.sc _ hjm; omega
        · kernel_rfl
        refine awp_region rfl (.n (fun _ => op_add (.plain rfl) (.plain rfl) ?_) (.n (fun _ => op_move (.plain rfl)) (.nil _))) ?_
        · unfold InR; omega
        exact ⟨j + 1, by omega, by dsimp only; omega, (Ent.kept ⟨rfl, rfl, rfl, rfl, rfl, rfl, rfl, rfl, rfl, trivial⟩ ⟨rfl, (congrArg (fun l => some (Blk.arr 3 1 Int 0 (fun n => [.int .i64 n]) l)) (by rw [hgj]; exact part_room hok hR (by simpa [orbM] using hj2))), (congrArg (fun l => some (Blk.arr 3 1 Int 0 (fun n => [.int .i64 n]) l)) (by rw [hrj, hgj, Int.toNat_natCast]; exact part_got (by simpa [orbM] using hj2))), (congrArg (fun l => some (Blk.arr 4 1 Bool false (fun b => [.bool b]) l)) (by rw [hrj, Int.toNat_natCast]; exact part_gone (by simpa [orbM] using hj2))), rfl, rfl, trivial⟩)⟩
      · try simp only [decide_eq_true_eq, decide_eq_false_iff_not, Bool.and_eq_true, Bool.or_eq_true, Bool.and_eq_false_iff, Bool.or_eq_false_iff, Bool.not_eq_true', Bool.not_eq_false', Bool.not_eq_true, Bool.not_eq_false, Bool.true_eq_false, Bool.false_eq_true] at h
        obtain rfl : j = t := by omega
        refine awp_exit ?_
        refine retH0 rfl ⟨rfl, (congrArg (fun l => some (Blk.arr 3 1 Int 0 (fun n => [.int .i64 n]) l)) (by rw [hd])), (congrArg (fun l => some (Blk.arr 3 1 Int 0 (fun n => [.int .i64 n]) l)) (by rw [hd])), (congrArg (fun l => some (Blk.arr 4 1 Bool false (fun b => [.bool b]) l)) (by rw [hd])), trivial⟩ ⟨.inr rfl, .inr rfl, .inr rfl, .inr rfl, trivial⟩ ?_
        rfl

set_option maxRecDepth 1000000 in
set_option maxHeartbeats 4000000 in
theorem Schools_fc (W : List (List Int)) (room : List Int) (F : List (List Int)) : FC Try.prog 8 [.rows W, .ints room, .rows F] (.tup [.ints (if schE W room F = 0 then schF W F room else []), .i (schE W room F)]) := by
  refine FC.intro Try.func8 rfl (Nat.le_of_ble_eq_true rfl) fun hfit => ?_
  obtain ⟨fitl0, fitr0⟩ := (hfit _ (.head _)).rows
  obtain ⟨fitl1, fitr1⟩ := (hfit _ (.tail _ (.head _))).ints
  obtain ⟨fitl2, fitr2⟩ := (hfit _ (.tail _ (.tail _ (.head _)))).rows
  refine awp_seq ?_
  refine awp_region rfl (.n (fun _ => op_assign (.plain rfl)) (.n (fun _ => op_assign (.plain rfl)) (.nil _))) ?_
  refine awp_seq ?_
  refine awp_seq ?_
  refine awp_region rfl (.n (fun _ => op_move (.plain rfl)) (.n (fun _ => op_len (s := 0) Try.underlying22 (.plain rfl)) (.n (fun _ => op_gtr (.plain rfl) (.plain rfl)) (.n (fun _ => op_move (.plain rfl)) (.gn rfl rfl (fun hg _ => op_move (.plain rfl)) (.gn rfl rfl (fun hg _ => op_len (s := 0) Try.underlying23 (.opt rfl fun h => h)) (.gn rfl rfl (fun hg _ => op_gtr (.opt rfl fun h => h) (.plain rfl)) (.n (fun _ => op_or (.plain rfl) (.plain rfl) (.plain rfl) (fun h => eqF h)) (.nil _))))))))) ?_
  refine awp_cond rfl (fun h => ?_) (fun h => ?_)
  · try simp only [decide_eq_true_eq, decide_eq_false_iff_not, Bool.and_eq_true, Bool.or_eq_true, Bool.and_eq_false_iff, Bool.or_eq_false_iff, Bool.not_eq_true', Bool.not_eq_false', Bool.not_eq_true, Bool.not_eq_false, Bool.true_eq_false, Bool.false_eq_true] at h
    refine awp_seq ?_
    refine awp_region rfl (.n (fun _ => op_assign (.plain rfl)) (.n (fun _ => op_assign (.plain rfl)) (.nil _))) ?_
    refine awp_ent (Ent.nilseq 6 Int 0 (fun n => [.int .i64 n]) rfl) ?_
    refine awp_ret ?_
    refine retQ.ret ?_
    refine ret2 rfl rfl rfl rfl rfl ?_
    rw [schE_2 h, if_neg (by omega)]
  · try simp only [decide_eq_true_eq, decide_eq_false_iff_not, Bool.and_eq_true, Bool.or_eq_true, Bool.and_eq_false_iff, Bool.or_eq_false_iff, Bool.not_eq_true', Bool.not_eq_false', Bool.not_eq_true, Bool.not_eq_false, Bool.true_eq_false, Bool.false_eq_true] at h
    have hc1 : ¬ (6 < (W.length : Int) ∨ 6 < (room.length : Int)) := fun c => c.elim h.1 h.2
    refine awp_skip ?_
    refine awp_seq ?_
    refine awp_seq ?_
    refine awp_region rfl (.n (fun _ => op_move (.plain rfl)) (.n (fun _ => op_len (s := 0) Try.underlying22 (.plain rfl)) (.n (fun _ => op_move (.plain rfl)) (.n (fun _ => op_len (s := 0) Try.underlying23 (.plain rfl)) (.n (fun _ => op_neq (.plain rfl) (.plain rfl)) (.nil _)))))) ?_
    refine awp_cond rfl (fun h => ?_) (fun h => ?_)
    · try simp only [decide_eq_true_eq, decide_eq_false_iff_not, Bool.and_eq_true, Bool.or_eq_true, Bool.and_eq_false_iff, Bool.or_eq_false_iff, Bool.not_eq_true', Bool.not_eq_false', Bool.not_eq_true, Bool.not_eq_false, Bool.true_eq_false, Bool.false_eq_true] at h
      refine awp_seq ?_
      refine awp_region rfl (.n (fun _ => op_assign (.plain rfl)) (.n (fun _ => op_assign (.plain rfl)) (.nil _))) ?_
      refine awp_ent (Ent.nilseq 6 Int 0 (fun n => [.int .i64 n]) rfl) ?_
      refine awp_ret ?_
      refine retQ.ret ?_
      refine ret2 rfl rfl rfl rfl rfl ?_
      rw [schE_7 hc1 h, if_neg (by omega)]
    · try simp only [decide_eq_true_eq, decide_eq_false_iff_not, Bool.and_eq_true, Bool.or_eq_true, Bool.and_eq_false_iff, Bool.or_eq_false_iff, Bool.not_eq_true', Bool.not_eq_false', Bool.not_eq_true, Bool.not_eq_false, Bool.true_eq_false, Bool.false_eq_true] at h
      have hc2 := h
      refine awp_skip ?_
      refine awp_seq ?_
      refine awp_seq ?_
      refine awp_region rfl (.n (fun _ => op_move (.plain rfl)) (.n (fun _ => op_len (s := 0) Try.underlying22 (.plain rfl)) (.n (fun _ => op_move (.plain rfl)) (.nil _)))) ?_
      refine awp_block ?_
      refine awp_loop (σ := Nat) (fun (i : Nat) => i ≤ W.length ∧ firstE (fun i => someE room.length (W.getD i [])) i = 0) (fun (i : Nat) => ⟨[(0, .pv (.rows W)), (1, .pv (.ints room)), (2, .pv (.rows F)), (29, .pv (.rows W)), (30, .int (W.length : Nat)), (31, .int (i : Nat))], []⟩) (fun (i : Nat) => W.length - i) 0 ?_ (Ent.kept ⟨rfl, rfl, rfl, rfl, rfl, rfl, trivial⟩ trivial) ?_
      · exact ⟨Nat.zero_le _, rfl⟩
      rintro i hp
      try dsimp only at hp
      obtain ⟨hk, hE⟩ := hp
      refine awp_seq ?_
      refine awp_region rfl (.n (fun _ => op_lss (.plain rfl) (.plain rfl)) (.nil _)) ?_
      refine awp_seq ?_
      refine awp_cond rfl (fun h => ?_) (fun h => ?_)
      · try simp only [decide_eq_true_eq, decide_eq_false_iff_not, Bool.and_eq_true, Bool.or_eq_true, Bool.and_eq_false_iff, Bool.or_eq_false_iff, Bool.not_eq_true', Bool.not_eq_false', Bool.not_eq_true, Bool.not_eq_false, Bool.true_eq_false, Bool.false_eq_true] at h
        refine awp_skip ?_
        refine awp_seq ?_
        refine awp_block ?_
        refine awp_seq ?_
        refine awp_region rfl (.n (fun _ => op_indexAddrN Try.underlying22 Try.sizeOf23 (.plain rfl) (.plain rfl) (fun _ => rfl) ?_) (.n (fun _ => op_load Try.isAgg23 (.plain rfl)) (.n (fun _ => op_assign (.plain rfl)) (.nil _)))) ?_
        · omega
        refine awp_seq ?_
        refine awp_region rfl (.n (fun _ => op_move (.plain rfl)) (.n (fun _ => op_move (.plain rfl)) (.n (fun _ => op_len (s := 0) Try.underlying23 (.plain rfl)) (.n (fun _ => op_call2 Try.call24 (.plain rfl) (.plain rfl) (some_fc _ _)) (.n (fun _ => op_assign (.plain rfl)) (.nil _)))))) ?_
        refine awp_seq ?_
        refine awp_region rfl (.n (fun _ => op_move (.plain rfl)) (.n (fun _ => op_neq (.plain rfl) (.plain rfl)) (.nil _))) ?_
        refine awp_cond rfl (fun h => ?_) (fun h => ?_)
        · try simp only [decide_eq_true_eq, decide_eq_false_iff_not, Bool.and_eq_true, Bool.or_eq_true, Bool.and_eq_false_iff, Bool.or_eq_false_iff, Bool.not_eq_true', Bool.not_eq_false', Bool.not_eq_true, Bool.not_eq_false, Bool.true_eq_false, Bool.false_eq_true] at h
          refine awp_seq ?_
          refine awp_region rfl (.n (fun _ => op_move (.plain rfl)) (.n (fun _ => op_assign (.plain rfl)) (.n (fun _ => op_assign (.plain rfl)) (.nil _)))) ?_
          refine awp_ent (Ent.nilseq 6 Int 0 (fun n => [.int .i64 n]) rfl) ?_
          refine awp_ret ?_
          refine retQ.ret ?_
          refine ret2 rfl rfl rfl rfl rfl ?_
          rw [schE_w hc1 hc2 hE (by omega) h, if_neg h]
        · try simp only [decide_eq_true_eq, decide_eq_false_iff_not, Bool.and_eq_true, Bool.or_eq_true, Bool.and_eq_false_iff, Bool.or_eq_false_iff, Bool.not_eq_true', Bool.not_eq_false', Bool.not_eq_true, Bool.not_eq_false, Bool.true_eq_false, Bool.false_eq_true] at h
          refine awp_skip ?_
          refine awp_region rfl (.n (fun _ => op_add (.plain rfl) (.plain rfl) ?_) (.n (fun _ => op_move (.plain rfl)) (.nil _))) ?_
          · unfold InR; omega
          exact ⟨i + 1, ⟨by omega, firstE_succ hE h⟩, by dsimp only; omega, (Ent.kept ⟨rfl, rfl, rfl, rfl, rfl, rfl, trivial⟩ trivial)⟩
      · try simp only [decide_eq_true_eq, decide_eq_false_iff_not, Bool.and_eq_true, Bool.or_eq_true, Bool.and_eq_false_iff, Bool.or_eq_false_iff, Bool.not_eq_true', Bool.not_eq_false', Bool.not_eq_true, Bool.not_eq_false, Bool.true_eq_false, Bool.false_eq_true] at h
        have hw := wisE_ok hE (by omega) h
        refine awp_exit ?_
        refine awp_seq ?_
        refine awp_seq ?_
        refine awp_region rfl (.n (fun _ => op_move (.plain rfl)) (.n (fun _ => op_len (s := 0) Try.underlying22 (.plain rfl)) (.n (fun _ => op_move (.plain rfl)) (.nil _)))) ?_
        refine awp_block ?_
        refine awp_loop (σ := Nat) (fun (k : Nat) => k ≤ F.length ∧ firstE (firE W room F) k = 0) (fun (k : Nat) => ⟨[(0, .pv (.rows W)), (1, .pv (.ints room)), (2, .pv (.rows F)), (43, .pv (.rows F)), (44, .int (F.length : Nat)), (45, .int (k : Nat))], []⟩) (fun (k : Nat) => F.length - k) 0 ?_ (Ent.kept ⟨rfl, rfl, rfl, rfl, rfl, rfl, trivial⟩ trivial) ?_
        · exact ⟨Nat.zero_le _, rfl⟩
        rintro k hp
        try dsimp only at hp
        obtain ⟨hk, hE⟩ := hp
        refine awp_seq ?_
        refine awp_region rfl (.n (fun _ => op_lss (.plain rfl) (.plain rfl)) (.nil _)) ?_
        refine awp_seq ?_
        refine awp_cond rfl (fun h => ?_) (fun h => ?_)
        · try simp only [decide_eq_true_eq, decide_eq_false_iff_not, Bool.and_eq_true, Bool.or_eq_true, Bool.and_eq_false_iff, Bool.or_eq_false_iff, Bool.not_eq_true', Bool.not_eq_false', Bool.not_eq_true, Bool.not_eq_false, Bool.true_eq_false, Bool.false_eq_true] at h
          refine awp_skip ?_
          refine awp_seq ?_
          refine awp_block ?_
          refine awp_seq ?_
          refine awp_region rfl (.n (fun _ => op_move (.plain rfl)) (.n (fun _ => op_indexAddrN Try.underlying22 Try.sizeOf23 (.plain rfl) (.plain rfl) (fun _ => rfl) ?_) (.n (fun _ => op_load Try.isAgg23 (.plain rfl)) (.n (fun _ => op_assign (.plain rfl)) (.n (fun _ => op_assign (.plain rfl)) (.nil _)))))) ?_
          · omega
          refine awp_seq ?_
          refine awp_seq ?_
          refine awp_region rfl (.n (fun _ => op_move (.plain rfl)) (.n (fun _ => op_move (.plain rfl)) (.n (fun _ => op_len (s := 0) Try.underlying22 (.plain rfl)) (.n (fun _ => op_call2 Try.call25 (.plain rfl) (.plain rfl) (order_fc _ _)) (.n (fun _ => op_assign (.plain rfl)) (.nil _)))))) ?_
          refine awp_seq ?_
          refine awp_region rfl (.n (fun _ => op_move (.plain rfl)) (.n (fun _ => op_neq (.plain rfl) (.plain rfl)) (.nil _))) ?_
          refine awp_cond rfl (fun h => ?_) (fun h => ?_)
          · try simp only [decide_eq_true_eq, decide_eq_false_iff_not, Bool.and_eq_true, Bool.or_eq_true, Bool.and_eq_false_iff, Bool.or_eq_false_iff, Bool.not_eq_true', Bool.not_eq_false', Bool.not_eq_true, Bool.not_eq_false, Bool.true_eq_false, Bool.false_eq_true] at h
            refine awp_seq ?_
            refine awp_region rfl (.n (fun _ => op_move (.plain rfl)) (.n (fun _ => op_assign (.plain rfl)) (.n (fun _ => op_assign (.plain rfl)) (.nil _)))) ?_
            refine awp_ent (Ent.nilseq 6 Int 0 (fun n => [.int .i64 n]) rfl) ?_
            refine awp_ret ?_
            refine retQ.ret ?_
            refine ret2 rfl rfl rfl rfl rfl ?_
            rw [schE_at hc1 hc2 hw hE (by omega) (firE_ord h) h, if_neg h]
          · try simp only [decide_eq_true_eq, decide_eq_false_iff_not, Bool.and_eq_true, Bool.or_eq_true, Bool.and_eq_false_iff, Bool.or_eq_false_iff, Bool.not_eq_true', Bool.not_eq_false', Bool.not_eq_true, Bool.not_eq_false, Bool.true_eq_false, Bool.false_eq_true] at h
            have ho := h
            refine awp_skip ?_
            refine awp_seq ?_
            refine awp_region rfl (.n (fun _ => op_move (.plain rfl)) (.n (fun _ => op_move (.plain rfl)) (.n (fun _ => op_indexAddrN Try.underlying23 Try.sizeOf3 (.plain rfl) (.plain rfl) (fun _ => rfl) ?_) (.n (fun _ => op_load Try.isAgg3 (.plain rfl)) (.n (fun _ => op_lss (.plain rfl) (.plain rfl)) (.n (fun _ => op_move (.plain rfl)) (.gn rfl rfl (fun hg _ => op_move (.plain rfl)) (.gn rfl rfl (fun hg _ => op_move (.plain rfl)) (.gn rfl rfl (fun hg _ => op_indexAddrN Try.underlying23 Try.sizeOf3 (.opt rfl fun h => h) (.opt rfl fun h => h) (fun _ => rfl) ?_) (.gn rfl rfl (fun hg _ => op_load Try.isAgg3 (.opt rfl fun h => h)) (.gn rfl rfl (fun hg _ => op_gtr (.opt rfl fun h => h) (.plain rfl)) (.n (fun _ => op_or (.plain rfl) (.plain rfl) (.plain rfl) (fun h => eqF h)) (.nil _))))))))))))) ?_
            · omega
            · try simp only [beq_iff_eq, beq_true, beq_false, Bool.and_eq_true, decide_eq_true_eq, decide_eq_false_iff_not, Bool.not_eq_true', Bool.or_eq_true, Bool.or_eq_false_iff] at hg
              omega
            refine awp_cond rfl (fun h => ?_) (fun h => ?_)
            · try simp only [decide_eq_true_eq, decide_eq_false_iff_not, Bool.and_eq_true, Bool.or_eq_true, Bool.and_eq_false_iff, Bool.or_eq_false_iff, Bool.not_eq_true', Bool.not_eq_false', Bool.not_eq_true, Bool.not_eq_false, Bool.true_eq_false, Bool.false_eq_true] at h
              refine awp_seq ?_
              refine awp_region rfl (.n (fun _ => op_assign (.plain rfl)) (.n (fun _ => op_assign (.plain rfl)) (.nil _))) ?_
              refine awp_ent (Ent.nilseq 6 Int 0 (fun n => [.int .i64 n]) rfl) ?_
              refine awp_ret ?_
              refine retQ.ret ?_
              refine ret2 rfl rfl rfl rfl rfl ?_
              rw [schE_at hc1 hc2 hw hE (by omega) (firE_9 ho h) (by omega), if_neg (by omega)]
            · try simp only [decide_eq_true_eq, decide_eq_false_iff_not, Bool.and_eq_true, Bool.or_eq_true, Bool.and_eq_false_iff, Bool.or_eq_false_iff, Bool.not_eq_true', Bool.not_eq_false', Bool.not_eq_true, Bool.not_eq_false, Bool.true_eq_false, Bool.false_eq_true] at h
              have h68 : ¬ (room.getD k 0 < 0 ∨ 6 < room.getD k 0) := fun c => c.elim h.1 h.2
              refine awp_skip ?_
              refine awp_region rfl (.n (fun _ => op_add (.plain rfl) (.plain rfl) ?_) (.n (fun _ => op_move (.plain rfl)) (.nil _))) ?_
              · unfold InR; omega
              exact ⟨k + 1, ⟨by omega, firstE_succ hE (firE_0 ho h68)⟩, by dsimp only; omega, (Ent.kept ⟨rfl, rfl, rfl, rfl, rfl, rfl, trivial⟩ trivial)⟩
        · try simp only [decide_eq_true_eq, decide_eq_false_iff_not, Bool.and_eq_true, Bool.or_eq_true, Bool.and_eq_false_iff, Bool.or_eq_false_iff, Bool.not_eq_true', Bool.not_eq_false', Bool.not_eq_true, Bool.not_eq_false, Bool.true_eq_false, Bool.false_eq_true] at h
          obtain rfl : k = F.length := by omega
          have hok := schOk_of hc1 hc2 hw (show firstE (firE W room F) room.length = 0 by rw [show room.length = F.length by omega]; exact hE)
          have hE0 : schE W room F = 0 := by rw [schE_f hc1 hc2 hw, show room.length = F.length by omega]; exact hE
          have hn6 := hok.n6
          have hm6 := hok.m6
          refine awp_exit ?_
          refine awp_seq ?_
          refine awp_region_draw mixed rfl (.n (fun _ => op_move (.plain rfl)) (.n (fun _ => op_move (.plain rfl)) (.a (fun _ hm => op_callO (vals := [_]) 72 Try.call26 ⟨⟨_, (.plain rfl), rfl⟩, trivial⟩ (clone_fc _ ?_) (by simp [PV.flat]) hm) rfl (fun _ => rfl) rfl (.n (fun _ => op_move (.plain rfl)) (.n (fun _ => op_move (.plain rfl)) (.n (fun _ => op_len (s := 0) Try.underlying22 (.plain rfl)) (.a (fun _ hm => op_make (α := Int) (d := 0) (f := (fun n => [.int .i64 n])) 76 0 ety23 (.plain rfl) (.plain rfl) (fun _ => rfl) rfl hm ?_) rfl (fun _ => rfl) rfl (.n (fun _ => op_move (.plain rfl)) (.n (fun _ => op_len (s := 0) Try.underlying22 (.plain rfl)) (.a (fun _ hm => op_make (α := Bool) (d := false) (f := (fun b => [.bool b])) 79 false ety45 (.plain rfl) (.plain rfl) (fun _ => rfl) rfl hm ?_) rfl (fun _ => rfl) rfl (.r (op_buildS (ss := [_, _, _, _, _] ) (xs := [.tmp 70, .tmp 72, .tmp 73, .tmp 76, .tmp 79]) (n := 5) (places := #[(0, 1), (1, 1), (2, 1), (3, 1), (4, 1)]) Try.underlying47 Try.zeroValue47 rfl (by intro w; kernel_rfl) (fun i h => by match i, h with | 0, _ => rfl | 1, _ => rfl | 2, _ => rfl | 3, _ => rfl | 4, _ => rfl) rfl ⟨(.plain rfl), (.plain rfl), (.plain rfl), (.plain rfl), (.plain rfl), trivial⟩ ⟨rfl, (fun _ h => by cases h), (fun _ h => by cases h), rfl, (fun _ h => by cases h), (fun _ h => by cases h; first | exact .inl ⟨_, _, _, _, _, _, rfl⟩ | exact .inr ⟨_, rfl⟩), rfl, (fun _ h => by cases h), (fun _ h => by cases h), rfl, (fun _ h => by cases h), (fun _ h => by cases h; first | exact .inl ⟨_, _, _, _, _, _, rfl⟩ | exact .inr ⟨_, rfl⟩), rfl, (fun _ h => by cases h), (fun _ h => by cases h; first | exact .inl ⟨_, _, _, _, _, _, rfl⟩ | exact .inr ⟨_, rfl⟩), trivial⟩) (.e (op_boxS 81 (.plain rfl) rfl rfl) rfl (.n (fun _ => op_assign (.plain rfl)) (.nil _)))))))))))))) ?d6 ?_
          · first | omega | (simp; omega)
          · omega
          · omega
          · kernel_rfl
          refine awp_seq ?_
          refine awp_seq ?_
          refine awp_region rfl (.n (fun _ => op_move (.plain rfl)) (.n (fun _ => op_nilCheckR (.plain rfl)) (.n (fun _ => op_fieldAddrR Try.underlying47 rfl rfl Try.sizeOf45 (.plain rfl)) (.r (op_loadR Try.isAgg45 (.plain rfl) rfl rfl) (.r (op_callL (vals := [_, _]) Try.call27 ⟨⟨_, (.plain rfl), rfl⟩, ⟨_, (.plain rfl), rfl⟩, trivial⟩ (IndexB_fc _ _) rfl) (.n (fun _ => op_assign (.plain rfl)) (.nil _))))))) ?_
          refine awp_block ?_
          refine awp_loop (σ := Stt) (fun (S : Stt) => SStar W F room S) (fun (S : Stt) => ⟨[(14, .ref 81 0), (15, .int (idxB S.2.1 false))], [(81, .box [.pv (.rows W), .own 72, .pv (.rows F), .own 76, .own 79]), (72, .arr 3 1 Int 0 (fun n => [.int .i64 n]) (S.1)), (76, .arr 3 1 Int 0 (fun n => [.int .i64 n]) (S.2.2)), (79, .arr 4 1 Bool false (fun b => [.bool b]) (S.2.1))]⟩) (fun (S : Stt) => leftN W.length S.2.1) (S0 W room) ?_ (Ent.kept ⟨rfl, rfl, trivial⟩ ⟨rfl, rfl, rfl, rfl, trivial⟩) ?_
          · exact SStar.start
          rintro S hp
          try dsimp only at hp
          have hS := hp
          refine awp_seq ?_
          refine awp_seq ?_
          refine awp_region rfl (.n (fun _ => op_move (.plain rfl)) (.n (fun _ => op_geq (.plain rfl) (.plain rfl)) (.nil _))) ?_
          refine awp_cond rfl (fun h => ?_) (fun h => ?_)
          · try simp only [decide_eq_true_eq, decide_eq_false_iff_not, Bool.and_eq_true, Bool.or_eq_true, Bool.and_eq_false_iff, Bool.or_eq_false_iff, Bool.not_eq_true', Bool.not_eq_false', Bool.not_eq_true, Bool.not_eq_false, Bool.true_eq_false, Bool.false_eq_true] at h
            have hgl := hS.1.2.1
            have hi2 := idxB_some h
            rw [hgl] at hi2
            refine awp_skip ?_
            refine awp_seq ?_
            refine awp_block ?_
            refine awp_region rfl (.n (fun _ => op_move (.plain rfl)) (.n (fun _ => op_move (.plain rfl)) (.e (op_callH (fun k => [0, 0, 0, 0, 0, 0, 0, 0, 0, 0, 0, 0, 0, 0, 0, 0, 0, 0, 0, 0, 0, 0, 0, 0, 0, 0, 0, 0, 0, 0, 0, 0, 0, 0, 0, 0, 0, 0, 0, 0, 0, 0, 0, 0, 0, 0, 0, 0, 0, 0, 81, 72, 76, 79].getD k 0) Try.call28 (round_fch W F room S hok hS.1 _ ?_ ?_) ⟨(.plain rfl), (.plain rfl), trivial⟩ ⟨rfl, rfl, rfl, rfl, trivial⟩ (by kernel_rfl)) rfl (.nil _)))) ?_
            · have := idxB_lt h; omega
            · exact hi2.2
            refine awp_region rfl (.n (fun _ => op_move (.plain rfl)) (.n (fun _ => op_nilCheckR (.plain rfl)) (.n (fun _ => op_fieldAddrR Try.underlying47 rfl rfl Try.sizeOf45 (.plain rfl)) (.r (op_loadR Try.isAgg45 (.plain rfl) rfl rfl) (.r (op_callL (vals := [_, _]) Try.call27 ⟨⟨_, (.plain rfl), rfl⟩, ⟨_, (.plain rfl), rfl⟩, trivial⟩ (IndexB_fc _ _) rfl) (.n (fun _ => op_assign (.plain rfl)) (.nil _))))))) ?_
            exact ⟨_, hS.mv (rndF_mv hok hi2.1 hi2.2), (rndF_mv hok hi2.1 hi2.2).less, (Ent.kept ⟨rfl, rfl, trivial⟩ ⟨rfl, rfl, rfl, rfl, trivial⟩)⟩
          · try simp only [decide_eq_true_eq, decide_eq_false_iff_not, Bool.and_eq_true, Bool.or_eq_true, Bool.and_eq_false_iff, Bool.or_eq_false_iff, Bool.not_eq_true', Bool.not_eq_false', Bool.not_eq_true, Bool.not_eq_false, Bool.true_eq_false, Bool.false_eq_true] at h
            have hgl := hS.1.2.1
            have hdone := hS.done (fun x hx => idxB_none h x (by rw [hgl]; exact hx))
            refine awp_exit ?_
            refine awp_seq ?_
            refine awp_region rfl (.n (fun _ => op_move (.plain rfl)) (.n (fun _ => op_nilCheckR (.plain rfl)) (.n (fun _ => op_fieldAddrR Try.underlying47 rfl rfl Try.sizeOf23 (.plain rfl)) (.r (op_loadR Try.isAgg23 (.plain rfl) rfl rfl) (.n (fun _ => op_assign (.plain rfl)) (.n (fun _ => op_assign (.plain rfl)) (.nil _))))))) ?_
            refine awp_ret ?_
            refine retQ.ret ?_
            refine ret2 rfl rfl rfl rfl rfl ?_
            rw [if_pos hE0, hE0, ← hdone]

set_option maxRecDepth 1000000 in
set_option maxHeartbeats 4000000 in
theorem RSchools_fc (W : List (List Int)) (room : List Int) (F : List (List Int)) : FC Try.prog 9 [.rows W, .ints room, .rows F] (.tup [.ints (if schE W room F = 0 then schF W F room else []), .i (schE W room F)]) := by
  refine FC.intro Try.func9 rfl (Nat.le_of_ble_eq_true rfl) fun hfit => ?_
  obtain ⟨fitl0, fitr0⟩ := (hfit _ (.head _)).rows
  obtain ⟨fitl1, fitr1⟩ := (hfit _ (.tail _ (.head _))).ints
  obtain ⟨fitl2, fitr2⟩ := (hfit _ (.tail _ (.tail _ (.head _)))).rows
  refine awp_seq ?_
  refine awp_region rfl (.n (fun _ => op_assign (.plain rfl)) (.n (fun _ => op_assign (.plain rfl)) (.nil _))) ?_
  refine awp_seq ?_
  refine awp_seq ?_
  refine awp_region rfl (.n (fun _ => op_move (.plain rfl)) (.n (fun _ => op_len (s := 0) Try.underlying22 (.plain rfl)) (.n (fun _ => op_gtr (.plain rfl) (.plain rfl)) (.n (fun _ => op_move (.plain rfl)) (.gn rfl rfl (fun hg _ => op_move (.plain rfl)) (.gn rfl rfl (fun hg _ => op_len (s := 0) Try.underlying23 (.opt rfl fun h => h)) (.gn rfl rfl (fun hg _ => op_gtr (.opt rfl fun h => h) (.plain rfl)) (.n (fun _ => op_or (.plain rfl) (.plain rfl) (.plain rfl) (fun h => eqF h)) (.nil _))))))))) ?_
  refine awp_cond rfl (fun h => ?_) (fun h => ?_)
  · try simp only [decide_eq_true_eq, decide_eq_false_iff_not, Bool.and_eq_true, Bool.or_eq_true, Bool.and_eq_false_iff, Bool.or_eq_false_iff, Bool.not_eq_true', Bool.not_eq_false', Bool.not_eq_true, Bool.not_eq_false, Bool.true_eq_false, Bool.false_eq_true] at h
    refine awp_seq ?_
    refine awp_region rfl (.n (fun _ => op_assign (.plain rfl)) (.n (fun _ => op_assign (.plain rfl)) (.nil _))) ?_
    refine awp_ent (Ent.nilseq 6 Int 0 (fun n => [.int .i64 n]) rfl) ?_
    refine awp_ret ?_
    refine retQ.ret ?_
    refine ret2 rfl rfl rfl rfl rfl ?_
    rw [schE_2 h, if_neg (by omega)]
  · try simp only [decide_eq_true_eq, decide_eq_false_iff_not, Bool.and_eq_true, Bool.or_eq_true, Bool.and_eq_false_iff, Bool.or_eq_false_iff, Bool.not_eq_true', Bool.not_eq_false', Bool.not_eq_true, Bool.not_eq_false, Bool.true_eq_false, Bool.false_eq_true] at h
    have hc1 : ¬ (6 < (W.length : Int) ∨ 6 < (room.length : Int)) := fun c => c.elim h.1 h.2
    refine awp_skip ?_
    refine awp_seq ?_
    refine awp_seq ?_
    refine awp_region rfl (.n (fun _ => op_move (.plain rfl)) (.n (fun _ => op_len (s := 0) Try.underlying22 (.plain rfl)) (.n (fun _ => op_move (.plain rfl)) (.n (fun _ => op_len (s := 0) Try.underlying23 (.plain rfl)) (.n (fun _ => op_neq (.plain rfl) (.plain rfl)) (.nil _)))))) ?_
    refine awp_cond rfl (fun h => ?_) (fun h => ?_)
    · try simp only [decide_eq_true_eq, decide_eq_false_iff_not, Bool.and_eq_true, Bool.or_eq_true, Bool.and_eq_false_iff, Bool.or_eq_false_iff, Bool.not_eq_true', Bool.not_eq_false', Bool.not_eq_true, Bool.not_eq_false, Bool.true_eq_false, Bool.false_eq_true] at h
      refine awp_seq ?_
      refine awp_region rfl (.n (fun _ => op_assign (.plain rfl)) (.n (fun _ => op_assign (.plain rfl)) (.nil _))) ?_
      refine awp_ent (Ent.nilseq 6 Int 0 (fun n => [.int .i64 n]) rfl) ?_
      refine awp_ret ?_
      refine retQ.ret ?_
      refine ret2 rfl rfl rfl rfl rfl ?_
      rw [schE_7 hc1 h, if_neg (by omega)]
    · try simp only [decide_eq_true_eq, decide_eq_false_iff_not, Bool.and_eq_true, Bool.or_eq_true, Bool.and_eq_false_iff, Bool.or_eq_false_iff, Bool.not_eq_true', Bool.not_eq_false', Bool.not_eq_true, Bool.not_eq_false, Bool.true_eq_false, Bool.false_eq_true] at h
      have hc2 := h
      refine awp_skip ?_
      refine awp_seq ?_
      refine awp_seq ?_
      refine awp_region rfl (.n (fun _ => op_assign (.plain rfl)) (.nil _)) ?_
      refine awp_block ?_
      refine awp_loop (σ := Nat) (fun (i : Nat) => i ≤ W.length ∧ firstE (fun i => someE room.length (W.getD i [])) i = 0) (fun (i : Nat) => ⟨[(0, .pv (.rows W)), (1, .pv (.ints room)), (2, .pv (.rows F)), (8, .int (i : Nat))], []⟩) (fun (i : Nat) => W.length - i) 0 ?_ (Ent.kept ⟨rfl, rfl, rfl, rfl, trivial⟩ trivial) ?_
      · exact ⟨Nat.zero_le _, rfl⟩
      rintro i hp
      try dsimp only at hp
      obtain ⟨hk, hE⟩ := hp
      refine awp_seq ?_
      refine awp_seq ?_
      refine awp_region rfl (.n (fun _ => op_move (.plain rfl)) (.n (fun _ => op_move (.plain rfl)) (.n (fun _ => op_len (s := 0) Try.underlying22 (.plain rfl)) (.n (fun _ => op_lss (.plain rfl) (.plain rfl)) (.nil _))))) ?_
      refine awp_cond rfl (fun h => ?_) (fun h => ?_)
      · try simp only [decide_eq_true_eq, decide_eq_false_iff_not, Bool.and_eq_true, Bool.or_eq_true, Bool.and_eq_false_iff, Bool.or_eq_false_iff, Bool.not_eq_true', Bool.not_eq_false', Bool.not_eq_true, Bool.not_eq_false, Bool.true_eq_false, Bool.false_eq_true] at h
        refine awp_skip ?_
        refine awp_seq ?_
        refine awp_block ?_
        refine awp_seq ?_
        refine awp_region rfl (.n (fun _ => op_move (.plain rfl)) (.n (fun _ => op_move (.plain rfl)) (.n (fun _ => op_indexAddrN Try.underlying22 Try.sizeOf23 (.plain rfl) (.plain rfl) (fun _ => rfl) ?_) (.n (fun _ => op_load Try.isAgg23 (.plain rfl)) (.n (fun _ => op_move (.plain rfl)) (.n (fun _ => op_len (s := 0) Try.underlying23 (.plain rfl)) (.n (fun _ => op_call2 Try.call29 (.plain rfl) (.plain rfl) (Some_fc _ _)) (.n (fun _ => op_assign (.plain rfl)) (.nil _))))))))) ?_
        · omega
        refine awp_seq ?_
        refine awp_region rfl (.n (fun _ => op_move (.plain rfl)) (.n (fun _ => op_neq (.plain rfl) (.plain rfl)) (.nil _))) ?_
        refine awp_cond rfl (fun h => ?_) (fun h => ?_)
        · try simp only [decide_eq_true_eq, decide_eq_false_iff_not, Bool.and_eq_true, Bool.or_eq_true, Bool.and_eq_false_iff, Bool.or_eq_false_iff, Bool.not_eq_true', Bool.not_eq_false', Bool.not_eq_true, Bool.not_eq_false, Bool.true_eq_false, Bool.false_eq_true] at h
          refine awp_seq ?_
          refine awp_region rfl (.n (fun _ => op_move (.plain rfl)) (.n (fun _ => op_assign (.plain rfl)) (.n (fun _ => op_assign (.plain rfl)) (.nil _)))) ?_
          refine awp_ent (Ent.nilseq 6 Int 0 (fun n => [.int .i64 n]) rfl) ?_
          refine awp_ret ?_
          refine retQ.ret ?_
          refine ret2 rfl rfl rfl rfl rfl ?_
          rw [schE_w hc1 hc2 hE (by omega) h, if_neg h]
        · try simp only [decide_eq_true_eq, decide_eq_false_iff_not, Bool.and_eq_true, Bool.or_eq_true, Bool.and_eq_false_iff, Bool.or_eq_false_iff, Bool.not_eq_true', Bool.not_eq_false', Bool.not_eq_true, Bool.not_eq_false, Bool.true_eq_false, Bool.false_eq_true] at h
          refine awp_skip ?_
          refine awp_region rfl (.n (fun _ => op_move (.plain rfl)) (.n (fun _ => op_add (.plain rfl) (.plain rfl) ?_) (.n (fun _ => op_assign (.plain rfl)) (.nil _)))) ?_
          · unfold InR; omega
          exact ⟨i + 1, ⟨by omega, firstE_succ hE h⟩, by dsimp only; omega, (Ent.kept ⟨rfl, rfl, rfl, rfl, trivial⟩ trivial)⟩
      · try simp only [decide_eq_true_eq, decide_eq_false_iff_not, Bool.and_eq_true, Bool.or_eq_true, Bool.and_eq_false_iff, Bool.or_eq_false_iff, Bool.not_eq_true', Bool.not_eq_false', Bool.not_eq_true, Bool.not_eq_false, Bool.true_eq_false, Bool.false_eq_true] at h
        have hw := wisE_ok hE (by omega) h
        refine awp_exit ?_
        refine awp_seq ?_
        refine awp_seq ?_
        refine awp_region rfl (.n (fun _ => op_assign (.plain rfl)) (.nil _)) ?_
        refine awp_block ?_
        refine awp_loop (σ := Nat) (fun (k : Nat) => k ≤ room.length ∧ firstE (firE W room F) k = 0) (fun (k : Nat) => ⟨[(0, .pv (.rows W)), (1, .pv (.ints room)), (2, .pv (.rows F)), (10, .int (k : Nat))], []⟩) (fun (k : Nat) => room.length - k) 0 ?_ (Ent.kept ⟨rfl, rfl, rfl, rfl, trivial⟩ trivial) ?_
        · exact ⟨Nat.zero_le _, rfl⟩
        rintro k hp
        try dsimp only at hp
        obtain ⟨hk, hE⟩ := hp
        refine awp_seq ?_
        refine awp_seq ?_
        refine awp_region rfl (.n (fun _ => op_move (.plain rfl)) (.n (fun _ => op_move (.plain rfl)) (.n (fun _ => op_len (s := 0) Try.underlying23 (.plain rfl)) (.n (fun _ => op_lss (.plain rfl) (.plain rfl)) (.nil _))))) ?_
        refine awp_cond rfl (fun h => ?_) (fun h => ?_)
        · try simp only [decide_eq_true_eq, decide_eq_false_iff_not, Bool.and_eq_true, Bool.or_eq_true, Bool.and_eq_false_iff, Bool.or_eq_false_iff, Bool.not_eq_true', Bool.not_eq_false', Bool.not_eq_true, Bool.not_eq_false, Bool.true_eq_false, Bool.false_eq_true] at h
          refine awp_skip ?_
          refine awp_seq ?_
          refine awp_block ?_
          refine awp_seq ?_
          refine awp_region rfl (.n (fun _ => op_move (.plain rfl)) (.n (fun _ => op_move (.plain rfl)) (.n (fun _ => op_indexAddrN Try.underlying22 Try.sizeOf23 (.plain rfl) (.plain rfl) (fun _ => rfl) ?_) (.n (fun _ => op_load Try.isAgg23 (.plain rfl)) (.n (fun _ => op_move (.plain rfl)) (.n (fun _ => op_len (s := 0) Try.underlying22 (.plain rfl)) (.n (fun _ => op_call2 Try.call30 (.plain rfl) (.plain rfl) (OrderOf_fc _ _)) (.n (fun _ => op_assign (.plain rfl)) (.nil _))))))))) ?_
          · omega
          refine awp_seq ?_
          refine awp_seq ?_
          refine awp_region rfl (.n (fun _ => op_move (.plain rfl)) (.n (fun _ => op_neq (.plain rfl) (.plain rfl)) (.nil _))) ?_
          refine awp_cond rfl (fun h => ?_) (fun h => ?_)
          · try simp only [decide_eq_true_eq, decide_eq_false_iff_not, Bool.and_eq_true, Bool.or_eq_true, Bool.and_eq_false_iff, Bool.or_eq_false_iff, Bool.not_eq_true', Bool.not_eq_false', Bool.not_eq_true, Bool.not_eq_false, Bool.true_eq_false, Bool.false_eq_true] at h
            refine awp_seq ?_
            refine awp_region rfl (.n (fun _ => op_move (.plain rfl)) (.n (fun _ => op_assign (.plain rfl)) (.n (fun _ => op_assign (.plain rfl)) (.nil _)))) ?_
            refine awp_ent (Ent.nilseq 6 Int 0 (fun n => [.int .i64 n]) rfl) ?_
            refine awp_ret ?_
            refine retQ.ret ?_
            refine ret2 rfl rfl rfl rfl rfl ?_
            rw [schE_at hc1 hc2 hw hE (by omega) (firE_ord h) h, if_neg h]
          · try simp only [decide_eq_true_eq, decide_eq_false_iff_not, Bool.and_eq_true, Bool.or_eq_true, Bool.and_eq_false_iff, Bool.or_eq_false_iff, Bool.not_eq_true', Bool.not_eq_false', Bool.not_eq_true, Bool.not_eq_false, Bool.true_eq_false, Bool.false_eq_true] at h
            have ho := h
            refine awp_skip ?_
            refine awp_seq ?_
            refine awp_region rfl (.n (fun _ => op_move (.plain rfl)) (.n (fun _ => op_move (.plain rfl)) (.n (fun _ => op_indexAddrN Try.underlying23 Try.sizeOf3 (.plain rfl) (.plain rfl) (fun _ => rfl) ?_) (.n (fun _ => op_load Try.isAgg3 (.plain rfl)) (.n (fun _ => op_lss (.plain rfl) (.plain rfl)) (.n (fun _ => op_move (.plain rfl)) (.gn rfl rfl (fun hg _ => op_move (.plain rfl)) (.gn rfl rfl (fun hg _ => op_move (.plain rfl)) (.gn rfl rfl (fun hg _ => op_indexAddrN Try.underlying23 Try.sizeOf3 (.opt rfl fun h => h) (.opt rfl fun h => h) (fun _ => rfl) ?_) (.gn rfl rfl (fun hg _ => op_load Try.isAgg3 (.opt rfl fun h => h)) (.gn rfl rfl (fun hg _ => op_gtr (.opt rfl fun h => h) (.plain rfl)) (.n (fun _ => op_or (.plain rfl) (.plain rfl) (.plain rfl) (fun h => eqF h)) (.nil _))))))))))))) ?_
            · omega
            · try simp only [beq_iff_eq, beq_true, beq_false, Bool.and_eq_true, decide_eq_true_eq, decide_eq_false_iff_not, Bool.not_eq_true', Bool.or_eq_true, Bool.or_eq_false_iff] at hg
              omega
            refine awp_cond rfl (fun h => ?_) (fun h => ?_)
            · try simp only [decide_eq_true_eq, decide_eq_false_iff_not, Bool.and_eq_true, Bool.or_eq_true, Bool.and_eq_false_iff, Bool.or_eq_false_iff, Bool.not_eq_true', Bool.not_eq_false', Bool.not_eq_true, Bool.not_eq_false, Bool.true_eq_false, Bool.false_eq_true] at h
              refine awp_seq ?_
              refine awp_region rfl (.n (fun _ => op_assign (.plain rfl)) (.n (fun _ => op_assign (.plain rfl)) (.nil _))) ?_
              refine awp_ent (Ent.nilseq 6 Int 0 (fun n => [.int .i64 n]) rfl) ?_
              refine awp_ret ?_
              refine retQ.ret ?_
              refine ret2 rfl rfl rfl rfl rfl ?_
              rw [schE_at hc1 hc2 hw hE (by omega) (firE_9 ho h) (by omega), if_neg (by omega)]
            · try simp only [decide_eq_true_eq, decide_eq_false_iff_not, Bool.and_eq_true, Bool.or_eq_true, Bool.and_eq_false_iff, Bool.or_eq_false_iff, Bool.not_eq_true', Bool.not_eq_false', Bool.not_eq_true, Bool.not_eq_false, Bool.true_eq_false, Bool.false_eq_true] at h
              have h68 : ¬ (room.getD k 0 < 0 ∨ 6 < room.getD k 0) := fun c => c.elim h.1 h.2
              refine awp_skip ?_
              refine awp_region rfl (.n (fun _ => op_move (.plain rfl)) (.n (fun _ => op_add (.plain rfl) (.plain rfl) ?_) (.n (fun _ => op_assign (.plain rfl)) (.nil _)))) ?_
              · unfold InR; omega
              exact ⟨k + 1, ⟨by omega, firstE_succ hE (firE_0 ho h68)⟩, by dsimp only; omega, (Ent.kept ⟨rfl, rfl, rfl, rfl, trivial⟩ trivial)⟩
        · try simp only [decide_eq_true_eq, decide_eq_false_iff_not, Bool.and_eq_true, Bool.or_eq_true, Bool.and_eq_false_iff, Bool.or_eq_false_iff, Bool.not_eq_true', Bool.not_eq_false', Bool.not_eq_true, Bool.not_eq_false, Bool.true_eq_false, Bool.false_eq_true] at h
          obtain rfl : k = room.length := by omega
          have hok := schOk_of hc1 hc2 hw hE
          have hE0 : schE W room F = 0 := by rw [schE_f hc1 hc2 hw]; exact hE
          have hn6 := hok.n6
          have hm6 := hok.m6
          have hfl := hok.fl
          refine awp_exit ?_
          refine awp_seq ?_
          refine awp_region rfl (.n (fun _ => op_move (.plain rfl)) (.n (fun _ => op_len (s := 0) Try.underlying22 (.plain rfl)) (.n (fun _ => op_assign (.plain rfl)) (.nil _)))) ?_
          refine awp_seq ?_
          refine awp_region rfl (.e (op_slitO (pp := []) (α := Int) (d := 0) (f := (fun n => [.int .i64 n])) 86 [] ety23 rfl trivial rfl (by decide) rfl (fun _ => rfl) rfl) rfl (.n (fun _ => op_move (.plain rfl)) (.e (op_append (id' := 88) (α := Int) (d := 0) (f := (fun n => [.int .i64 n])) ety23 Try.underlying23 (fun _ => rfl) (fun _ => rfl) (.plain rfl) rfl (.plain rfl) rfl ?_) rfl (.n (fun _ => op_assign (.plain rfl)) (.nil _))))) ?_
          · first | omega | (simp; omega)
          refine awp_seq ?_
          refine awp_region rfl (.n (fun _ => op_move (.plain rfl)) (.e (op_make (α := Int) (d := 0) (f := (fun n => [.int .i64 n])) 90 0 ety23 (.plain rfl) (.plain rfl) (fun _ => rfl) rfl rfl ?_) rfl (.n (fun _ => op_assign (.plain rfl)) (.nil _)))) ?_
          · omega
          refine awp_seq ?_
          refine awp_region rfl (.n (fun _ => op_move (.plain rfl)) (.e (op_make (α := Bool) (d := false) (f := (fun b => [.bool b])) 92 false ety45 (.plain rfl) (.plain rfl) (fun _ => rfl) rfl rfl ?_) rfl (.n (fun _ => op_assign (.plain rfl)) (.nil _)))) ?_
          · omega
          refine awp_seq ?_
          refine awp_seq ?_
          refine awp_region rfl (.n (fun _ => op_assign (.plain rfl)) (.nil _)) ?_
          refine awp_block ?_
          refine awp_ent (Ent.ren 88 1013 rfl rfl rfl) ?_
          refine awp_ent (Ent.ren 90 1014 rfl rfl rfl) ?_
          refine awp_ent (Ent.ren 92 1015 rfl rfl rfl) ?_
          refine awp_loop (σ := Stt × Nat) (fun (s : Stt × Nat) => SStar W F room s.1 ∧ s.2 ≤ 2 * W.length + 1 ∧ (leftN W.length s.1.2.1 + s.2 ≤ W.length ∨ leftN W.length s.1.2.1 = 0)) (fun (s : Stt × Nat) => ⟨[(0, .pv (.rows W)), (2, .pv (.rows F)), (12, .int (W.length : Nat)), (13, .own 1013), (14, .own 1014), (15, .own 1015), (16, .int (s.2 : Nat))], [(1013, .arr 3 1 Int 0 (fun n => [.int .i64 n]) (s.1.1)), (1014, .arr 3 1 Int 0 (fun n => [.int .i64 n]) (s.1.2.2)), (1015, .arr 4 1 Bool false (fun b => [.bool b]) (s.1.2.1))]⟩) (fun (s : Stt × Nat) => 2 * W.length + 1 - s.2) (S0 W room, 0) ?_ (Ent.kept ⟨rfl, rfl, rfl, rfl, rfl, rfl, rfl, trivial⟩ ⟨rfl, rfl, rfl, trivial⟩) ?_
          · exact ⟨SStar.start, by omega, .inl (by have := leftN_le W.length (S0 W room).2.1; omega)⟩
          rintro ⟨S, k⟩ hp
          try dsimp only at hp
          obtain ⟨hS, hk, hlf⟩ := hp
          refine awp_fitH (id := 1013) rfl fun hf2 => ?_
          refine awp_seq ?_
          refine awp_seq ?_
          refine awp_region rfl (.n (fun _ => op_move (.plain rfl)) (.n (fun _ => op_move (.plain rfl)) (.n (fun _ => op_mul (.plain rfl) (.plain rfl) ?_) (.n (fun _ => op_add (.plain rfl) (.plain rfl) ?_) (.n (fun _ => op_lss (.plain rfl) (.plain rfl)) (.nil _)))))) ?_
          · unfold InR; omega
          · unfold InR; omega
          refine awp_cond rfl (fun h => ?_) (fun h => ?_)
          · try simp only [decide_eq_true_eq, decide_eq_false_iff_not, Bool.and_eq_true, Bool.or_eq_true, Bool.and_eq_false_iff, Bool.or_eq_false_iff, Bool.not_eq_true', Bool.not_eq_false', Bool.not_eq_true, Bool.not_eq_false, Bool.true_eq_false, Bool.false_eq_true] at h
            have hl := hS.1
            have h2l := hl.2.1
            have h3l := hl.2.2
            have hT := allDrop_star hok hS
            have hTl := hT.1
            have hTd := allDrop_left (W := W) (S := S)
            have hsc : ∀ x, x < W.length → _ → _ := fun x hx hg => allDrop_sc hl hx hg
            refine awp_skip ?_
            refine awp_seq ?_
            refine awp_block ?_
            refine awp_seq ?_
            refine awp_seq ?_
            refine awp_region rfl (.n (fun _ => op_assign (.plain rfl)) (.nil _)) ?_
            refine awp_block ?_
            refine awp_loop (σ := Nat) (fun (i : Nat) => i ≤ W.length) (fun (i : Nat) => ⟨[(0, .pv (.rows W)), (2, .pv (.rows F)), (12, .int (W.length : Nat)), (13, .own 1013), (14, .own 1014), (15, .own 1015), (16, .int (k : Nat)), (17, .int (i : Nat))], [(1013, .arr 3 1 Int 0 (fun n => [.int .i64 n]) (S.1)), (1014, .arr 3 1 Int 0 (fun n => [.int .i64 n]) ((dropTo W.length S (dp W S i)).2.2)), (1015, .arr 4 1 Bool false (fun b => [.bool b]) ((dropTo W.length S (dp W S i)).2.1))]⟩) (fun (i : Nat) => W.length - i) 0 ?_ (Ent.kept ⟨rfl, rfl, rfl, rfl, rfl, rfl, rfl, rfl, trivial⟩ ⟨rfl, (congrArg (fun l => some (Blk.arr 3 1 Int 0 (fun n => [.int .i64 n]) l)) (by rw [drop_none hl _ fun x _ => by rw [dp_zero]])), (congrArg (fun l => some (Blk.arr 4 1 Bool false (fun b => [.bool b]) l)) (by rw [drop_none hl _ fun x _ => by rw [dp_zero]])), trivial⟩) ?_
            · simp
            rintro i hp
            try dsimp only at hp
            refine awp_seq ?_
            refine awp_seq ?_
            refine awp_region rfl (.n (fun _ => op_move (.plain rfl)) (.n (fun _ => op_move (.plain rfl)) (.n (fun _ => op_lss (.plain rfl) (.plain rfl)) (.nil _)))) ?_
            refine awp_cond rfl (fun h => ?_) (fun h => ?_)
            · try simp only [decide_eq_true_eq, decide_eq_false_iff_not, Bool.and_eq_true, Bool.or_eq_true, Bool.and_eq_false_iff, Bool.or_eq_false_iff, Bool.not_eq_true', Bool.not_eq_false', Bool.not_eq_true, Bool.not_eq_false, Bool.true_eq_false, Bool.false_eq_true] at h
              have hi : i < W.length := by omega
              have hgi := drop_gone_at (S := S) (n := W.length) hi (dp_self (W := W) (S := S))
              refine awp_skip ?_
              refine awp_seq ?_
              refine awp_block ?_
              refine awp_seq ?_
              refine awp_region rfl (.n (fun _ => op_move (.plain rfl)) (.n (fun _ => op_move (.plain rfl)) (.n (fun _ => op_indexAddrN Try.underlying22 Try.sizeOf23 (.plain rfl) (.plain rfl) (fun _ => rfl) ?_) (.n (fun _ => op_load Try.isAgg23 (.plain rfl)) (.n (fun _ => op_move (.plain rfl)) (.r (op_callL (vals := [_, _]) Try.call31 ⟨⟨_, (.plain rfl), rfl⟩, ⟨_, (.plain rfl), rfl⟩, trivial⟩ (school_fc _ _ ?_) rfl) (.n (fun _ => op_assign (.plain rfl)) (.nil _)))))))) ?_
              · omega
              · exact sch_ins hok hl hi
              refine awp_seq ?_
              refine awp_region rfl (.n (fun _ => op_move (.plain rfl)) (.n (fun _ => op_move (.plain rfl)) (.r (op_indexAddrON Try.underlying45 Try.sizeOf4 (.plain rfl) rfl (.plain rfl) ?_) (.r (op_loadE Try.isAgg4 (.plain rfl) rfl (fun _ => rfl) ?_ rfl) (.n (fun _ => op_not (.plain rfl)) (.n (fun _ => op_move (.plain rfl)) (.gn rfl rfl (fun hg _ => op_move (.plain rfl)) (.gn rfl rfl (fun hg _ => op_lss (.opt rfl fun h => h) (.plain rfl)) (.n (fun _ => op_and (.plain rfl) (.plain rfl) (.plain rfl) (fun h => eqT h)) (.nil _)))))))))) ?_
              · simp; omega
              · simp; omega
              refine awp_cond rfl (fun h => ?_) (fun h => ?_)
              · try simp only [decide_eq_true_eq, decide_eq_false_iff_not, Bool.and_eq_true, Bool.or_eq_true, Bool.and_eq_false_iff, Bool.or_eq_false_iff, Bool.not_eq_true', Bool.not_eq_false', Bool.not_eq_true, Bool.not_eq_false, Bool.true_eq_false, Bool.false_eq_true] at h
                have hy : S.2.1.getD i false = false ∧ sAt W S i < 0 := ⟨by rw [← hgi]; exact h.1, h.2⟩
                refine awp_seq ?_
                refine awp_region rfl (.n (fun _ => op_move (.plain rfl)) (.n (fun _ => op_move (.plain rfl)) (.r (op_indexAddrON Try.underlying45 Try.sizeOf4 (.plain rfl) rfl (.plain rfl) ?_) (.e (op_storeE _ Try.sizeOf4 (.plain rfl) (.plain rfl) rfl (fun _ => rfl) ?_ (by decide) rfl rfl) rfl (.nil _))))) ?_
                · simp; omega
                · simp; omega
                refine awp_region rfl (.n (fun _ => op_move (.plain rfl)) (.n (fun _ => op_move (.plain rfl)) (.r (op_indexAddrON Try.underlying23 Try.sizeOf3 (.plain rfl) rfl (.plain rfl) ?_) (.e (op_storeE _ Try.sizeOf3 (.plain rfl) (.plain rfl) rfl (fun _ => rfl) ?_ (by decide) rfl rfl) rfl (.nil _))))) ?_
                · simp; omega
                · simp; omega
                refine awp_region rfl (.n (fun _ => op_move (.plain rfl)) (.n (fun _ => op_add (.plain rfl) (.plain rfl) ?_) (.n (fun _ => op_assign (.plain rfl)) (.nil _)))) ?_
                · unfold InR; omega
                exact ⟨i + 1, by omega, by dsimp only; omega, (Ent.kept ⟨rfl, rfl, rfl, rfl, rfl, rfl, rfl, rfl, trivial⟩ ⟨rfl, (congrArg (fun l => some (Blk.arr 3 1 Int 0 (fun n => [.int .i64 n]) l)) (by first | (rw [dp_succ_yes hy]; exact drop_set_got _) | rw [dp_succ_no hn])), (congrArg (fun l => some (Blk.arr 4 1 Bool false (fun b => [.bool b]) l)) (by first | (rw [dp_succ_yes hy]; exact drop_set_gone _) | rw [dp_succ_no hn])), trivial⟩)⟩
              · try simp only [decide_eq_true_eq, decide_eq_false_iff_not, Bool.and_eq_true, Bool.or_eq_true, Bool.and_eq_false_iff, Bool.or_eq_false_iff, Bool.not_eq_true', Bool.not_eq_false', Bool.not_eq_true, Bool.not_eq_false, Bool.true_eq_false, Bool.false_eq_true] at h
                have hn : ¬ (S.2.1.getD i false = false ∧ sAt W S i < 0) := fun c => by
                  have h1 := c.1
                  rw [← hgi] at h1
                  rcases h with h | h
                  · rw [h1] at h; cases h
                  · exact h c.2
                refine awp_skip ?_
                refine awp_region rfl (.n (fun _ => op_move (.plain rfl)) (.n (fun _ => op_add (.plain rfl) (.plain rfl) ?_) (.n (fun _ => op_assign (.plain rfl)) (.nil _)))) ?_
                · unfold InR; omega
                exact ⟨i + 1, by omega, by dsimp only; omega, (Ent.kept ⟨rfl, rfl, rfl, rfl, rfl, rfl, rfl, rfl, trivial⟩ ⟨rfl, (congrArg (fun l => some (Blk.arr 3 1 Int 0 (fun n => [.int .i64 n]) l)) (by first | (rw [dp_succ_yes hy]; exact drop_set_got _) | rw [dp_succ_no hn])), (congrArg (fun l => some (Blk.arr 4 1 Bool false (fun b => [.bool b]) l)) (by first | (rw [dp_succ_yes hy]; exact drop_set_gone _) | rw [dp_succ_no hn])), trivial⟩)⟩
            · try simp only [decide_eq_true_eq, decide_eq_false_iff_not, Bool.and_eq_true, Bool.or_eq_true, Bool.and_eq_false_iff, Bool.or_eq_false_iff, Bool.not_eq_true', Bool.not_eq_false', Bool.not_eq_true, Bool.not_eq_false, Bool.true_eq_false, Bool.false_eq_true] at h
              obtain rfl : i = W.length := by omega
              refine awp_exit ?_
              refine awp_seq ?_
              refine awp_region rfl (.n (fun _ => op_assign (.plain rfl)) (.nil _)) ?_
              refine awp_seq ?_
              refine awp_seq ?_
              refine awp_region rfl (.n (fun _ => op_assign (.plain rfl)) (.nil _)) ?_
              refine awp_block ?_
              refine awp_ent (Ent.begin 19 1019 3 1 Int 0 (fun n => [.int .i64 n]) rfl rfl rfl) ?_
              refine awp_loop (σ := Nat) (fun (i : Nat) => i ≤ W.length) (fun (i : Nat) => ⟨[(0, .pv (.rows W)), (2, .pv (.rows F)), (12, .int (W.length : Nat)), (13, .own 1013), (14, .own 1014), (15, .own 1015), (16, .int (k : Nat)), (19, .own 1019), (20, .int (i : Nat))], [(1013, .arr 3 1 Int 0 (fun n => [.int .i64 n]) ((allDrop W S).1)), (1014, .arr 3 1 Int 0 (fun n => [.int .i64 n]) ((allDrop W S).2.2)), (1015, .arr 4 1 Bool false (fun b => [.bool b]) ((allDrop W S).2.1)), (1019, .arr 3 1 Int 0 (fun n => [.int .i64 n]) (ringI (cycN (fS W F (allDrop W S)) W.length (allDrop W S).2.1 i)))]⟩) (fun (i : Nat) => W.length - i) 0 ?_ (Ent.kept ⟨rfl, rfl, rfl, rfl, rfl, rfl, rfl, rfl, rfl, trivial⟩ ⟨rfl, rfl, rfl, rfl, trivial⟩) ?_
              · simp
              rintro i hp
              try dsimp only at hp
              refine awp_seq ?_
              refine awp_seq ?_
              refine awp_region rfl (.n (fun _ => op_move (.plain rfl)) (.n (fun _ => op_move (.plain rfl)) (.n (fun _ => op_lss (.plain rfl) (.plain rfl)) (.nil _)))) ?_
              refine awp_cond rfl (fun h => ?_) (fun h => ?_)
              · try simp only [decide_eq_true_eq, decide_eq_false_iff_not, Bool.and_eq_true, Bool.or_eq_true, Bool.and_eq_false_iff, Bool.or_eq_false_iff, Bool.not_eq_true', Bool.not_eq_false', Bool.not_eq_true, Bool.not_eq_false, Bool.true_eq_false, Bool.false_eq_true] at h
                have hi : i < W.length := by omega
                refine awp_skip ?_
                refine awp_seq ?_
                refine awp_block ?_
                refine awp_seq ?_
                refine awp_seq ?_
                refine awp_region rfl (.n (fun _ => op_move (.plain rfl)) (.n (fun _ => op_move (.plain rfl)) (.r (op_indexAddrON Try.underlying45 Try.sizeOf4 (.plain rfl) rfl (.plain rfl) ?_) (.r (op_loadE Try.isAgg4 (.plain rfl) rfl (fun _ => rfl) ?_ rfl) (.nil _))))) ?_
                · have := hTl.2.1; omega
                · have := hTl.2.1; omega
                refine awp_cond rfl (fun h => ?_) (fun h => ?_)
                · try simp only [decide_eq_true_eq, decide_eq_false_iff_not, Bool.and_eq_true, Bool.or_eq_true, Bool.and_eq_false_iff, Bool.or_eq_false_iff, Bool.not_eq_true', Bool.not_eq_false', Bool.not_eq_true, Bool.not_eq_false, Bool.true_eq_false, Bool.false_eq_true] at h
                  have hc0 : cyc (fS W F (allDrop W S)) W.length (allDrop W S).2.1 i = false := by unfold cyc; rw [h]; simp
                  refine awp_exit ?_
                  refine awp_region rfl (.n (fun _ => op_move (.plain rfl)) (.n (fun _ => op_add (.plain rfl) (.plain rfl) ?_) (.n (fun _ => op_assign (.plain rfl)) (.nil _)))) ?_
                  · unfold InR; omega
                  exact ⟨i + 1, by omega, by dsimp only; omega, (Ent.kept ⟨rfl, rfl, rfl, rfl, rfl, rfl, rfl, rfl, rfl, trivial⟩ ⟨rfl, rfl, rfl, (congrArg (fun l => some (Blk.arr 3 1 Int 0 (fun n => [.int .i64 n]) l)) (by first | exact congrArg ringI (cycN_no hc0) | exact (ringI_snoc _ _).trans (congrArg ringI (cycN_yes hc1)))), trivial⟩)⟩
                · try simp only [decide_eq_true_eq, decide_eq_false_iff_not, Bool.and_eq_true, Bool.or_eq_true, Bool.and_eq_false_iff, Bool.or_eq_false_iff, Bool.not_eq_true', Bool.not_eq_false', Bool.not_eq_true, Bool.not_eq_false, Bool.true_eq_false, Bool.false_eq_true] at h
                  have hgi := h
                  have hit := iter_in (fS_good (S := (allDrop W S)) hok) hi hgi
                  have hs0 : ∀ j, _ := fun j => hsc _ (hit j).1 (hit j).2
                  have hnx : ∀ j, nxt W F (allDrop W S) (iter (fS W F (allDrop W S)) j i) = (iter (fS W F (allDrop W S)) (j + 1) i : Nat) := fun j => nxt_fS hok (hit j).1 (hit j).2 (hs0 j)
                  refine awp_skip ?_
                  refine awp_seq ?_
                  refine awp_region rfl (.n (fun _ => op_move (.plain rfl)) (.n (fun _ => op_move (.plain rfl)) (.n (fun _ => op_move (.plain rfl)) (.n (fun _ => op_move (.plain rfl)) (.n (fun _ => op_move (.plain rfl)) (.r (op_callL (vals := [_, _, _, _, _]) Try.call32 ⟨⟨_, (.plain rfl), rfl⟩, ⟨_, (.plain rfl), rfl⟩, ⟨_, (.plain rfl), rfl⟩, ⟨_, (.plain rfl), rfl⟩, ⟨_, (.plain rfl), rfl⟩, trivial⟩ (schoolFirst_fc W F room (allDrop W S) hok hTl i ?_ ?_) rfl) (.n (fun _ => op_assign (.plain rfl)) (.nil _)))))))) ?_
                  · exact hi
                  · exact hsc i hi hgi
                  refine awp_seq ?_
                  refine awp_seq ?_
                  refine awp_region rfl (.n (fun _ => op_assign (.plain rfl)) (.nil _)) ?_
                  refine awp_block ?_
                  refine awp_loop (σ := Nat) (fun (k2 : Nat) => k2 ≤ W.length ∧ ∀ j, j < k2 → iter (fS W F (allDrop W S)) (j + 1) i ≠ i) (fun (k2 : Nat) => ⟨[(0, .pv (.rows W)), (2, .pv (.rows F)), (12, .int (W.length : Nat)), (13, .own 1013), (14, .own 1014), (15, .own 1015), (16, .int (k : Nat)), (19, .own 1019), (20, .int (i : Nat)), (21, .int (iter (fS W F (allDrop W S)) (k2 + 1) i : Nat)), (22, .int (k2 : Nat))], [(1013, .arr 3 1 Int 0 (fun n => [.int .i64 n]) ((allDrop W S).1)), (1014, .arr 3 1 Int 0 (fun n => [.int .i64 n]) ((allDrop W S).2.2)), (1015, .arr 4 1 Bool false (fun b => [.bool b]) ((allDrop W S).2.1)), (1019, .arr 3 1 Int 0 (fun n => [.int .i64 n]) (ringI (cycN (fS W F (allDrop W S)) W.length (allDrop W S).2.1 i)))]⟩) (fun (k2 : Nat) => W.length - k2) 0 ?_ (Ent.kept ⟨rfl, rfl, rfl, rfl, rfl, rfl, rfl, rfl, rfl, (congrArg (fun n => some (SV.int n)) (hnx 0)), rfl, trivial⟩ ⟨rfl, rfl, rfl, rfl, trivial⟩) ?_
                  · exact ⟨Nat.zero_le _, fun j hj => absurd hj (Nat.not_lt_zero _)⟩
                  rintro k2 hp
                  try dsimp only at hp
                  obtain ⟨hk, hkj⟩ := hp
                  refine awp_seq ?_
                  refine awp_seq ?_
                  refine awp_region rfl (.n (fun _ => op_move (.plain rfl)) (.n (fun _ => op_move (.plain rfl)) (.n (fun _ => op_lss (.plain rfl) (.plain rfl)) (.n (fun _ => op_move (.plain rfl)) (.gn rfl rfl (fun hg _ => op_move (.plain rfl)) (.gn rfl rfl (fun hg _ => op_move (.plain rfl)) (.gn rfl rfl (fun hg _ => op_neq (.opt rfl fun h => h) (.opt rfl fun h => h)) (.n (fun _ => op_and (.plain rfl) (.plain rfl) (.plain rfl) (fun h => eqT h)) (.nil _))))))))) ?_
                  refine awp_cond rfl (fun h => ?_) (fun h => ?_)
                  · try simp only [decide_eq_true_eq, decide_eq_false_iff_not, Bool.and_eq_true, Bool.or_eq_true, Bool.and_eq_false_iff, Bool.or_eq_false_iff, Bool.not_eq_true', Bool.not_eq_false', Bool.not_eq_true, Bool.not_eq_false, Bool.true_eq_false, Bool.false_eq_true] at h
                    refine awp_skip ?_
                    refine awp_seq ?_
                    refine awp_block ?_
                    refine awp_region rfl (.n (fun _ => op_move (.plain rfl)) (.n (fun _ => op_move (.plain rfl)) (.n (fun _ => op_move (.plain rfl)) (.n (fun _ => op_move (.plain rfl)) (.n (fun _ => op_move (.plain rfl)) (.r (op_callL (vals := [_, _, _, _, _]) Try.call32 ⟨⟨_, (.plain rfl), rfl⟩, ⟨_, (.plain rfl), rfl⟩, ⟨_, (.plain rfl), rfl⟩, ⟨_, (.plain rfl), rfl⟩, ⟨_, (.plain rfl), rfl⟩, trivial⟩ (schoolFirst_fc W F room (allDrop W S) hok hTl (iter (fS W F (allDrop W S)) (k2 + 1) i) ?_ ?_) rfl) (.n (fun _ => op_assign (.plain rfl)) (.nil _)))))))) ?_
                    · exact (hit _).1
                    · exact hs0 _
                    refine awp_region rfl (.n (fun _ => op_move (.plain rfl)) (.n (fun _ => op_add (.plain rfl) (.plain rfl) ?_) (.n (fun _ => op_assign (.plain rfl)) (.nil _)))) ?_
                    · unfold InR; omega
                    refine ⟨k2 + 1, ⟨by omega, fun j hj => ?_⟩, by dsimp only; omega, (Ent.kept ⟨rfl, rfl, rfl, rfl, rfl, rfl, rfl, rfl, rfl, (congrArg (fun n => some (SV.int n)) (hnx (k2 + 1))), rfl, trivial⟩ ⟨rfl, rfl, rfl, rfl, trivial⟩)⟩
                    by_cases e : j = k2
                    · subst e; omega
                    · exact hkj j (by omega)
                  · try simp only [decide_eq_true_eq, decide_eq_false_iff_not, Bool.and_eq_true, Bool.or_eq_true, Bool.and_eq_false_iff, Bool.or_eq_false_iff, Bool.not_eq_true', Bool.not_eq_false', Bool.not_eq_true, Bool.not_eq_false, Bool.true_eq_false, Bool.false_eq_true] at h
                    have hex := h
                    refine awp_exit ?_
                    refine awp_seq ?_
                    refine awp_region rfl (.n (fun _ => op_move (.plain rfl)) (.n (fun _ => op_move (.plain rfl)) (.n (fun _ => op_eql (.plain rfl) (.plain rfl)) (.nil _)))) ?_
                    refine awp_cond rfl (fun h => ?_) (fun h => ?_)
                    · try simp only [decide_eq_true_eq, decide_eq_false_iff_not, Bool.and_eq_true, Bool.or_eq_true, Bool.and_eq_false_iff, Bool.or_eq_false_iff, Bool.not_eq_true', Bool.not_eq_false', Bool.not_eq_true, Bool.not_eq_false, Bool.true_eq_false, Bool.false_eq_true] at h
                      have hc1 : cyc (fS W F (allDrop W S)) W.length (allDrop W S).2.1 i = true := cyc_iff.2 ⟨hi, hgi, k2, hk, by omega⟩
                      refine awp_region rfl (.n (fun _ => op_move (.plain rfl)) (.n (fun _ => op_move (.plain rfl)) (.n (fun _ => op_slit (pp := [(0, _)]) (α := Int) (d := 0) (f := (fun n => [.int .i64 n])) [_] ety23 rfl ⟨rfl, (.plain rfl), (by simp), trivial⟩ rfl (by decide) rfl) (.e (op_append (id' := 163) (α := Int) (d := 0) (f := (fun n => [.int .i64 n])) ety23 Try.underlying23 (fun _ => rfl) (fun _ => rfl) (.plain rfl) rfl (.plain rfl) rfl ?_) rfl (.n (fun _ => op_assign (.plain rfl)) (.nil _)))))) ?_
                      · have h9 := cycN_le (f := (fS W F (allDrop W S))) (n := W.length) (gone := (allDrop W S).2.1) i; simp; omega
                      refine awp_region rfl (.n (fun _ => op_move (.plain rfl)) (.n (fun _ => op_add (.plain rfl) (.plain rfl) ?_) (.n (fun _ => op_assign (.plain rfl)) (.nil _)))) ?_
                      · unfold InR; omega
                      exact ⟨i + 1, by omega, by dsimp only; omega, (Ent.round 163 1019 ⟨rfl, rfl, rfl, rfl, rfl, rfl, rfl, rfl, rfl, trivial⟩ ⟨rfl, rfl, rfl, (congrArg (fun l => some (Blk.arr 3 1 Int 0 (fun n => [.int .i64 n]) l)) (by first | exact congrArg ringI (cycN_no hc0) | exact (ringI_snoc _ _).trans (congrArg ringI (cycN_yes hc1)))), trivial⟩ rfl rfl rfl ⟨rfl, rfl, rfl, rfl, rfl, rfl, rfl, rfl, rfl, trivial⟩ ⟨rfl, rfl, rfl, rfl, trivial⟩)⟩
                    · try simp only [decide_eq_true_eq, decide_eq_false_iff_not, Bool.and_eq_true, Bool.or_eq_true, Bool.and_eq_false_iff, Bool.or_eq_false_iff, Bool.not_eq_true', Bool.not_eq_false', Bool.not_eq_true, Bool.not_eq_false, Bool.true_eq_false, Bool.false_eq_true] at h
                      have hc0 : cyc (fS W F (allDrop W S)) W.length (allDrop W S).2.1 i = false := Bool.eq_false_iff.2 fun c => by
                        obtain ⟨_, _, j, hj, e⟩ := cyc_iff.1 c
                        rcases Nat.lt_trichotomy j k2 with h1 | h1 | h1
                        · exact hkj j h1 e
                        · subst h1; omega
                        · omega
                      refine awp_skip ?_
                      refine awp_region rfl (.n (fun _ => op_move (.plain rfl)) (.n (fun _ => op_add (.plain rfl) (.plain rfl) ?_) (.n (fun _ => op_assign (.plain rfl)) (.nil _)))) ?_
                      · unfold InR; omega
                      exact ⟨i + 1, by omega, by dsimp only; omega, (Ent.kept ⟨rfl, rfl, rfl, rfl, rfl, rfl, rfl, rfl, rfl, trivial⟩ ⟨rfl, rfl, rfl, (congrArg (fun l => some (Blk.arr 3 1 Int 0 (fun n => [.int .i64 n]) l)) (by first | exact congrArg ringI (cycN_no hc0) | exact (ringI_snoc _ _).trans (congrArg ringI (cycN_yes hc1)))), trivial⟩)⟩
              · try simp only [decide_eq_true_eq, decide_eq_false_iff_not, Bool.and_eq_true, Bool.or_eq_true, Bool.and_eq_false_iff, Bool.or_eq_false_iff, Bool.not_eq_true', Bool.not_eq_false', Bool.not_eq_true, Bool.not_eq_false, Bool.true_eq_false, Bool.false_eq_true] at h
                obtain rfl : i = W.length := by omega
                have hnl := cycN_le (f := (fS W F (allDrop W S))) (n := W.length) (gone := (allDrop W S).2.1) W.length
                have hNin : ∀ x, x ∈ (cycN (fS W F (allDrop W S)) W.length (allDrop W S).2.1 W.length) → x < W.length := fun x hx => (cyc_iff.1 (cycN_mem.1 hx)).1
                refine awp_exit ?_
                refine awp_seq ?_
                refine awp_region rfl (.n (fun _ => op_assign (.plain rfl)) (.nil _)) ?_
                refine awp_seq ?_
                refine awp_seq ?_
                refine awp_region rfl (.n (fun _ => op_assign (.plain rfl)) (.nil _)) ?_
                refine awp_block ?_
                refine awp_ent (Ent.begin 23 1023 3 1 Int 0 (fun n => [.int .i64 n]) rfl rfl rfl) ?_
                refine awp_loop (σ := Nat) (fun (i : Nat) => i ≤ ((cycN (fS W F (allDrop W S)) W.length (allDrop W S).2.1 W.length)).length) (fun (i : Nat) => ⟨[(0, .pv (.rows W)), (2, .pv (.rows F)), (12, .int (W.length : Nat)), (13, .own 1013), (14, .own 1014), (15, .own 1015), (16, .int (k : Nat)), (19, .own 1019), (23, .own 1023), (24, .int (i : Nat))], [(1013, .arr 3 1 Int 0 (fun n => [.int .i64 n]) ((allDrop W S).1)), (1014, .arr 3 1 Int 0 (fun n => [.int .i64 n]) ((allDrop W S).2.2)), (1015, .arr 4 1 Bool false (fun b => [.bool b]) ((allDrop W S).2.1)), (1019, .arr 3 1 Int 0 (fun n => [.int .i64 n]) (ringI (cycN (fS W F (allDrop W S)) W.length (allDrop W S).2.1 W.length))), (1023, .arr 3 1 Int 0 (fun n => [.int .i64 n]) (takeL W (allDrop W S) (cycN (fS W F (allDrop W S)) W.length (allDrop W S).2.1 W.length) i))]⟩) (fun (i : Nat) => ((cycN (fS W F (allDrop W S)) W.length (allDrop W S).2.1 W.length)).length - i) 0 ?_ (Ent.kept ⟨rfl, rfl, rfl, rfl, rfl, rfl, rfl, rfl, rfl, rfl, trivial⟩ ⟨rfl, rfl, rfl, rfl, rfl, trivial⟩) ?_
                · simp
                rintro i hp
                try dsimp only at hp
                refine awp_seq ?_
                refine awp_seq ?_
                refine awp_region rfl (.n (fun _ => op_move (.plain rfl)) (.n (fun _ => op_move (.plain rfl)) (.r (op_lenO Try.underlying23 (.plain rfl) rfl) (.n (fun _ => op_lss (.plain rfl) (.plain rfl)) (.nil _))))) ?_
                refine awp_cond rfl (fun h => ?_) (fun h => ?_)
                · try simp only [decide_eq_true_eq, decide_eq_false_iff_not, Bool.and_eq_true, Bool.or_eq_true, Bool.and_eq_false_iff, Bool.or_eq_false_iff, Bool.not_eq_true', Bool.not_eq_false', Bool.not_eq_true, Bool.not_eq_false, Bool.true_eq_false, Bool.false_eq_true] at h
                  have hi2 : i < ((cycN (fS W F (allDrop W S)) W.length (allDrop W S).2.1 W.length)).length := by simpa using h
                  have hri := ringI_getD hi2
                  have hmi := hNin _ (natD_mem hi2)
                  refine awp_skip ?_
                  refine awp_seq ?_
                  refine awp_block ?_
                  refine awp_seq ?_
                  refine awp_region rfl (.n (fun _ => op_move (.plain rfl)) (.n (fun _ => op_move (.plain rfl)) (.n (fun _ => op_move (.plain rfl)) (.r (op_indexAddrON Try.underlying23 Try.sizeOf3 (.plain rfl) rfl (.plain rfl) ?_) (.r (op_loadE Try.isAgg3 (.plain rfl) rfl (fun _ => rfl) ?_ rfl) (.n (fun _ => op_indexAddr Try.underlying22 Try.sizeOf23 (.plain rfl) (.plain rfl) (fun _ => rfl) ?_) (.n (fun _ => op_load Try.isAgg23 (.plain rfl)) (.n (fun _ => op_move (.plain rfl)) (.r (op_callL (vals := [_, _]) Try.call31 ⟨⟨_, (.plain rfl), rfl⟩, ⟨_, (.plain rfl), rfl⟩, trivial⟩ (school_fc _ _ ?_) rfl) (.n (fun _ => op_assign (.plain rfl)) (.nil _))))))))))) ?_
                  · simp; omega
                  · simp; omega
                  · rw [hri]; omega
                  · rw [hri, Int.toNat_natCast]; exact sch_ins hok hTl hmi
                  refine awp_region rfl (.n (fun _ => op_move (.plain rfl)) (.n (fun _ => op_move (.plain rfl)) (.n (fun _ => op_slit (pp := [(0, _)]) (α := Int) (d := 0) (f := (fun n => [.int .i64 n])) [_] ety23 rfl ⟨rfl, (.plain rfl), (by simp), trivial⟩ rfl (by decide) rfl) (.e (op_append (id' := 182) (α := Int) (d := 0) (f := (fun n => [.int .i64 n])) ety23 Try.underlying23 (fun _ => rfl) (fun _ => rfl) (.plain rfl) rfl (.plain rfl) rfl ?_) rfl (.n (fun _ => op_assign (.plain rfl)) (.nil _)))))) ?_
                  · simp; omega
                  refine awp_region rfl (.n (fun _ => op_move (.plain rfl)) (.n (fun _ => op_add (.plain rfl) (.plain rfl) ?_) (.n (fun _ => op_assign (.plain rfl)) (.nil _)))) ?_
                  · unfold InR; omega
                  exact ⟨i + 1, by omega, by dsimp only; omega, (Ent.round 182 1023 ⟨rfl, rfl, rfl, rfl, rfl, rfl, rfl, rfl, rfl, rfl, trivial⟩ ⟨rfl, rfl, rfl, rfl, (congrArg (fun l => some (Blk.arr 3 1 Int 0 (fun n => [.int .i64 n]) l)) (by rw [hri, Int.toNat_natCast]; exact (mapr_succ i _).symm)), trivial⟩ rfl rfl rfl ⟨rfl, rfl, rfl, rfl, rfl, rfl, rfl, rfl, rfl, rfl, trivial⟩ ⟨rfl, rfl, rfl, rfl, rfl, trivial⟩)⟩
                · try simp only [decide_eq_true_eq, decide_eq_false_iff_not, Bool.and_eq_true, Bool.or_eq_true, Bool.and_eq_false_iff, Bool.or_eq_false_iff, Bool.not_eq_true', Bool.not_eq_false', Bool.not_eq_true, Bool.not_eq_false, Bool.true_eq_false, Bool.false_eq_true] at h
                  obtain rfl : i = ((cycN (fS W F (allDrop W S)) W.length (allDrop W S).2.1 W.length)).length := by rw [ringI_length] at h; omega
                  refine awp_exit ?_
                  refine awp_seq ?_
                  refine awp_region rfl (.n (fun _ => op_assign (.plain rfl)) (.nil _)) ?_
                  refine awp_block ?_
                  refine awp_loop (σ := Nat) (fun (j : Nat) => j ≤ ((cycN (fS W F (allDrop W S)) W.length (allDrop W S).2.1 W.length)).length) (fun (j : Nat) => ⟨[(0, .pv (.rows W)), (2, .pv (.rows F)), (12, .int (W.length : Nat)), (13, .own 1013), (14, .own 1014), (15, .own 1015), (16, .int (k : Nat)), (19, .own 1019), (23, .own 1023), (26, .int (j : Nat))], [(1013, .arr 3 1 Int 0 (fun n => [.int .i64 n]) ((part W room.length (allDrop W S) (cycN (fS W F (allDrop W S)) W.length (allDrop W S).2.1 W.length) (j)).1)), (1014, .arr 3 1 Int 0 (fun n => [.int .i64 n]) ((part W room.length (allDrop W S) (cycN (fS W F (allDrop W S)) W.length (allDrop W S).2.1 W.length) (j)).2.2)), (1015, .arr 4 1 Bool false (fun b => [.bool b]) ((part W room.length (allDrop W S) (cycN (fS W F (allDrop W S)) W.length (allDrop W S).2.1 W.length) (j)).2.1)), (1019, .arr 3 1 Int 0 (fun n => [.int .i64 n]) (ringI (cycN (fS W F (allDrop W S)) W.length (allDrop W S).2.1 W.length))), (1023, .arr 3 1 Int 0 (fun n => [.int .i64 n]) (takeL W (allDrop W S) (cycN (fS W F (allDrop W S)) W.length (allDrop W S).2.1 W.length) ((cycN (fS W F (allDrop W S)) W.length (allDrop W S).2.1 W.length)).length))]⟩) (fun (j : Nat) => ((cycN (fS W F (allDrop W S)) W.length (allDrop W S).2.1 W.length)).length - j) 0 ?_ (Ent.kept ⟨rfl, rfl, rfl, rfl, rfl, rfl, rfl, rfl, rfl, rfl, trivial⟩ ⟨(congrArg (fun l => some (Blk.arr 3 1 Int 0 (fun n => [.int .i64 n]) l)) (by rw [part_zero hTl])), (congrArg (fun l => some (Blk.arr 3 1 Int 0 (fun n => [.int .i64 n]) l)) (by rw [part_zero hTl])), (congrArg (fun l => some (Blk.arr 4 1 Bool false (fun b => [.bool b]) l)) (by rw [part_zero hTl])), rfl, rfl, trivial⟩) ?_
                  · simp
                  rintro j hp
                  try dsimp only at hp
                  refine awp_seq ?_
                  refine awp_seq ?_
                  refine awp_region rfl (.n (fun _ => op_move (.plain rfl)) (.n (fun _ => op_move (.plain rfl)) (.r (op_lenO Try.underlying23 (.plain rfl) rfl) (.n (fun _ => op_lss (.plain rfl) (.plain rfl)) (.nil _))))) ?_
                  refine awp_cond rfl (fun h => ?_) (fun h => ?_)
                  · try simp only [decide_eq_true_eq, decide_eq_false_iff_not, Bool.and_eq_true, Bool.or_eq_true, Bool.and_eq_false_iff, Bool.or_eq_false_iff, Bool.not_eq_true', Bool.not_eq_false', Bool.not_eq_true, Bool.not_eq_false, Bool.true_eq_false, Bool.false_eq_true] at h
                    have hj2 : j < ((cycN (fS W F (allDrop W S)) W.length (allDrop W S).2.1 W.length)).length := by simpa using h
                    have hrj := ringI_getD hj2
                    have hjm := natD_mem hj2
                    have hR := cyc_ring hok hsc (show 0 < ((cycN (fS W F (allDrop W S)) W.length (allDrop W S).2.1 W.length)).length by omega)
                    have htj : (takeL W (allDrop W S) (cycN (fS W F (allDrop W S)) W.length (allDrop W S).2.1 W.length) ((cycN (fS W F (allDrop W S)) W.length (allDrop W S).2.1 W.length)).length).getD j 0 = sAt W (allDrop W S) (((cycN (fS W F (allDrop W S)) W.length (allDrop W S).2.1 W.length)).getD j 0) := mapr_getD _ hj2
                    refine awp_skip ?_
                    refine awp_seq ?_
                    refine awp_block ?_
                    refine awp_seq ?_
                    refine awp_region_draw mixed rfl (.n (fun _ => op_move (.plain rfl)) (.n (fun _ => op_move (.plain rfl)) (.n (fun _ => op_move (.plain rfl)) (.r (op_indexAddrON Try.underlying23 Try.sizeOf3 (.plain rfl) rfl (.plain rfl) ?_) (.r (op_loadE Try.isAgg3 (.plain rfl) rfl (fun _ => rfl) ?_ rfl) (.n (fun _ => op_move (.plain rfl)) (.n (fun _ => op_move (.plain rfl)) (.r (op_indexAddrON Try.underlying23 Try.sizeOf3 (.plain rfl) rfl (.plain rfl) ?_) (.r (op_loadE Try.isAgg3 (.plain rfl) rfl (fun _ => rfl) ?_ rfl) (.r (op_indexAddrO Try.underlying23 Try.sizeOf3 (.plain rfl) rfl (.plain rfl) ?_) (.e (op_storeE _ Try.sizeOf3 (.plain rfl) (.plain rfl) rfl (fun _ => rfl) ?_ (by decide) rfl rfl) rfl (.nil _)))))))))))) ?d7 ?_
                    · simp; omega
                    · simp; omega
                    · simp; omega
                    · simp; omega
                    · rw [hrj]; simp only [part_len3]; have := hR.lt _ hjm; omega
                    · rw [hrj]; simp only [part_len3, Int.toNat_natCast]; exact hR.lt _ hjm
                    · kernel_rfl
                    refine awp_seq ?_
                    refine awp_region rfl (.n (fun _ => op_move (.plain rfl)) (.n (fun _ => op_move (.plain rfl)) (.n (fun _ => op_move (.plain rfl)) (.r (op_indexAddrON Try.underlying23 Try.sizeOf3 (.plain rfl) rfl (.plain rfl) ?_) (.r (op_loadE Try.isAgg3 (.plain rfl) rfl (fun _ => rfl) ?_ rfl) (.r (op_indexAddrO Try.underlying45 Try.sizeOf4 (.plain rfl) rfl (.plain rfl) ?_) (.e (op_storeE _ Try.sizeOf4 (.plain rfl) (.plain rfl) rfl (fun _ => rfl) ?_ (by decide) rfl rfl) rfl (.nil _)))))))) ?_
                    · simp; omega
                    · simp; omega
                    · rw [hrj]; simp only [part_len2]; have := hR.lt _ hjm; omega
                    · rw [hrj]; simp only [part_len2, Int.toNat_natCast]; exact hR.lt _ hjm
                    refine awp_region rfl (.n (fun _ => op_move (.plain rfl)) (.n (fun _ => op_move (.plain rfl)) (.n (fun _ => op_move (.plain rfl)) (.r (op_indexAddrON Try.underlying23 Try.sizeOf3 (.plain rfl) rfl (.plain rfl) ?_) (.r (op_loadE Try.isAgg3 (.plain rfl) rfl (fun _ => rfl) ?_ rfl) (.r (op_indexAddrO Try.underlying23 Try.sizeOf3 (.plain rfl) rfl (.plain rfl) ?_) (.r (op_loadE Try.isAgg3 (.plain rfl) rfl (fun _ => rfl) ?_ rfl) (.n (fun _ => op_sub (.plain rfl) (.plain rfl) ?_) (.r (op_indexAddrO Try.underlying23 Try.sizeOf3 (.plain rfl) rfl (.plain rfl) ?_) (.e (op_storeE _ Try.sizeOf3 (.plain rfl) (.plain rfl) rfl (fun _ => rfl) ?_ (by decide) rfl rfl) rfl (.nil _))))))))))) ?_
                    · simp; omega
                    · simp; omega
                    · rw [htj]; simp only [part_len1]; have h5 := sAt_in (S := (allDrop W S)) hok (hR.lt _ hjm); have h6 := hR.sc _ hjm; omega
                    · rw [htj]; simp only [part_len1]; have h5 := sAt_in (S := (allDrop W S)) hok (hR.lt _ hjm); have h6 := hR.sc _ hjm; omega
                    · rw [htj]; exact part_pos hok hTl hR hf2.ints.2 hj2
                    · rw [htj]; simp only [part_len1]; have h5 := sAt_in (S := (allDrop W S)) hok (hR.lt _ hjm); have h6 := hR.sc _ hjm; omega
                    · rw [htj]; simp only [part_len1]; have h5 := sAt_in (S := (allDrop W S)) hok (hR.lt _ hjm); have h6 := hR.sc _ hjm; omega
                    refine awp_region rfl (.n (fun _ => op_move (.plain rfl)) (.n (fun _ => op_add (.plain rfl) (.plain rfl) ?_) (.n (fun _ => op_assign (.plain rfl)) (.nil _)))) ?_
                    · unfold InR; omega
                    exact ⟨j + 1, by omega, by dsimp only; omega, (Ent.kept ⟨rfl, rfl, rfl, rfl, rfl, rfl, rfl, rfl, rfl, rfl, trivial⟩ ⟨(congrArg (fun l => some (Blk.arr 3 1 Int 0 (fun n => [.int .i64 n]) l)) (by rw [htj]; exact part_room hok hR hj2)), (congrArg (fun l => some (Blk.arr 3 1 Int 0 (fun n => [.int .i64 n]) l)) (by rw [hrj, htj, Int.toNat_natCast]; exact part_got hj2)), (congrArg (fun l => some (Blk.arr 4 1 Bool false (fun b => [.bool b]) l)) (by rw [hrj, Int.toNat_natCast]; exact part_gone hj2)), rfl, rfl, trivial⟩)⟩
                  · try simp only [decide_eq_true_eq, decide_eq_false_iff_not, Bool.and_eq_true, Bool.or_eq_true, Bool.and_eq_false_iff, Bool.or_eq_false_iff, Bool.not_eq_true', Bool.not_eq_false', Bool.not_eq_true, Bool.not_eq_false, Bool.true_eq_false, Bool.false_eq_true] at h
                    have hjl : j = ((cycN (fS W F (allDrop W S)) W.length (allDrop W S).2.1 W.length)).length := by rw [ringI_length] at h; omega
                    subst hjl
                    have hnew := ref_round hok hS
                    refine awp_exit ?_
                    refine awp_region rfl (.n (fun _ => op_move (.plain rfl)) (.n (fun _ => op_add (.plain rfl) (.plain rfl) ?_) (.n (fun _ => op_assign (.plain rfl)) (.nil _)))) ?_
                    · unfold InR; omega
                    exact ⟨((part W room.length (allDrop W S) (cycN (fS W F (allDrop W S)) W.length (allDrop W S).2.1 W.length) (((cycN (fS W F (allDrop W S)) W.length (allDrop W S).2.1 W.length)).length)), k + 1), ⟨hnew.1, by omega, by dsimp only; omega⟩, by dsimp only; omega, (Ent.kept ⟨rfl, rfl, rfl, rfl, rfl, rfl, rfl, trivial⟩ ⟨rfl, rfl, rfl, trivial⟩)⟩
          · try simp only [decide_eq_true_eq, decide_eq_false_iff_not, Bool.and_eq_true, Bool.or_eq_true, Bool.and_eq_false_iff, Bool.or_eq_false_iff, Bool.not_eq_true', Bool.not_eq_false', Bool.not_eq_true, Bool.not_eq_false, Bool.true_eq_false, Bool.false_eq_true] at h
            have hdone := hS.done (leftN_zero.1 (by omega))
            refine awp_exit ?_
            refine awp_seq ?_
            refine awp_region rfl (.n (fun _ => op_move (.plain rfl)) (.n (fun _ => op_assign (.plain rfl)) (.n (fun _ => op_assign (.plain rfl)) (.nil _)))) ?_
            refine awp_ret ?_
            refine retQ.ret ?_
            refine ret2 rfl rfl rfl rfl rfl ?_
            rw [if_pos hE0, hE0, ← hdone]

theorem TradeSchools_fc (W : List (List Int)) (room : List Int) (F : List (List Int)) : FC Try.prog 3 [.rows W, .ints room, .rows F] (.bool true) := by
  refine FC.intro Try.func3 rfl (Nat.le_of_ble_eq_true rfl) fun hfit => ?_
  obtain ⟨fitl0, fitr0⟩ := (hfit _ (.head _)).rows
  obtain ⟨fitl1, fitr1⟩ := (hfit _ (.tail _ (.head _))).ints
  obtain ⟨fitl2, fitr2⟩ := (hfit _ (.tail _ (.tail _ (.head _)))).rows
  refine awp_seq ?_
  refine awp_region rfl (.n (fun _ => op_assign (.plain rfl)) (.nil _)) ?_
  refine awp_seq ?_
  refine awp_seq ?_
  refine awp_region rfl (.n (fun _ => op_move (.plain rfl)) (.n (fun _ => op_call1 Try.call7 (.plain rfl) (heavy_fc _)) (.n (fun _ => op_move (.plain rfl)) (.gn rfl rfl (fun hg _ => op_move (.plain rfl)) (.gn rfl rfl (fun hg _ => op_call1 Try.call7 (.opt rfl fun h => h) (heavy_fc _)) (.n (fun _ => op_or (.plain rfl) (.plain rfl) (.plain rfl) (fun h => eqF h)) (.n (fun _ => op_move (.plain rfl)) (.gn rfl rfl (fun hg _ => op_move (.plain rfl)) (.gn rfl rfl (fun hg _ => op_len (s := 0) Try.underlying23 (.opt rfl fun h => h)) (.gn rfl rfl (fun hg _ => op_gtr (.opt rfl fun h => h) (.plain rfl)) (.n (fun _ => op_or (.plain rfl) (.plain rfl) (.plain rfl) (fun h => eqF h)) (.nil _)))))))))))) ?_
  refine awp_cond rfl (fun h => ?_) (fun h => ?_)
  · try simp only [decide_eq_true_eq, decide_eq_false_iff_not, Bool.and_eq_true, Bool.or_eq_true, Bool.and_eq_false_iff, Bool.or_eq_false_iff, Bool.not_eq_true', Bool.not_eq_false', Bool.not_eq_true, Bool.not_eq_false, Bool.true_eq_false, Bool.false_eq_true] at h
    refine awp_seq ?_
    refine awp_region rfl (.n (fun _ => op_assign (.plain rfl)) (.nil _)) ?_
    refine awp_ret ?_
    refine retQ.ret ?_
    refine ret1 rfl rfl rfl ?_
    rfl
  · try simp only [decide_eq_true_eq, decide_eq_false_iff_not, Bool.and_eq_true, Bool.or_eq_true, Bool.and_eq_false_iff, Bool.or_eq_false_iff, Bool.not_eq_true', Bool.not_eq_false', Bool.not_eq_true, Bool.not_eq_false, Bool.true_eq_false, Bool.false_eq_true] at h
    refine awp_skip ?_
    refine awp_seq ?_
    refine awp_region rfl (.n (fun _ => op_move (.plain rfl)) (.n (fun _ => op_move (.plain rfl)) (.n (fun _ => op_move (.plain rfl)) (.n (fun _ => op_call3 Try.call8 (.plain rfl) (.plain rfl) (.plain rfl) (Schools_fc _ _ _)) (.n (fun _ => op_move (.plain rfl)) (.n (fun _ => op_extract (.plain rfl) rfl) (.n (fun _ => op_extract (.plain rfl) rfl) (.n (fun _ => op_assign (.plain rfl)) (.n (fun _ => op_assign (.plain rfl)) (.nil _)))))))))) ?_
    refine awp_seq ?_
    refine awp_region rfl (.n (fun _ => op_move (.plain rfl)) (.n (fun _ => op_move (.plain rfl)) (.n (fun _ => op_move (.plain rfl)) (.n (fun _ => op_call3 Try.call9 (.plain rfl) (.plain rfl) (.plain rfl) (RSchools_fc _ _ _)) (.n (fun _ => op_move (.plain rfl)) (.n (fun _ => op_extract (.plain rfl) rfl) (.n (fun _ => op_extract (.plain rfl) rfl) (.n (fun _ => op_assign (.plain rfl)) (.n (fun _ => op_assign (.plain rfl)) (.nil _)))))))))) ?_
    refine awp_seq ?_
    refine awp_region rfl (.n (fun _ => op_move (.plain rfl)) (.n (fun _ => op_move (.plain rfl)) (.n (fun _ => op_eql (.plain rfl) (.plain rfl)) (.n (fun _ => op_move (.plain rfl)) (.gn rfl rfl (fun hg _ => op_move (.plain rfl)) (.gn rfl rfl (fun hg _ => op_move (.plain rfl)) (.gn rfl rfl (fun hg _ => op_call2 Try.call10 (.opt rfl fun h => h) (.opt rfl fun h => h) (sameInts_fc _ _)) (.n (fun _ => op_and (.plain rfl) (.plain rfl) (.plain rfl) (fun h => eqT h)) (.n (fun _ => op_assign (.plain rfl)) (.nil _)))))))))) ?_
    refine awp_ret ?_
    refine retQ.ret ?_
    refine ret1 rfl rfl rfl ?_
    simp

end Go.Proofs.Ytnbponopcbgndaa

