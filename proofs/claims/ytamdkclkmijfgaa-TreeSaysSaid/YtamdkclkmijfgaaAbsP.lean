/- An owned box is given up: read alone from then on. Conditions: each law names its own. -/
import Derived.Test.YtamdkclkmijfgaaAbsO
namespace Go.Abs
set_option linter.unusedVariables false

theorem Ent.giveBox {env : Env} {H : Heap} (t : Nat) {id : Nat} {cs : List SV} {ps : List PV} (ht : lk env t = some (.ref id 0)) (hl : List.lookup id H = some (.box cs)) (hp : plainAll cs = some ps) :
    Ent ⟨env, H⟩ ⟨(t, .pv (.rd ps)) :: env, hdrop id H⟩ := by
  intro w0 O V n ι a w hs
  refine ⟨ι, (hs.sub fun i b hi => lookup_hdrop_sub hi).put (.pv _ _ ?_)⟩
  have h0 := hs.env t _ ht
  obtain ⟨b, xs, e, hv, hh, hlen, hr⟩ := hs.heap.ok id _ hl
  generalize a.tmps.getD t undef = v at *
  cases h0 with
  | ref _ _ b' hb' =>
  rw [hv] at hb'
  simp only [Value.pointer.injEq, Option.some.injEq, Addr.mk.injEq, and_true] at hb'
  subst hb'
  have hb1 : blkOf (ι id) = some b := by rw [hv]; rfl
  have hfr : Free V ι (hdrop id H) w b := by
    refine ⟨hs.heap.lt ⟨id, _, hl, hb1⟩, hs.heap.vis b ⟨id, _, hl, hb1⟩, ?_⟩
    rintro ⟨i, bl, hi, hb'⟩
    simp only [lookup_hdrop] at hi
    split at hi
    · simp at hi
    · rename_i hne
      exact hne (hs.heap.inj i id bl _ b hi hl hb' hb1)
  have hrl := plainAll_spec hp hlen hr
  refine .rd ps b 0 xs hfr hrl.1 (fun k h1 => by simp [World.cell?, hh, h1]) fun k h1 h2 => (hrl.2 k h1 h2).mono (fun _ _ => rfl) fun b hb => hb.of_sub fun i b hi => lookup_hdrop_sub hi
end Go.Abs
