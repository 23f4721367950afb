/- The interpreter over this seat's program: its tables hold. -/
import Derived.Test.YtcpeljfjgbjnjaaDoorVTab
import Derived.Test.YtcpeljfjgbjnjaaDoorVDrax
import Derived.Test.YtcpeljfjgbjnjaaDoorProg
namespace Go.Proofs.YtcpeljfjgbjnjaaDoor
open Go Go.Vi

/-- The variable that the seat lists: the keys of SHA-256. -/
def keyNums : List Int := [1116352408, 1899447441, 3049323471, 3921009573, 961987163, 1508970993, 2453635748, 2870763221, 3624381080, 310598401, 607225278, 1426881987, 1925078388, 2162078206, 2614888103, 3248222580, 3835390401, 4022224774, 264347078, 604807628, 770255983, 1249150122, 1555081692, 1996064986, 2554220882, 2821834349, 2952996808, 3210313671, 3336571891, 3584528711, 113926993, 338241895, 666307205, 773529912, 1294757372, 1396182291, 1695183700, 1986661051, 2177026350, 2456956037, 2730485921, 2820302411, 3259730800, 3345764771, 3516065817, 3600352804, 4094571909, 275423344, 430227734, 506948616, 659060556, 883997877, 958139571, 1322822218, 1537002063, 1747873779, 1955562222, 2024104815, 2227730452, 2361852424, 2428436474, 2756734187, 3204031479, 3329325298]
def keyCells : List V := keyNums.map (V.int .u32)
noncomputable def Cf : Cfg := { P := Tryd.prog, ty := ty, glob := fun g => bif Nat.beq g 3 then some keyCells else none, live := live }
theorem tab_all : ((List.range 316).all fun t => match ty t with | some i => tyOk Tryd.prog t i | none => true) = true := by kernel_rfl
theorem num_all : (Tryd.prog.funcs.all fun fn => !(fn.name == "runtime.NumGoroutine")) = true := by kernel_rfl
theorem okD_keys : ∀ x, x ∈ keyCells → okD x = true := by
  intro x hx
  unfold keyCells at hx
  obtain ⟨n, _, rfl⟩ := List.mem_map.1 hx
  rfl
theorem cf_ok : CfgOk Cf where
  tab t i h := by
    have := List.all_eq_true.1 tab_all t (List.mem_range.2 (ty_lt h))
    rw [show ty t = some i from h] at this
    exact this
  glob g l h := by
    have h : (bif Nat.beq g 3 then some keyCells else none) = some l := h
    cases hb : Nat.beq g 3 with
    | false => rw [hb] at h; cases h
    | true =>
      rw [hb] at h
      simp only [cond_true, Option.some.injEq] at h
      subst h
      exact okD_keys
  num f fn h := by
    have hm : fn ∈ Tryd.prog.funcs := Array.mem_of_getElem? h
    have := Array.all_eq_true_iff_forall_mem.1 num_all fn hm
    simpa using this
theorem cf_draw : DrawSnd Cf := draw_snd cf_ok
#print axioms cf_draw

end Go.Proofs.YtcpeljfjgbjnjaaDoor
