/- The law ClassParts comes out true: all runs. -/
import Derived.Test.YtifnlmfhbepjcaaClsR0
import Derived.Test.YtifnlmfhbepjcaaClsR1
import Derived.Test.YtifnlmfhbepjcaaClsR2
import Derived.Test.YtifnlmfhbepjcaaClsR3
import Derived.Test.YtifnlmfhbepjcaaClsR4
import Derived.Test.YtifnlmfhbepjcaaClsR5
import Derived.Test.YtifnlmfhbepjcaaClsR6
import Derived.Test.YtifnlmfhbepjcaaClsR7
set_option maxRecDepth 100000
namespace Go.Proofs.Ytifnlmfhbepjcaa
open Go Go.X

theorem runs (b : Nat) (hb : b < 256) : isT (G8 0 (Int.ofNat b) (fun y => some ([.bool y], []))) = true := by
  have pick : ∀ i, ((List.range' i 4).all fun b => isT (G8 0 (Int.ofNat b) (fun y => some ([.bool y], [])))) = true → i ≤ b → b < i + 4 → isT (G8 0 (Int.ofNat b) (fun y => some ([.bool y], []))) = true := fun i h h1 h2 =>
    List.all_eq_true.1 h b (by rw [List.mem_range'_1]; omega)
  by_cases h0 : b < 4
  · exact pick 0 run0 (by omega) (by omega)
  by_cases h4 : b < 8
  · exact pick 4 run4 (by omega) (by omega)
  by_cases h8 : b < 12
  · exact pick 8 run8 (by omega) (by omega)
  by_cases h12 : b < 16
  · exact pick 12 run12 (by omega) (by omega)
  by_cases h16 : b < 20
  · exact pick 16 run16 (by omega) (by omega)
  by_cases h20 : b < 24
  · exact pick 20 run20 (by omega) (by omega)
  by_cases h24 : b < 28
  · exact pick 24 run24 (by omega) (by omega)
  by_cases h28 : b < 32
  · exact pick 28 run28 (by omega) (by omega)
  by_cases h32 : b < 36
  · exact pick 32 run32 (by omega) (by omega)
  by_cases h36 : b < 40
  · exact pick 36 run36 (by omega) (by omega)
  by_cases h40 : b < 44
  · exact pick 40 run40 (by omega) (by omega)
  by_cases h44 : b < 48
  · exact pick 44 run44 (by omega) (by omega)
  by_cases h48 : b < 52
  · exact pick 48 run48 (by omega) (by omega)
  by_cases h52 : b < 56
  · exact pick 52 run52 (by omega) (by omega)
  by_cases h56 : b < 60
  · exact pick 56 run56 (by omega) (by omega)
  by_cases h60 : b < 64
  · exact pick 60 run60 (by omega) (by omega)
  by_cases h64 : b < 68
  · exact pick 64 run64 (by omega) (by omega)
  by_cases h68 : b < 72
  · exact pick 68 run68 (by omega) (by omega)
  by_cases h72 : b < 76
  · exact pick 72 run72 (by omega) (by omega)
  by_cases h76 : b < 80
  · exact pick 76 run76 (by omega) (by omega)
  by_cases h80 : b < 84
  · exact pick 80 run80 (by omega) (by omega)
  by_cases h84 : b < 88
  · exact pick 84 run84 (by omega) (by omega)
  by_cases h88 : b < 92
  · exact pick 88 run88 (by omega) (by omega)
  by_cases h92 : b < 96
  · exact pick 92 run92 (by omega) (by omega)
  by_cases h96 : b < 100
  · exact pick 96 run96 (by omega) (by omega)
  by_cases h100 : b < 104
  · exact pick 100 run100 (by omega) (by omega)
  by_cases h104 : b < 108
  · exact pick 104 run104 (by omega) (by omega)
  by_cases h108 : b < 112
  · exact pick 108 run108 (by omega) (by omega)
  by_cases h112 : b < 116
  · exact pick 112 run112 (by omega) (by omega)
  by_cases h116 : b < 120
  · exact pick 116 run116 (by omega) (by omega)
  by_cases h120 : b < 124
  · exact pick 120 run120 (by omega) (by omega)
  by_cases h124 : b < 128
  · exact pick 124 run124 (by omega) (by omega)
  by_cases h128 : b < 132
  · exact pick 128 run128 (by omega) (by omega)
  by_cases h132 : b < 136
  · exact pick 132 run132 (by omega) (by omega)
  by_cases h136 : b < 140
  · exact pick 136 run136 (by omega) (by omega)
  by_cases h140 : b < 144
  · exact pick 140 run140 (by omega) (by omega)
  by_cases h144 : b < 148
  · exact pick 144 run144 (by omega) (by omega)
  by_cases h148 : b < 152
  · exact pick 148 run148 (by omega) (by omega)
  by_cases h152 : b < 156
  · exact pick 152 run152 (by omega) (by omega)
  by_cases h156 : b < 160
  · exact pick 156 run156 (by omega) (by omega)
  by_cases h160 : b < 164
  · exact pick 160 run160 (by omega) (by omega)
  by_cases h164 : b < 168
  · exact pick 164 run164 (by omega) (by omega)
  by_cases h168 : b < 172
  · exact pick 168 run168 (by omega) (by omega)
  by_cases h172 : b < 176
  · exact pick 172 run172 (by omega) (by omega)
  by_cases h176 : b < 180
  · exact pick 176 run176 (by omega) (by omega)
  by_cases h180 : b < 184
  · exact pick 180 run180 (by omega) (by omega)
  by_cases h184 : b < 188
  · exact pick 184 run184 (by omega) (by omega)
  by_cases h188 : b < 192
  · exact pick 188 run188 (by omega) (by omega)
  by_cases h192 : b < 196
  · exact pick 192 run192 (by omega) (by omega)
  by_cases h196 : b < 200
  · exact pick 196 run196 (by omega) (by omega)
  by_cases h200 : b < 204
  · exact pick 200 run200 (by omega) (by omega)
  by_cases h204 : b < 208
  · exact pick 204 run204 (by omega) (by omega)
  by_cases h208 : b < 212
  · exact pick 208 run208 (by omega) (by omega)
  by_cases h212 : b < 216
  · exact pick 212 run212 (by omega) (by omega)
  by_cases h216 : b < 220
  · exact pick 216 run216 (by omega) (by omega)
  by_cases h220 : b < 224
  · exact pick 220 run220 (by omega) (by omega)
  by_cases h224 : b < 228
  · exact pick 224 run224 (by omega) (by omega)
  by_cases h228 : b < 232
  · exact pick 228 run228 (by omega) (by omega)
  by_cases h232 : b < 236
  · exact pick 232 run232 (by omega) (by omega)
  by_cases h236 : b < 240
  · exact pick 236 run236 (by omega) (by omega)
  by_cases h240 : b < 244
  · exact pick 240 run240 (by omega) (by omega)
  by_cases h244 : b < 248
  · exact pick 244 run244 (by omega) (by omega)
  by_cases h248 : b < 252
  · exact pick 248 run248 (by omega) (by omega)
  by_cases h252 : b < 256
  · exact pick 252 run252 (by omega) (by omega)
  omega
theorem ClassParts.main (b : Int) (hb : (Lit.int .u8 b).wf = true) : ∃ k, G8 k b (fun y => some ([.bool y], [])) = some ([.bool true], []) := by
  have hb := wf_u8 hb
  obtain ⟨m, rfl⟩ : ∃ m : Nat, b = Int.ofNat m := ⟨b.toNat, by show b = ((b.toNat : Nat) : Int); omega⟩
  exact ⟨0, isT_eq (runs m (by have : ((m : Nat) : Int) < 256 := hb.2; omega))⟩
end Go.Proofs.Ytifnlmfhbepjcaa
