/- The table's fractions. -/
import Derived.Test.YtjnkppjlhmkjaaaAvSha4
namespace Go.Proofs.Ytjnkppjlhmkjaaa.Av
open Go
section
variable {β : Type}
def pp : List Int := [2, 3, 5, 7, 11, 13, 17, 19, 23, 29, 31, 37, 41, 43, 47, 53, 59, 61, 67, 71, 73, 79, 83, 89, 97, 101, 103, 107, 109, 113, 127, 131, 137, 139, 149, 151, 157, 163, 167, 173, 179, 181, 191, 193, 197, 199, 211, 223, 227, 229, 233, 239, 241, 251, 257, 263, 269, 271, 277, 281, 283, 293, 307, 311]
theorem primes_eq (k : List Int → Option β) : ref01_primes NN 64 k = k pp := by kernel_rfl
theorem cube2 (k : Int → Option β) : ref01_fraction NN 2 3 k = k 1116352408 := by kernel_rfl
theorem cube3 (k : Int → Option β) : ref01_fraction NN 3 3 k = k 1899447441 := by kernel_rfl
theorem cube5 (k : Int → Option β) : ref01_fraction NN 5 3 k = k 3049323471 := by kernel_rfl
theorem cube7 (k : Int → Option β) : ref01_fraction NN 7 3 k = k 3921009573 := by kernel_rfl
theorem cube11 (k : Int → Option β) : ref01_fraction NN 11 3 k = k 961987163 := by kernel_rfl
theorem cube13 (k : Int → Option β) : ref01_fraction NN 13 3 k = k 1508970993 := by kernel_rfl
theorem cube17 (k : Int → Option β) : ref01_fraction NN 17 3 k = k 2453635748 := by kernel_rfl
theorem cube19 (k : Int → Option β) : ref01_fraction NN 19 3 k = k 2870763221 := by kernel_rfl
theorem cube23 (k : Int → Option β) : ref01_fraction NN 23 3 k = k 3624381080 := by kernel_rfl
theorem cube29 (k : Int → Option β) : ref01_fraction NN 29 3 k = k 310598401 := by kernel_rfl
theorem cube31 (k : Int → Option β) : ref01_fraction NN 31 3 k = k 607225278 := by kernel_rfl
theorem cube37 (k : Int → Option β) : ref01_fraction NN 37 3 k = k 1426881987 := by kernel_rfl
theorem cube41 (k : Int → Option β) : ref01_fraction NN 41 3 k = k 1925078388 := by kernel_rfl
theorem cube43 (k : Int → Option β) : ref01_fraction NN 43 3 k = k 2162078206 := by kernel_rfl
theorem cube47 (k : Int → Option β) : ref01_fraction NN 47 3 k = k 2614888103 := by kernel_rfl
theorem cube53 (k : Int → Option β) : ref01_fraction NN 53 3 k = k 3248222580 := by kernel_rfl
theorem cube59 (k : Int → Option β) : ref01_fraction NN 59 3 k = k 3835390401 := by kernel_rfl
theorem cube61 (k : Int → Option β) : ref01_fraction NN 61 3 k = k 4022224774 := by kernel_rfl
theorem cube67 (k : Int → Option β) : ref01_fraction NN 67 3 k = k 264347078 := by kernel_rfl
theorem cube71 (k : Int → Option β) : ref01_fraction NN 71 3 k = k 604807628 := by kernel_rfl
theorem cube73 (k : Int → Option β) : ref01_fraction NN 73 3 k = k 770255983 := by kernel_rfl
theorem cube79 (k : Int → Option β) : ref01_fraction NN 79 3 k = k 1249150122 := by kernel_rfl
theorem cube83 (k : Int → Option β) : ref01_fraction NN 83 3 k = k 1555081692 := by kernel_rfl
theorem cube89 (k : Int → Option β) : ref01_fraction NN 89 3 k = k 1996064986 := by kernel_rfl
theorem cube97 (k : Int → Option β) : ref01_fraction NN 97 3 k = k 2554220882 := by kernel_rfl
theorem cube101 (k : Int → Option β) : ref01_fraction NN 101 3 k = k 2821834349 := by kernel_rfl
theorem cube103 (k : Int → Option β) : ref01_fraction NN 103 3 k = k 2952996808 := by kernel_rfl
theorem cube107 (k : Int → Option β) : ref01_fraction NN 107 3 k = k 3210313671 := by kernel_rfl
theorem cube109 (k : Int → Option β) : ref01_fraction NN 109 3 k = k 3336571891 := by kernel_rfl
theorem cube113 (k : Int → Option β) : ref01_fraction NN 113 3 k = k 3584528711 := by kernel_rfl
theorem cube127 (k : Int → Option β) : ref01_fraction NN 127 3 k = k 113926993 := by kernel_rfl
theorem cube131 (k : Int → Option β) : ref01_fraction NN 131 3 k = k 338241895 := by kernel_rfl
theorem cube137 (k : Int → Option β) : ref01_fraction NN 137 3 k = k 666307205 := by kernel_rfl
theorem cube139 (k : Int → Option β) : ref01_fraction NN 139 3 k = k 773529912 := by kernel_rfl
theorem cube149 (k : Int → Option β) : ref01_fraction NN 149 3 k = k 1294757372 := by kernel_rfl
theorem cube151 (k : Int → Option β) : ref01_fraction NN 151 3 k = k 1396182291 := by kernel_rfl
theorem cube157 (k : Int → Option β) : ref01_fraction NN 157 3 k = k 1695183700 := by kernel_rfl
theorem cube163 (k : Int → Option β) : ref01_fraction NN 163 3 k = k 1986661051 := by kernel_rfl
theorem cube167 (k : Int → Option β) : ref01_fraction NN 167 3 k = k 2177026350 := by kernel_rfl
theorem cube173 (k : Int → Option β) : ref01_fraction NN 173 3 k = k 2456956037 := by kernel_rfl
theorem cube179 (k : Int → Option β) : ref01_fraction NN 179 3 k = k 2730485921 := by kernel_rfl
theorem cube181 (k : Int → Option β) : ref01_fraction NN 181 3 k = k 2820302411 := by kernel_rfl
theorem cube191 (k : Int → Option β) : ref01_fraction NN 191 3 k = k 3259730800 := by kernel_rfl
theorem cube193 (k : Int → Option β) : ref01_fraction NN 193 3 k = k 3345764771 := by kernel_rfl
theorem cube197 (k : Int → Option β) : ref01_fraction NN 197 3 k = k 3516065817 := by kernel_rfl
theorem cube199 (k : Int → Option β) : ref01_fraction NN 199 3 k = k 3600352804 := by kernel_rfl
theorem cube211 (k : Int → Option β) : ref01_fraction NN 211 3 k = k 4094571909 := by kernel_rfl
theorem cube223 (k : Int → Option β) : ref01_fraction NN 223 3 k = k 275423344 := by kernel_rfl
theorem cube227 (k : Int → Option β) : ref01_fraction NN 227 3 k = k 430227734 := by kernel_rfl
theorem cube229 (k : Int → Option β) : ref01_fraction NN 229 3 k = k 506948616 := by kernel_rfl
theorem cube233 (k : Int → Option β) : ref01_fraction NN 233 3 k = k 659060556 := by kernel_rfl
theorem cube239 (k : Int → Option β) : ref01_fraction NN 239 3 k = k 883997877 := by kernel_rfl
theorem cube241 (k : Int → Option β) : ref01_fraction NN 241 3 k = k 958139571 := by kernel_rfl
theorem cube251 (k : Int → Option β) : ref01_fraction NN 251 3 k = k 1322822218 := by kernel_rfl
theorem cube257 (k : Int → Option β) : ref01_fraction NN 257 3 k = k 1537002063 := by kernel_rfl
theorem cube263 (k : Int → Option β) : ref01_fraction NN 263 3 k = k 1747873779 := by kernel_rfl
theorem cube269 (k : Int → Option β) : ref01_fraction NN 269 3 k = k 1955562222 := by kernel_rfl
theorem cube271 (k : Int → Option β) : ref01_fraction NN 271 3 k = k 2024104815 := by kernel_rfl
theorem cube277 (k : Int → Option β) : ref01_fraction NN 277 3 k = k 2227730452 := by kernel_rfl
theorem cube281 (k : Int → Option β) : ref01_fraction NN 281 3 k = k 2361852424 := by kernel_rfl
theorem cube283 (k : Int → Option β) : ref01_fraction NN 283 3 k = k 2428436474 := by kernel_rfl
theorem cube293 (k : Int → Option β) : ref01_fraction NN 293 3 k = k 2756734187 := by kernel_rfl
theorem cube307 (k : Int → Option β) : ref01_fraction NN 307 3 k = k 3204031479 := by kernel_rfl
theorem cube311 (k : Int → Option β) : ref01_fraction NN 311 3 k = k 3329325298 := by kernel_rfl
theorem square2 (k : Int → Option β) : ref01_fraction NN 2 2 k = k 1779033703 := by kernel_rfl
theorem square3 (k : Int → Option β) : ref01_fraction NN 3 2 k = k 3144134277 := by kernel_rfl
theorem square5 (k : Int → Option β) : ref01_fraction NN 5 2 k = k 1013904242 := by kernel_rfl
theorem square7 (k : Int → Option β) : ref01_fraction NN 7 2 k = k 2773480762 := by kernel_rfl
theorem square11 (k : Int → Option β) : ref01_fraction NN 11 2 k = k 1359893119 := by kernel_rfl
theorem square13 (k : Int → Option β) : ref01_fraction NN 13 2 k = k 2600822924 := by kernel_rfl
theorem square17 (k : Int → Option β) : ref01_fraction NN 17 2 k = k 528734635 := by kernel_rfl
theorem square19 (k : Int → Option β) : ref01_fraction NN 19 2 k = k 1541459225 := by kernel_rfl
end
end Go.Proofs.Ytjnkppjlhmkjaaa.Av
