/- The functions of the program are those of the run: printed by a program. -/
import Derived.Test.YtlkjicigmhhjbaaGreatDoorNdQuick2
import Derived.Test.YtlkjicigmhhjbaaGreatDoorNdTree
import Derived.Test.YtlkjicigmhhjbaaGreatDoorNdGlob
import Derived.KernelRfl
import Derived.Test.YtlkjicigmhhjbaaGreatDoorProg
import Derived.Test.YtlkjicigmhhjbaaGreatDoorTlG
import Derived.Test.YtlkjicigmhhjbaaGreatDoorTlK
set_option linter.unusedVariables false
set_option linter.unusedSimpArgs false
namespace Go.Abs
noncomputable section
namespace Run
abbrev LB (k : Nat) (q : ZE) : Prop := Zsr Go.Proofs.Tryz.prog glob k q
theorem l199 : LB 199 z199 := Z4 (m := 12) (by kernel_rfl)
theorem l200 : LB 200 z200 := Z4 (m := 12) (by kernel_rfl)
theorem l201 : LB 201 z201 := Z4 (m := 12) (by kernel_rfl)
theorem l204 : LB 204 z204 := Z4 (m := 12) (by kernel_rfl)
theorem l205 : LB 205 z205 := Z4 (m := 12) (by kernel_rfl)
theorem l206 : LB 206 z206 := Z4 (m := 12) (by kernel_rfl)
theorem l207 : LB 207 z207 := Z4 (m := 12) (by kernel_rfl)
theorem l208 : LB 208 z208 := Z4 (m := 12) (by kernel_rfl)
theorem l210 : LB 210 z210 := Z4 (m := 12) (by kernel_rfl)
theorem l215 : LB 215 z215 := Z4 (m := 12) (by kernel_rfl)
theorem l216 : LB 216 z216 := Z4 (m := 12) (by kernel_rfl)
theorem l217 : LB 217 z217 := Z4 (m := 12) (by kernel_rfl)
theorem l218 : LB 218 z218 := Z4 (m := 12) (by kernel_rfl)
theorem l219 : LB 219 z219 := Z4 (m := 12) (by kernel_rfl)
theorem l220 : LB 220 z220 := Z4 (m := 12) (by kernel_rfl)
theorem l221 : LB 221 z221 := Z4 (m := 12) (by kernel_rfl)
theorem l222 : LB 222 z222 := Z4 (m := 12) (by kernel_rfl)
theorem l223 : LB 223 z223 := Z4 (m := 12) (by kernel_rfl)
theorem l224 : LB 224 z224 := Z4 (m := 12) (by kernel_rfl)
theorem l225 : LB 225 z225 := Z4 (m := 12) (by kernel_rfl)
theorem l226 : LB 226 z226 := Z4 (m := 12) (by kernel_rfl)
theorem l234 : LB 234 z234 := Z4 (m := 12) (by kernel_rfl)
theorem l235 : LB 235 z235 := Z4 (m := 12) (by kernel_rfl)
theorem l236 : LB 236 z236 := Z4 (m := 12) (by kernel_rfl)
theorem l237 : LB 237 z237 := Z4 (m := 12) (by kernel_rfl)
theorem l239 : LB 239 z239 := Z4 (m := 12) (by kernel_rfl)
theorem l240 : LB 240 z240 := Z4 (m := 12) (by kernel_rfl)
theorem l242 : LB 242 z242 := Z4 (m := 12) (by kernel_rfl)
theorem l243 : LB 243 z243 := Z4 (m := 12) (by kernel_rfl)
theorem l244 : LB 244 z244 := Z4 (m := 12) (by kernel_rfl)
theorem l245 : LB 245 z245 := Z4 (m := 12) (by kernel_rfl)
theorem l247 : LB 247 z247 := Z4 (m := 12) (by kernel_rfl)
theorem l248 : LB 248 z248 := Z4 (m := 12) (by kernel_rfl)
theorem l249 : LB 249 z249 := Z4 (m := 12) (by kernel_rfl)
theorem l251 : LB 251 z251 := Z4 (m := 12) (by kernel_rfl)
theorem l252 : LB 252 z252 := Z4 (m := 12) (by kernel_rfl)
theorem l253 : LB 253 z253 := Z4 (m := 12) (by kernel_rfl)
theorem l254 : LB 254 z254 := Z4 (m := 12) (by kernel_rfl)
theorem l255 : LB 255 z255 := Z4 (m := 12) (by kernel_rfl)
theorem l256 : LB 256 z256 := Z4 (m := 12) (by kernel_rfl)
theorem l260 : LB 260 z260 := Z4 (m := 12) (by kernel_rfl)
theorem l261 : LB 261 z261 := Z4 (m := 12) (by kernel_rfl)
theorem l262 : LB 262 z262 := Z4 (m := 12) (by kernel_rfl)
theorem l263 : LB 263 z263 := Z4 (m := 12) (by kernel_rfl)
theorem l264 : LB 264 z264 := Z4 (m := 12) (by kernel_rfl)
theorem l265 : LB 265 z265 := Z4 (m := 12) (by kernel_rfl)
theorem l266 : LB 266 z266 := Z4 (m := 12) (by kernel_rfl)
theorem l267 : LB 267 z267 := Z4 (m := 12) (by kernel_rfl)
theorem l268 : LB 268 z268 := Z4 (m := 12) (by kernel_rfl)
theorem l270 : LB 270 z270 := Z4 (m := 12) (by kernel_rfl)
theorem l272 : LB 272 z272 := Z4 (m := 12) (by kernel_rfl)
theorem l273 : LB 273 z273 := Z4 (m := 12) (by kernel_rfl)
theorem l274 : LB 274 z274 := Z4 (m := 12) (by kernel_rfl)
theorem l275 : LB 275 z275 := Z4 (m := 12) (by kernel_rfl)
theorem l276 : LB 276 z276 := Z4 (m := 12) (by kernel_rfl)
theorem l279 : LB 279 z279 := Z4 (m := 12) (by kernel_rfl)
theorem l280 : LB 280 z280 := Z4 (m := 12) (by kernel_rfl)
theorem l281 : LB 281 z281 := Z4 (m := 12) (by kernel_rfl)
theorem l282 : LB 282 z282 := Z4 (m := 12) (by kernel_rfl)
theorem l284 : LB 284 z284 := Z4 (m := 12) (by kernel_rfl)
theorem l285 : LB 285 z285 := Z4 (m := 12) (by kernel_rfl)
theorem l286 : LB 286 z286 := Z4 (m := 12) (by kernel_rfl)
theorem l287 : LB 287 z287 := Z4 (m := 12) (by kernel_rfl)
theorem l288 : LB 288 z288 := Z4 (m := 12) (by kernel_rfl)
theorem l290 : LB 290 z290 := Z4 (m := 12) (by kernel_rfl)
theorem l292 : LB 292 z292 := Z4 (m := 12) (by kernel_rfl)
theorem l293 : LB 293 z293 := Z4 (m := 12) (by kernel_rfl)
theorem l294 : LB 294 z294 := Z4 (m := 12) (by kernel_rfl)
theorem l295 : LB 295 z295 := Z4 (m := 12) (by kernel_rfl)
theorem l298 : LB 298 z298 := Z4 (m := 12) (by kernel_rfl)
end Run
end
end Go.Abs
namespace Go.Abs
noncomputable section
namespace Run
theorem l299 : LB 299 z299 := Z4 (m := 12) (by kernel_rfl)
theorem l301 : LB 301 z301 := Z4 (m := 12) (by kernel_rfl)
theorem l302 : LB 302 z302 := Z4 (m := 12) (by kernel_rfl)
theorem l303 : LB 303 z303 := Z4 (m := 12) (by kernel_rfl)
theorem l305 : LB 305 z305 := Z4 (m := 12) (by kernel_rfl)
theorem l311 : LB 311 z311 := Z4 (m := 12) (by kernel_rfl)
theorem l312 : LB 312 z312 := Z4 (m := 12) (by kernel_rfl)
theorem l315 : LB 315 z315 := Z4 (m := 12) (by kernel_rfl)
theorem l316 : LB 316 z316 := Z4 (m := 12) (by kernel_rfl)
theorem l317 : LB 317 z317 := Z4 (m := 12) (by kernel_rfl)
theorem l322 : LB 322 z322 := Z4 (m := 12) (by kernel_rfl)
theorem l323 : LB 323 z323 := Z4 (m := 12) (by kernel_rfl)
end Run
end
end Go.Abs
