/- turnpikelaw22.RelayNews, run at each number of backends. -/
import Derived.Test.YtaaofanhjolikaaGreatDoorSxNews
set_option autoImplicit false
set_option relaxedAutoImplicit false
namespace Go.Proofs.YtaaofanhjolikaaGreatDoor.Sx
open Go Go.RowKit
theorem news_2 : (ofB 2).all news = true := by kernel_rfl
theorem news_3 : (ofB 3).all news = true := by kernel_rfl
theorem news_4 : (ofB 4).all news = true := by kernel_rfl
theorem news_5 : (ofB 5).all news = true := by kernel_rfl
theorem news_6 : (ofB 6).all news = true := by kernel_rfl
theorem news_7 : (ofB 7).all news = true := by kernel_rfl
theorem news_8 : (ofB 8).all news = true := by kernel_rfl
theorem news_9 : (ofB 9).all news = true := by kernel_rfl
theorem news_10 : (ofB 10).all news = true := by kernel_rfl
theorem news_11 : (ofB 11).all news = true := by kernel_rfl
theorem news_12 : (ofB 12).all news = true := by kernel_rfl
theorem news_13 : (ofB 13).all news = true := by kernel_rfl
theorem news_14 : (ofB 14).all news = true := by kernel_rfl
theorem news_15 : (ofB 15).all news = true := by kernel_rfl
theorem news_16 : (ofB 16).all news = true := by kernel_rfl
theorem news_b (b : Int) (h1 : 1 ≤ b) (h2 : b ≤ 16) : (ofB b).all news = true := by
  have : b = 1 ∨ b = 2 ∨ b = 3 ∨ b = 4 ∨ b = 5 ∨ b = 6 ∨ b = 7 ∨ b = 8 ∨ b = 9 ∨ b = 10 ∨ b = 11 ∨ b = 12 ∨ b = 13 ∨ b = 14 ∨ b = 15 ∨ b = 16 := by omega
  rcases this with rfl | rfl | rfl | rfl | rfl | rfl | rfl | rfl | rfl | rfl | rfl | rfl | rfl | rfl | rfl | rfl
  · exact news_1
  · exact news_2
  · exact news_3
  · exact news_4
  · exact news_5
  · exact news_6
  · exact news_7
  · exact news_8
  · exact news_9
  · exact news_10
  · exact news_11
  · exact news_12
  · exact news_13
  · exact news_14
  · exact news_15
  · exact news_16
end Go.Proofs.YtaaofanhjolikaaGreatDoor.Sx
