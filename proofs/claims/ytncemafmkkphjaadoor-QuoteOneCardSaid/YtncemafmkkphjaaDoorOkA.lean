import Derived.Test.YtncemafmkkphjaaDoorIrA
import Derived.Test.YtncemafmkkphjaaDoorProg
import Derived.KernelRfl
namespace Go.Abs.A
open Go.Proofs
theorem ok_3 : mF Tryd.prog 3 (eraseF r_cascadelaw01_TextNames) = true := by kernel_rfl
theorem ok_4 : mF Tryd.prog 4 (eraseF r_cascadelaw01_TextRight) = true := by kernel_rfl
theorem ok_7 : mF Tryd.prog 7 (eraseF r_cascadelaw01_TextOf) = true := by kernel_rfl
theorem ok_9 : mF Tryd.prog 9 (eraseF r_cascadelaw02_QuoteTexts) = true := by kernel_rfl
theorem ok_10 : mF Tryd.prog 10 (eraseF r_cascadelaw02_QuoteOne) = true := by kernel_rfl
theorem ok_11 : mF Tryd.prog 11 (eraseF r_cascadelaw02_QuoteReads) = true := by kernel_rfl
theorem ok_12 : mF Tryd.prog 12 (eraseF r_cascadelaw02_QuoteBack) = true := by kernel_rfl
theorem ok_13 : mF Tryd.prog 13 (eraseF r_cascadelaw02_QuoteCuts) = true := by kernel_rfl
theorem ok_14 : mF Tryd.prog 14 (eraseF r_cascadelaw01_awake) = true := by kernel_rfl
theorem ok_15 : mF Tryd.prog 15 (eraseF r_text_Name) = true := by kernel_rfl
theorem ok_16 : mF Tryd.prog 16 (eraseF r_cascaderef01_Name) = true := by kernel_rfl
theorem ok_17 : mF Tryd.prog 17 (eraseF r_text_Right) = true := by kernel_rfl
theorem ok_18 : mF Tryd.prog 18 (eraseF r_cascaderef01_Bad) = true := by kernel_rfl
theorem ok_19 : mF Tryd.prog 19 (eraseF r_text_Bad) = true := by kernel_rfl
theorem ok_20 : mF Tryd.prog 20 (eraseF r_cascadelaw01_same) = true := by kernel_rfl
theorem ok_21 : mF Tryd.prog 21 (eraseF r_text_Runes) = true := by kernel_rfl
theorem ok_22 : mF Tryd.prog 22 (eraseF r_cascaderef01_Runes) = true := by kernel_rfl
theorem ok_26 : mF Tryd.prog 26 (eraseF r_text_Of) = true := by kernel_rfl
theorem ok_27 : mF Tryd.prog 27 (eraseF r_cascaderef01_Of) = true := by kernel_rfl
theorem ok_28 : mF Tryd.prog 28 (eraseF r_cascadelaw02_awake) = true := by kernel_rfl
theorem ok_29 : mF Tryd.prog 29 (eraseF r_quote_Quote) = true := by kernel_rfl
theorem ok_30 : mF Tryd.prog 30 (eraseF r_cascaderef01_Right) = true := by kernel_rfl
theorem ok_31 : mF Tryd.prog 31 (eraseF r_cascaderef02_Quote) = true := by kernel_rfl
theorem ok_32 : mF Tryd.prog 32 (eraseF r_quote_Unquote) = true := by kernel_rfl
theorem ok_33 : mF Tryd.prog 33 (eraseF r_cascaderef02_Unquote) = true := by kernel_rfl
theorem ok_34 : mF Tryd.prog 34 (eraseF r_text_letter) = true := by kernel_rfl
theorem ok_35 : mF Tryd.prog 35 (eraseF r_cascaderef01_Letter) = true := by kernel_rfl
theorem ok_36 : mF Tryd.prog 36 (eraseF r_cascaderef01_Digit) = true := by kernel_rfl
theorem ok_37 : mF Tryd.prog 37 (eraseF r_cascaderef01_Size) = true := by kernel_rfl
theorem ok_38 : mF Tryd.prog 38 (eraseF ({ code := [], res := [], np := 1, ext := some (.pure ext_unicode_utf8_DecodeRuneInString) } : KF)) = true := by kernel_rfl
theorem ok_40 : mF Tryd.prog 40 (eraseF r_strings_HasPrefix) = true := by kernel_rfl
theorem ok_41 : mF Tryd.prog 41 (eraseF r_unicode_utf8_ValidRune) = true := by kernel_rfl
theorem ok_42 : mF Tryd.prog 42 (eraseF ({ code := [], res := [], np := 2, ext := some (.eff (effRune 53 5)) } : KF)) = true := by kernel_rfl
theorem ok_43 : mF Tryd.prog 43 (eraseF ({ code := [], res := [], np := 1, ext := some (.eff (effText 53 5)) } : KF)) = true := by kernel_rfl
theorem ok_44 : mF Tryd.prog 44 (eraseF r_cascaderef01_Rune) = true := by kernel_rfl
theorem ok_45 : mF Tryd.prog 45 (eraseF ({ code := [], res := [], np := 2, ext := some (.eff (effByte 53 5)) } : KF)) = true := by kernel_rfl
theorem ok_46 : mF Tryd.prog 46 (eraseF r_quote_escape) = true := by kernel_rfl
theorem ok_47 : mF Tryd.prog 47 (eraseF ({ code := [], res := [], np := 2, ext := some (.eff (effStr 53 5)) } : KF)) = true := by kernel_rfl
theorem ok_48 : mF Tryd.prog 48 (eraseF r_cascaderef02_plain) = true := by kernel_rfl
theorem ok_49 : mF Tryd.prog 49 (eraseF r_cascaderef02_hex) = true := by kernel_rfl
theorem ok_50 : mF Tryd.prog 50 (eraseF r_quote_escaped) = true := by kernel_rfl
theorem ok_51 : mF Tryd.prog 51 (eraseF r_cascaderef02_sign) = true := by kernel_rfl
theorem ok_54 : mF Tryd.prog 54 (eraseF r_internal_stringslite_HasPrefix) = true := by kernel_rfl
theorem ok_57 : mF Tryd.prog 57 (eraseF r_quote_short) = true := by kernel_rfl
theorem ok_58 : mF Tryd.prog 58 (eraseF r_quote_unit) = true := by kernel_rfl
theorem ok_59 : mF Tryd.prog 59 (eraseF r_cascaderef02_four) = true := by kernel_rfl
theorem ok_63 : mF Tryd.prog 63 (eraseF r_quote_digit) = true := by kernel_rfl
theorem mixed : Tryd.prog.follows .mixedOrders = true := by kernel_rfl
theorem match_ok : ∀ f rf, oldT table f = some rf → mF Tryd.prog f rf = true := by
  intro f rf h
  unfold oldT at h
  split at h <;> try (cases h; done)
  rename_i kf hk
  cases h
  unfold table at hk
  split at hk
  · cases hk; exact ok_3
  · cases hk; exact ok_4
  · cases hk; exact ok_7
  · cases hk; exact ok_9
  · cases hk; exact ok_10
  · cases hk; exact ok_11
  · cases hk; exact ok_12
  · cases hk; exact ok_13
  · cases hk; exact ok_14
  · cases hk; exact ok_15
  · cases hk; exact ok_16
  · cases hk; exact ok_17
  · cases hk; exact ok_18
  · cases hk; exact ok_19
  · cases hk; exact ok_20
  · cases hk; exact ok_21
  · cases hk; exact ok_22
  · cases hk; exact ok_26
  · cases hk; exact ok_27
  · cases hk; exact ok_28
  · cases hk; exact ok_29
  · cases hk; exact ok_30
  · cases hk; exact ok_31
  · cases hk; exact ok_32
  · cases hk; exact ok_33
  · cases hk; exact ok_34
  · cases hk; exact ok_35
  · cases hk; exact ok_36
  · cases hk; exact ok_37
  · cases hk; exact ok_38
  · cases hk; exact ok_40
  · cases hk; exact ok_41
  · cases hk; exact ok_42
  · cases hk; exact ok_43
  · cases hk; exact ok_44
  · cases hk; exact ok_45
  · cases hk; exact ok_46
  · cases hk; exact ok_47
  · cases hk; exact ok_48
  · cases hk; exact ok_49
  · cases hk; exact ok_50
  · cases hk; exact ok_51
  · cases hk; exact ok_54
  · cases hk; exact ok_57
  · cases hk; exact ok_58
  · cases hk; exact ok_59
  · cases hk; exact ok_63
  · cases hk
end Go.Abs.A
