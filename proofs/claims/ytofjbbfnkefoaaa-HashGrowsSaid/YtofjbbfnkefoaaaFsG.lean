/- Printed by sx.py: words over the heap alone for Go functions, and that each call does what its word says. -/
import Derived.Test.YtofjbbfnkefoaaaSxSel
import Derived.Test.YtofjbbfnkefoaaaSxNest
import Derived.Test.YtofjbbfnkefoaaaProg
namespace Go.Proofs.Ytofjbbfnkefoaaa.Fs
open Go Go.RowKit Go.Proofs.Ytofjbbfnkefoaaa.Sx
set_option linter.unusedVariables false

/-! ### quintet/quintetlaw15.HashRuns: function 4 -/
def quintetlaw15_HashRuns_j15 (K0 : Bool → Hp → Prop) (K1 : Int → (Option Addr) → Nat → Nat → (Option Addr) → (Option Addr) → Nat → Nat → Int → Int → Hp → Prop) (x1690 : Int) (A1691 : Option Addr) (l1691 : Nat) (c1691 : Nat) (p1692 : Option Addr) (A1693 : Option Addr) (l1693 : Nat) (c1693 : Nat) (x1694 : Int) (x1695 : Int) (a1696 : Addr) (b1697 : Bool) (h : Hp) : Prop :=
  ∃ x1714 : Int, PV Try.prog (Builtin.max_ #[3, 3] 3 #[(.int .i64 x1694), (.int .i64 (l1693 : Int))]) (.int .i64 x1714) ∧
  br (!b1697)
  (K0 false h)
  (∃ x1715 : Int, ∃ x1716 : Int, ∃ x1717 : Int, ∃ x1718 : Int, ∃ x1719 : Int, HV Try.prog (Instr.loadAt 36 (.pointer (some (a1696.add 1)))) h (.agg #[(.int .u32 x1715), (.int .u32 x1716), (.int .u16 x1717), (.int .u16 x1718), (.int .u8 x1719)]) ∧ 
  CallsH Try.prog 22 #[(.pointer p1692), (.int .i64 (l1693 : Int)), (.int .i64 x1714), (.agg #[(.int .u32 x1715), (.int .u32 x1716), (.int .u16 x1717), (.int .u16 x1718), (.int .u8 x1719)])] h fun r1721 h1720 =>
  ∃ b1722 : Bool, r1721 = (.bool b1722) ∧ 
  br (!b1722)
  (K0 false h1720)
  (K1 x1690 A1691 l1691 c1691 p1692 A1693 l1693 c1693 x1714 x1695 h1720))
def quintetlaw15_HashRuns_j15_L (Q : Qx) (tm : Tm) (h : Hp) : Prop :=
  selI .i64 (tm 0) fun x1690 =>
  selS (tm 1) fun A1691 l1691 c1691 =>
  selP (tm 5) fun p1692 =>
  selS (tm 7) fun A1693 l1693 c1693 =>
  selI .i64 (tm 8) fun x1694 =>
  selI .i64 (tm 9) fun x1695 =>
  selA (tm 10) fun a1696 =>
  selB (tm 11) fun b1697 =>
  quintetlaw15_HashRuns_j15 (fun (b1707 : Bool) h => Q (.ret) (mkTm [(4, some (.bool b1707))]) h) (fun (x1708 : Int) (A1709 : Option Addr) (l1709 : Nat) (c1709 : Nat) (p1710 : Option Addr) (A1711 : Option Addr) (l1711 : Nat) (c1711 : Nat) (x1712 : Int) (x1713 : Int) h => Q (.normal) (mkTm [(0, some (.int .i64 x1708)), (1, some (.slice A1709 l1709 c1709)), (5, some (.pointer p1710)), (7, some (.slice A1711 l1711 c1711)), (8, some (.int .i64 x1712)), (9, some (.int .i64 x1713))]) h) x1690 A1691 l1691 c1691 p1692 A1693 l1693 c1693 x1694 x1695 a1696 b1697 h
def quintetlaw15_HashRuns_l14 (x1395 : Int) (A1396 : Option Addr) (l1396 : Nat) (c1396 : Nat) (p1397 : Option Addr) (K0 : Bool → Hp → Prop) (K1 : (Option Addr) → (Option Addr) → Nat → Nat → Hp → Prop)  : Nat → (Option Addr) → Nat → Nat → Int → Int → Hp → Prop
  | 0, _, _, _, _, _, _ => False
  | k + 1, A1398, l1398, c1398, x1399, x1400, h =>
    br (decide (x1400 < (l1396 : Int)))
    (∃ a1620 : Addr, PV Try.prog (Instr.indexAt 31 (.slice A1396 l1396 c1396) (.int .i64 x1400)) (.pointer (some a1620)) ∧
    ∃ x1621 : Int, ∃ x1622 : Int, ∃ x1623 : Int, ∃ x1624 : Int, ∃ x1625 : Int, ∃ x1626 : Int, ∃ x1627 : Int, HV Try.prog (Instr.loadAt 38 (.pointer (some a1620))) h (.agg #[(.int .i64 x1621), (.int .u32 x1622), (.int .u32 x1623), (.int .u16 x1624), (.int .u16 x1625), (.int .u8 x1626), (.int .i64 x1627)]) ∧ 
    newC h (.cells #[(.int .i64 0), (.int .u32 0), (.int .u32 0), (.int .u16 0), (.int .u16 0), (.int .u8 0), (.int .i64 0)] 38 (0, 0)) fun a1629 h1628 => 
    HU Try.prog (Instr.storeAt 38 (.pointer (some a1629)) (.agg #[(.int .i64 x1621), (.int .u32 x1622), (.int .u32 x1623), (.int .u16 x1624), (.int .u16 x1625), (.int .u8 x1626), (.int .i64 x1627)])) h1628 fun h1630 => 
    ∃ x1723 : Int, HV Try.prog (Instr.loadAt 3 (.pointer (some a1629))) h1630 (.int .i64 x1723) ∧ 
    br (x1723 == 1)
    (∃ x1724 : Int, ∃ x1725 : Int, ∃ x1726 : Int, ∃ x1727 : Int, ∃ x1728 : Int, HV Try.prog (Instr.loadAt 36 (.pointer (some (a1629.add 1)))) h1630 (.agg #[(.int .u32 x1724), (.int .u32 x1725), (.int .u16 x1726), (.int .u16 x1727), (.int .u8 x1728)]) ∧ 
    ∃ x1729 : Int, HV Try.prog (Instr.loadAt 3 (.pointer (some (a1629.add 6)))) h1630 (.int .i64 x1729) ∧ 
    CallsH Try.prog 15 #[(.pointer p1397), (.agg #[(.int .u32 x1724), (.int .u32 x1725), (.int .u16 x1726), (.int .u16 x1727), (.int .u8 x1728)]), (.int .i64 x1729)] h1630 fun r1731 h1730 =>
    ∃ x1732 : Int, r1731 = (.int .i64 x1732) ∧ 
    ∃ x1733 : Int, ∃ x1734 : Int, ∃ x1735 : Int, ∃ x1736 : Int, ∃ x1737 : Int, HV Try.prog (Instr.loadAt 36 (.pointer (some (a1629.add 1)))) h1730 (.agg #[(.int .u32 x1733), (.int .u32 x1734), (.int .u16 x1735), (.int .u16 x1736), (.int .u8 x1737)]) ∧ 
    ∃ x1738 : Int, HV Try.prog (Instr.loadAt 3 (.pointer (some (a1629.add 6)))) h1730 (.int .i64 x1738) ∧ 
    CallsH Try.prog 16 #[(.slice A1398 l1398 c1398), (.int .i64 x1395), (.agg #[(.int .u32 x1733), (.int .u32 x1734), (.int .u16 x1735), (.int .u16 x1736), (.int .u8 x1737)]), (.int .i64 x1738)] h1730 fun r1740 h1739 =>
    ∃ A1741 : Option Addr, ∃ l1741 : Nat, ∃ c1741 : Nat, ∃ x1742 : Int, r1740 = (.tuple #[(.slice A1741 l1741 c1741), (.int .i64 x1742)]) ∧ 
    quintetlaw15_HashRuns_j15
    (fun (b1743 : Bool) (h1744 : Hp) =>
    K0 b1743 h1744)
    (fun (x1745 : Int) (A1746 : Option Addr) (l1746 : Nat) (c1746 : Nat) (p1747 : Option Addr) (A1748 : Option Addr) (l1748 : Nat) (c1748 : Nat) (x1749 : Int) (x1750 : Int) (h1751 : Hp) =>
    quintetlaw15_HashRuns_l14 x1395 A1396 l1396 c1396 p1397 K0 K1 k A1748 l1748 c1748 x1749 (IntKind.i64.wrap (x1750 + 1)) h1751)
    x1395 A1396 l1396 c1396 p1397 A1741 l1741 c1741 x1399 x1400 a1629 (x1732 == x1742) h1739)
    (br (x1723 == 2)
    (∃ x1752 : Int, ∃ x1753 : Int, ∃ x1754 : Int, ∃ x1755 : Int, ∃ x1756 : Int, HV Try.prog (Instr.loadAt 36 (.pointer (some (a1629.add 1)))) h1630 (.agg #[(.int .u32 x1752), (.int .u32 x1753), (.int .u16 x1754), (.int .u16 x1755), (.int .u8 x1756)]) ∧ 
    CallsH Try.prog 17 #[(.pointer p1397), (.agg #[(.int .u32 x1752), (.int .u32 x1753), (.int .u16 x1754), (.int .u16 x1755), (.int .u8 x1756)])] h1630 fun r1758 h1757 =>
    ∃ x1759 : Int, ∃ b1760 : Bool, r1758 = (.tuple #[(.int .i64 x1759), (.bool b1760)]) ∧ 
    ∃ x1761 : Int, ∃ x1762 : Int, ∃ x1763 : Int, ∃ x1764 : Int, ∃ x1765 : Int, HV Try.prog (Instr.loadAt 36 (.pointer (some (a1629.add 1)))) h1757 (.agg #[(.int .u32 x1761), (.int .u32 x1762), (.int .u16 x1763), (.int .u16 x1764), (.int .u8 x1765)]) ∧ 
    CallsH Try.prog 18 #[(.slice A1398 l1398 c1398), (.agg #[(.int .u32 x1761), (.int .u32 x1762), (.int .u16 x1763), (.int .u16 x1764), (.int .u8 x1765)])] h1757 fun r1767 h1766 =>
    ∃ x1768 : Int, ∃ b1769 : Bool, r1767 = (.tuple #[(.int .i64 x1768), (.bool b1769)]) ∧ 
    br (x1759 == x1768)
    (quintetlaw15_HashRuns_j15
    (fun (b1770 : Bool) (h1771 : Hp) =>
    K0 b1770 h1771)
    (fun (x1772 : Int) (A1773 : Option Addr) (l1773 : Nat) (c1773 : Nat) (p1774 : Option Addr) (A1775 : Option Addr) (l1775 : Nat) (c1775 : Nat) (x1776 : Int) (x1777 : Int) (h1778 : Hp) =>
    quintetlaw15_HashRuns_l14 x1395 A1396 l1396 c1396 p1397 K0 K1 k A1775 l1775 c1775 x1776 (IntKind.i64.wrap (x1777 + 1)) h1778)
    x1395 A1396 l1396 c1396 p1397 A1398 l1398 c1398 x1399 x1400 a1629 (b1760 == b1769) h1766)
    (quintetlaw15_HashRuns_j15
    (fun (b1779 : Bool) (h1780 : Hp) =>
    K0 b1779 h1780)
    (fun (x1781 : Int) (A1782 : Option Addr) (l1782 : Nat) (c1782 : Nat) (p1783 : Option Addr) (A1784 : Option Addr) (l1784 : Nat) (c1784 : Nat) (x1785 : Int) (x1786 : Int) (h1787 : Hp) =>
    quintetlaw15_HashRuns_l14 x1395 A1396 l1396 c1396 p1397 K0 K1 k A1784 l1784 c1784 x1785 (IntKind.i64.wrap (x1786 + 1)) h1787)
    x1395 A1396 l1396 c1396 p1397 A1398 l1398 c1398 x1399 x1400 a1629 false h1766))
    (br (x1723 == 3)
    (∃ x1788 : Int, ∃ x1789 : Int, ∃ x1790 : Int, ∃ x1791 : Int, ∃ x1792 : Int, HV Try.prog (Instr.loadAt 36 (.pointer (some (a1629.add 1)))) h1630 (.agg #[(.int .u32 x1788), (.int .u32 x1789), (.int .u16 x1790), (.int .u16 x1791), (.int .u8 x1792)]) ∧ 
    CallsH Try.prog 19 #[(.pointer p1397), (.agg #[(.int .u32 x1788), (.int .u32 x1789), (.int .u16 x1790), (.int .u16 x1791), (.int .u8 x1792)])] h1630 fun r1794 h1793 =>
    ∃ b1795 : Bool, r1794 = (.bool b1795) ∧ 
    ∃ x1796 : Int, ∃ x1797 : Int, ∃ x1798 : Int, ∃ x1799 : Int, ∃ x1800 : Int, HV Try.prog (Instr.loadAt 36 (.pointer (some (a1629.add 1)))) h1793 (.agg #[(.int .u32 x1796), (.int .u32 x1797), (.int .u16 x1798), (.int .u16 x1799), (.int .u8 x1800)]) ∧ 
    CallsH Try.prog 20 #[(.slice A1398 l1398 c1398), (.agg #[(.int .u32 x1796), (.int .u32 x1797), (.int .u16 x1798), (.int .u16 x1799), (.int .u8 x1800)])] h1793 fun r1802 h1801 =>
    ∃ A1803 : Option Addr, ∃ l1803 : Nat, ∃ c1803 : Nat, ∃ b1804 : Bool, r1802 = (.tuple #[(.slice A1803 l1803 c1803), (.bool b1804)]) ∧ 
    quintetlaw15_HashRuns_j15
    (fun (b1805 : Bool) (h1806 : Hp) =>
    K0 b1805 h1806)
    (fun (x1807 : Int) (A1808 : Option Addr) (l1808 : Nat) (c1808 : Nat) (p1809 : Option Addr) (A1810 : Option Addr) (l1810 : Nat) (c1810 : Nat) (x1811 : Int) (x1812 : Int) (h1813 : Hp) =>
    quintetlaw15_HashRuns_l14 x1395 A1396 l1396 c1396 p1397 K0 K1 k A1810 l1810 c1810 x1811 (IntKind.i64.wrap (x1812 + 1)) h1813)
    x1395 A1396 l1396 c1396 p1397 A1803 l1803 c1803 x1399 x1400 a1629 (b1795 == b1804) h1801)
    (br (x1723 == 4)
    (∃ x1814 : Int, HV Try.prog (Instr.loadAt 3 (.pointer (some (a1629.add 6)))) h1630 (.int .i64 x1814) ∧ 
    CallsH Try.prog 21 #[(.pointer p1397), (.slice A1398 l1398 c1398), (.int .i64 x1814)] h1630 fun r1816 h1815 =>
    ∃ b1817 : Bool, r1816 = (.bool b1817) ∧ 
    quintetlaw15_HashRuns_j15
    (fun (b1818 : Bool) (h1819 : Hp) =>
    K0 b1818 h1819)
    (fun (x1820 : Int) (A1821 : Option Addr) (l1821 : Nat) (c1821 : Nat) (p1822 : Option Addr) (A1823 : Option Addr) (l1823 : Nat) (c1823 : Nat) (x1824 : Int) (x1825 : Int) (h1826 : Hp) =>
    quintetlaw15_HashRuns_l14 x1395 A1396 l1396 c1396 p1397 K0 K1 k A1823 l1823 c1823 x1824 (IntKind.i64.wrap (x1825 + 1)) h1826)
    x1395 A1396 l1396 c1396 p1397 A1398 l1398 c1398 x1399 x1400 a1629 b1817 h1815)
    (quintetlaw15_HashRuns_j15
    (fun (b1827 : Bool) (h1828 : Hp) =>
    K0 b1827 h1828)
    (fun (x1829 : Int) (A1830 : Option Addr) (l1830 : Nat) (c1830 : Nat) (p1831 : Option Addr) (A1832 : Option Addr) (l1832 : Nat) (c1832 : Nat) (x1833 : Int) (x1834 : Int) (h1835 : Hp) =>
    quintetlaw15_HashRuns_l14 x1395 A1396 l1396 c1396 p1397 K0 K1 k A1832 l1832 c1832 x1833 (IntKind.i64.wrap (x1834 + 1)) h1835)
    x1395 A1396 l1396 c1396 p1397 A1398 l1398 c1398 x1399 x1400 a1629 true h1630)))))
    (K1 p1397 A1398 l1398 c1398 h)
def quintetlaw15_HashRuns_l14_L (Q : Qx) (k : Nat) (tm : Tm) (h : Hp) : Prop :=
  selI .i64 (tm 0) fun x1395 =>
  selS (tm 1) fun A1396 l1396 c1396 =>
  selP (tm 5) fun p1397 =>
  selS (tm 7) fun A1398 l1398 c1398 =>
  selI .i64 (tm 8) fun x1399 =>
  selI .i64 (tm 9) fun x1400 =>
  quintetlaw15_HashRuns_l14 x1395 A1396 l1396 c1396 p1397 (fun (b1617 : Bool) h => Q (.ret) (mkTm [(4, some (.bool b1617))]) h) (fun (p1618 : Option Addr) (A1619 : Option Addr) (l1619 : Nat) (c1619 : Nat) h => Q (.exit 0) (mkTm [(5, some (.pointer p1618)), (7, some (.slice A1619 l1619 c1619))]) h) k A1398 l1398 c1398 x1399 x1400 h
def quintetlaw15_HashRuns_j12 (K0 : Bool → Hp → Prop) (x938 : Int) (A939 : Option Addr) (l939 : Nat) (c939 : Nat) (p940 : Option Addr) (h : Hp) : Prop :=
  ∃ k1847, quintetlaw15_HashRuns_l14 x938 A939 l939 c939 p940
  (fun (b1836 : Bool) (h1837 : Hp) =>
  K0 b1836 h1837)
  (fun (p1838 : Option Addr) (A1839 : Option Addr) (l1839 : Nat) (c1839 : Nat) (h1840 : Hp) =>
  CallsH Try.prog 14 #[] h1840 fun r1842 h1841 =>
  ∃ b1843 : Bool, r1842 = (.bool b1843) ∧ 
  br b1843
  (CallsH Try.prog 21 #[(.pointer p1838), (.slice A1839 l1839 c1839), (.int .i64 0)] h1841 fun r1845 h1844 =>
  ∃ b1846 : Bool, r1845 = (.bool b1846) ∧ 
  K0 b1846 h1844)
  (K0 false h1841))
  k1847 none 0 0 0 0 h
def quintetlaw15_HashRuns_j12_L (Q : Qx) (tm : Tm) (h : Hp) : Prop :=
  selI .i64 (tm 0) fun x938 =>
  selS (tm 1) fun A939 l939 c939 =>
  selP (tm 5) fun p940 =>
  quintetlaw15_HashRuns_j12 (fun (b1394 : Bool) h => Q (.ret) (mkTm [(4, some (.bool b1394))]) h) x938 A939 l939 c939 p940 h
def quintetlaw15_HashRuns_j8 (K0 : Bool → Hp → Prop) (x12 : Int) (A13 : Option Addr) (l13 : Nat) (c13 : Nat) (h : Hp) : Prop :=
  CallsH Try.prog 12 #[(.int .i64 x12)] h fun r934 h933 =>
  ∃ p935 : Option Addr, ∃ x936 : Int, r934 = (.tuple #[(.pointer p935), (.int .i64 x936)]) ∧ 
  ∃ b1848 : Bool, PV Try.prog (binOp .eql 22 (.pointer p935) (.pointer none)) (.bool b1848) ∧
  br b1848
  (K0 false h933)
  (br (x936 != 0)
  (K0 false h933)
  (quintetlaw15_HashRuns_j12
  (fun (b1849 : Bool) (h1850 : Hp) =>
  K0 b1849 h1850)
  x12 A13 l13 c13 p935 h933))
def quintetlaw15_HashRuns_j8_L (Q : Qx) (tm : Tm) (h : Hp) : Prop :=
  selI .i64 (tm 0) fun x12 =>
  selS (tm 1) fun A13 l13 c13 =>
  quintetlaw15_HashRuns_j8 (fun (b932 : Bool) h => Q (.ret) (mkTm [(4, some (.bool b932))]) h) x12 A13 l13 c13 h
def quintetlaw15_HashRuns (x1 : Int) (A2 : Option Addr) (l2 : Nat) (c2 : Nat) (h : Hp) (K : Value → Hp → Prop) : Prop :=
  br (decide (x1 < 1))
  (CallsH Try.prog 14 #[] h fun r1852 h1851 =>
  ∃ b1853 : Bool, r1852 = (.bool b1853) ∧ 
  K (.bool b1853) h1851)
  (br (decide (x1 > 65536))
  (CallsH Try.prog 14 #[] h fun r1855 h1854 =>
  ∃ b1856 : Bool, r1855 = (.bool b1856) ∧ 
  K (.bool b1856) h1854)
  (br (decide ((l2 : Int) > 3000))
  (CallsH Try.prog 14 #[] h fun r1858 h1857 =>
  ∃ b1859 : Bool, r1858 = (.bool b1859) ∧ 
  K (.bool b1859) h1857)
  (quintetlaw15_HashRuns_j8
  (fun (b1860 : Bool) (h1861 : Hp) =>
  K (.bool b1860) h1861)
  x1 A2 l2 c2 h)))
def quintetlaw15_HashRuns_lp (i : Nat) (Q : Qx) (tm : Tm) (h : Hp) : Prop := match Nat.beq i 65171 with
  | true => quintetlaw15_HashRuns_j15_L Q tm h
  | false => match Nat.beq i 1018 with
  | true => ∃ k, quintetlaw15_HashRuns_l14_L Q k tm h
  | false => match Nat.beq i 15 with
  | true => quintetlaw15_HashRuns_j12_L Q tm h
  | false => match Nat.beq i 3 with
  | true => quintetlaw15_HashRuns_j8_L Q tm h
  | false => False
def quintetlaw15_HashRuns_cut (i : Nat) : Option (List Nat) := match Nat.beq i 3 with
  | true => some [0, 1]
  | false => match Nat.beq i 15 with
  | true => some [0, 1, 5]
  | false => match Nat.beq i 65171 with
  | true => some [0, 1, 5, 7, 8, 9, 10, 11]
  | false => none
set_option maxRecDepth 100000 in
theorem quintetlaw15_HashRuns_j15_step (Q : Qx) (x1690 : Int) (A1691 : Option Addr) (l1691 : Nat) (c1691 : Nat) (p1692 : Option Addr) (A1693 : Option Addr) (l1693 : Nat) (c1693 : Nat) (x1694 : Int) (x1695 : Int) (a1696 : Addr) (b1697 : Bool) (h : Hp) : quintetlaw15_HashRuns_j15_L Q (mkTm [(0, some (.int .i64 x1690)), (1, some (.slice A1691 l1691 c1691)), (5, some (.pointer p1692)), (7, some (.slice A1693 l1693 c1693)), (8, some (.int .i64 x1694)), (9, some (.int .i64 x1695)), (10, some (.pointer (some a1696))), (11, some (.bool b1697))]) h =
    codeWp Try.prog 149 quintetlaw15_HashRuns_lp quintetlaw15_HashRuns_cut (sub (bodyOf Try.f4) [true, true, true, true, true, true, false, true, false, false, true, false, false, true, true, true]) 130343 (maskQ (fun e => match e with | .ret => [4] | .normal => [0, 1, 5, 7, 8, 9] | _ => []) Q) (mkTm [(0, some (.int .i64 x1690)), (1, some (.slice A1691 l1691 c1691)), (5, some (.pointer p1692)), (7, some (.slice A1693 l1693 c1693)), (8, some (.int .i64 x1694)), (9, some (.int .i64 x1695)), (10, some (.pointer (some a1696))), (11, some (.bool b1697))]) h := by kernel_rfl
theorem quintetlaw15_HashRuns_j15_mask (Q : Qx) (tm : Tm) (h : Hp) : quintetlaw15_HashRuns_j15_L Q tm h ↔ quintetlaw15_HashRuns_j15_L Q (mask [0, 1, 5, 7, 8, 9, 10, 11] tm) h := Iff.rfl
set_option maxRecDepth 100000 in
theorem quintetlaw15_HashRuns_j15_snd : SndAt Try.prog 149 none (sub (bodyOf Try.f4) [true, true, true, true, true, true, false, true, false, false, true, false, false, true, true, true]) (quintetlaw15_HashRuns_lp 65171) := by
  refine join_sound (lp := quintetlaw15_HashRuns_lp) (cut := quintetlaw15_HashRuns_cut) (i := 65171) (c := (sub (bodyOf Try.f4) [true, true, true, true, true, true, false, true, false, false, true, false, false, true, true, true])) [0, 1, 5, 7, 8, 9, 10, 11] (fun e => match e with | .ret => [4] | .normal => [0, 1, 5, 7, 8, 9] | _ => []) quintetlaw15_HashRuns_j15_L ?_ ?_
  · exact good_by (c := (sub (bodyOf Try.f4) [true, true, true, true, true, true, false, true, false, false, true, false, false, true, true, true])) (i := 130343) (l := []) (by kernel_rfl) (fun _ h => by cases h)
  · intro Q tm h H
    have H0 := H
    obtain ⟨x1690, e0, H⟩ := selI_ex H
    obtain ⟨A1691, l1691, c1691, e1, H⟩ := selS_ex H
    obtain ⟨p1692, e5, H⟩ := selP_ex H
    obtain ⟨A1693, l1693, c1693, e7, H⟩ := selS_ex H
    obtain ⟨x1694, e8, H⟩ := selI_ex H
    obtain ⟨x1695, e9, H⟩ := selI_ex H
    obtain ⟨a1696, e10, H⟩ := selA_ex H
    obtain ⟨b1697, e11, H⟩ := selB_ex H
    have e : mask [0, 1, 5, 7, 8, 9, 10, 11] tm = mkTm [(0, some (.int .i64 x1690)), (1, some (.slice A1691 l1691 c1691)), (5, some (.pointer p1692)), (7, some (.slice A1693 l1693 c1693)), (8, some (.int .i64 x1694)), (9, some (.int .i64 x1695)), (10, some (.pointer (some a1696))), (11, some (.bool b1697))] := by simp only [mask, List.map_cons, List.map_nil, e0, e1, e5, e7, e8, e9, e10, e11] <;> rfl
    rw [e]
    refine Eq.mp (quintetlaw15_HashRuns_j15_step Q x1690 A1691 l1691 c1691 p1692 A1693 l1693 c1693 x1694 x1695 a1696 b1697 h) ?_
    rw [← e]
    exact (quintetlaw15_HashRuns_j15_mask Q tm h).mp H0
set_option maxRecDepth 100000 in
theorem quintetlaw15_HashRuns_l14_step (Q : Qx) (k : Nat) (x1395 : Int) (A1396 : Option Addr) (l1396 : Nat) (c1396 : Nat) (p1397 : Option Addr) (A1398 : Option Addr) (l1398 : Nat) (c1398 : Nat) (x1399 : Int) (x1400 : Int) (h : Hp) : quintetlaw15_HashRuns_l14_L Q (k + 1) (mkTm [(0, some (.int .i64 x1395)), (1, some (.slice A1396 l1396 c1396)), (5, some (.pointer p1397)), (7, some (.slice A1398 l1398 c1398)), (8, some (.int .i64 x1399)), (9, some (.int .i64 x1400))]) h =
    codeWp Try.prog 149 quintetlaw15_HashRuns_lp quintetlaw15_HashRuns_cut (sub (bodyOf Try.f4) [true, true, true, true, true, true, false, true, false, false]) 2036 (thenQ (fun tm h => quintetlaw15_HashRuns_l14_L Q k (mask [0, 1, 5, 7, 8, 9] tm) h) (maskQ (fun e => match e with | .ret => [4] | .exit 0 => [5, 7] | _ => []) Q)) (mkTm [(0, some (.int .i64 x1395)), (1, some (.slice A1396 l1396 c1396)), (5, some (.pointer p1397)), (7, some (.slice A1398 l1398 c1398)), (8, some (.int .i64 x1399)), (9, some (.int .i64 x1400))]) h := by kernel_rfl
theorem quintetlaw15_HashRuns_l14_mask (Q : Qx) (k : Nat) (tm : Tm) (h : Hp) : quintetlaw15_HashRuns_l14_L Q k tm h ↔ quintetlaw15_HashRuns_l14_L Q k (mask [0, 1, 5, 7, 8, 9] tm) h := Iff.rfl
set_option maxRecDepth 100000 in
theorem quintetlaw15_HashRuns_l14_snd : SndAt Try.prog 149 none (sub (bodyOf Try.f4) [true, true, true, true, true, true, false, true, false]) (quintetlaw15_HashRuns_lp 1018) := by
  refine loop_sound (lp := quintetlaw15_HashRuns_lp) (cut := quintetlaw15_HashRuns_cut) (i := 1018) (c := (sub (bodyOf Try.f4) [true, true, true, true, true, true, false, true, false, false])) [0, 1, 5, 7, 8, 9] (fun e => match e with | .ret => [4] | .exit 0 => [5, 7] | _ => []) quintetlaw15_HashRuns_l14_L ?_ ?_ ?_
  · exact good_by (c := (sub (bodyOf Try.f4) [true, true, true, true, true, true, false, true, false, false])) (i := 2036) (l := [(65171, (sub (bodyOf Try.f4) [true, true, true, true, true, true, false, true, false, false, true, false, false, true, true, true]))]) (by kernel_rfl) (List.forall_mem_cons.2 ⟨quintetlaw15_HashRuns_j15_snd, (fun _ h => by cases h)⟩)
  · intro Q tm h H
    obtain ⟨x1395, e0, H⟩ := selI_ex H
    obtain ⟨A1396, l1396, c1396, e1, H⟩ := selS_ex H
    obtain ⟨p1397, e5, H⟩ := selP_ex H
    obtain ⟨A1398, l1398, c1398, e7, H⟩ := selS_ex H
    obtain ⟨x1399, e8, H⟩ := selI_ex H
    obtain ⟨x1400, e9, H⟩ := selI_ex H
    exact H
  · intro Q k tm h H
    have H0 := H
    obtain ⟨x1395, e0, H⟩ := selI_ex H
    obtain ⟨A1396, l1396, c1396, e1, H⟩ := selS_ex H
    obtain ⟨p1397, e5, H⟩ := selP_ex H
    obtain ⟨A1398, l1398, c1398, e7, H⟩ := selS_ex H
    obtain ⟨x1399, e8, H⟩ := selI_ex H
    obtain ⟨x1400, e9, H⟩ := selI_ex H
    have e : mask [0, 1, 5, 7, 8, 9] tm = mkTm [(0, some (.int .i64 x1395)), (1, some (.slice A1396 l1396 c1396)), (5, some (.pointer p1397)), (7, some (.slice A1398 l1398 c1398)), (8, some (.int .i64 x1399)), (9, some (.int .i64 x1400))] := by simp only [mask, List.map_cons, List.map_nil, e0, e1, e5, e7, e8, e9] <;> rfl
    rw [e]
    refine Eq.mp (quintetlaw15_HashRuns_l14_step Q k x1395 A1396 l1396 c1396 p1397 A1398 l1398 c1398 x1399 x1400 h) ?_
    rw [← e]
    exact (quintetlaw15_HashRuns_l14_mask Q (k + 1) tm h).mp H0
set_option maxRecDepth 100000 in
theorem quintetlaw15_HashRuns_j12_step (Q : Qx) (x938 : Int) (A939 : Option Addr) (l939 : Nat) (c939 : Nat) (p940 : Option Addr) (h : Hp) : quintetlaw15_HashRuns_j12_L Q (mkTm [(0, some (.int .i64 x938)), (1, some (.slice A939 l939 c939)), (5, some (.pointer p940))]) h =
    codeWp Try.prog 149 quintetlaw15_HashRuns_lp quintetlaw15_HashRuns_cut (sub (bodyOf Try.f4) [true, true, true, true]) 31 (maskQ (fun e => match e with | .ret => [4] | _ => []) Q) (mkTm [(0, some (.int .i64 x938)), (1, some (.slice A939 l939 c939)), (5, some (.pointer p940))]) h := by kernel_rfl
theorem quintetlaw15_HashRuns_j12_mask (Q : Qx) (tm : Tm) (h : Hp) : quintetlaw15_HashRuns_j12_L Q tm h ↔ quintetlaw15_HashRuns_j12_L Q (mask [0, 1, 5] tm) h := Iff.rfl
set_option maxRecDepth 100000 in
theorem quintetlaw15_HashRuns_j12_snd : SndAt Try.prog 149 none (sub (bodyOf Try.f4) [true, true, true, true]) (quintetlaw15_HashRuns_lp 15) := by
  refine join_sound (lp := quintetlaw15_HashRuns_lp) (cut := quintetlaw15_HashRuns_cut) (i := 15) (c := (sub (bodyOf Try.f4) [true, true, true, true])) [0, 1, 5] (fun e => match e with | .ret => [4] | _ => []) quintetlaw15_HashRuns_j12_L ?_ ?_
  · exact good_by (c := (sub (bodyOf Try.f4) [true, true, true, true])) (i := 31) (l := [(1018, (sub (bodyOf Try.f4) [true, true, true, true, true, true, false, true, false]))]) (by kernel_rfl) (List.forall_mem_cons.2 ⟨quintetlaw15_HashRuns_l14_snd, (fun _ h => by cases h)⟩)
  · intro Q tm h H
    have H0 := H
    obtain ⟨x938, e0, H⟩ := selI_ex H
    obtain ⟨A939, l939, c939, e1, H⟩ := selS_ex H
    obtain ⟨p940, e5, H⟩ := selP_ex H
    have e : mask [0, 1, 5] tm = mkTm [(0, some (.int .i64 x938)), (1, some (.slice A939 l939 c939)), (5, some (.pointer p940))] := by simp only [mask, List.map_cons, List.map_nil, e0, e1, e5] <;> rfl
    rw [e]
    refine Eq.mp (quintetlaw15_HashRuns_j12_step Q x938 A939 l939 c939 p940 h) ?_
    rw [← e]
    exact (quintetlaw15_HashRuns_j12_mask Q tm h).mp H0
set_option maxRecDepth 100000 in
theorem quintetlaw15_HashRuns_j8_step (Q : Qx) (x12 : Int) (A13 : Option Addr) (l13 : Nat) (c13 : Nat) (h : Hp) : quintetlaw15_HashRuns_j8_L Q (mkTm [(0, some (.int .i64 x12)), (1, some (.slice A13 l13 c13))]) h =
    codeWp Try.prog 149 quintetlaw15_HashRuns_lp quintetlaw15_HashRuns_cut (sub (bodyOf Try.f4) [true, true]) 7 (maskQ (fun e => match e with | .ret => [4] | _ => []) Q) (mkTm [(0, some (.int .i64 x12)), (1, some (.slice A13 l13 c13))]) h := by kernel_rfl
theorem quintetlaw15_HashRuns_j8_mask (Q : Qx) (tm : Tm) (h : Hp) : quintetlaw15_HashRuns_j8_L Q tm h ↔ quintetlaw15_HashRuns_j8_L Q (mask [0, 1] tm) h := Iff.rfl
set_option maxRecDepth 100000 in
theorem quintetlaw15_HashRuns_j8_snd : SndAt Try.prog 149 none (sub (bodyOf Try.f4) [true, true]) (quintetlaw15_HashRuns_lp 3) := by
  refine join_sound (lp := quintetlaw15_HashRuns_lp) (cut := quintetlaw15_HashRuns_cut) (i := 3) (c := (sub (bodyOf Try.f4) [true, true])) [0, 1] (fun e => match e with | .ret => [4] | _ => []) quintetlaw15_HashRuns_j8_L ?_ ?_
  · exact good_by (c := (sub (bodyOf Try.f4) [true, true])) (i := 7) (l := [(15, (sub (bodyOf Try.f4) [true, true, true, true]))]) (by kernel_rfl) (List.forall_mem_cons.2 ⟨quintetlaw15_HashRuns_j12_snd, (fun _ h => by cases h)⟩)
  · intro Q tm h H
    have H0 := H
    obtain ⟨x12, e0, H⟩ := selI_ex H
    obtain ⟨A13, l13, c13, e1, H⟩ := selS_ex H
    have e : mask [0, 1] tm = mkTm [(0, some (.int .i64 x12)), (1, some (.slice A13 l13 c13))] := by simp only [mask, List.map_cons, List.map_nil, e0, e1] <;> rfl
    rw [e]
    refine Eq.mp (quintetlaw15_HashRuns_j8_step Q x12 A13 l13 c13 h) ?_
    rw [← e]
    exact (quintetlaw15_HashRuns_j8_mask Q tm h).mp H0
set_option maxRecDepth 100000 in
theorem quintetlaw15_HashRuns_eq (x1 : Int) (A2 : Option Addr) (l2 : Nat) (c2 : Nat) (h : Hp) (K : Value → Hp → Prop) : quintetlaw15_HashRuns x1 A2 l2 c2 h K =
    codeWp Try.prog 149 quintetlaw15_HashRuns_lp quintetlaw15_HashRuns_cut (bodyOf Try.f4) 1 (endQ Try.prog Try.f4.results.toList K) (argTm [(.int .i64 x1), (.slice A2 l2 c2)]) h := by kernel_rfl
set_option maxRecDepth 100000 in
theorem quintetlaw15_HashRuns_ok (x1 : Int) (A2 : Option Addr) (l2 : Nat) (c2 : Nat) {h : Hp} {K : Value → Hp → Prop} (H : quintetlaw15_HashRuns x1 A2 l2 c2 h K) : CallsH Try.prog 4 #[(.int .i64 x1), (.slice A2 l2 c2)] h K :=
  calls_of (args := [(.int .i64 x1), (.slice A2 l2 c2)]) (n := 149) (lp := quintetlaw15_HashRuns_lp) (cut := quintetlaw15_HashRuns_cut) Try.func4 (c := bodyOf Try.f4) (by kernel_rfl) (by kernel_rfl) (by kernel_rfl) (good_by (c := (bodyOf Try.f4)) (i := 1) (l := [(3, (sub (bodyOf Try.f4) [true, true]))]) (by kernel_rfl) (List.forall_mem_cons.2 ⟨quintetlaw15_HashRuns_j8_snd, (fun _ h => by cases h)⟩))
    (Eq.mp (quintetlaw15_HashRuns_eq x1 A2 l2 c2 h K) H)

/-! ### quintet/quintetlaw15.HashGrows: function 5 -/
def quintetlaw15_HashGrows_l36 (x2104 : Int) (x2105 : Int) (x2106 : Int) (a2107 : Addr) (p2108 : Option Addr) (a2109 : Addr) (K0 : Bool → Hp → Prop) (K1 : Int → Int → Int → Addr → (Option Addr) → Addr → Hp → Prop)  : Nat → Int → Hp → Prop
  | 0, _, _ => False
  | k + 1, x2110, h =>
    br (decide (x2110 < x2104))
    (∃ x2128 : Int, ∃ x2129 : Int, ∃ x2130 : Int, ∃ x2131 : Int, ∃ x2132 : Int, HV Try.prog (Instr.loadAt 36 (.pointer (some a2109))) h (.agg #[(.int .u32 x2128), (.int .u32 x2129), (.int .u16 x2130), (.int .u16 x2131), (.int .u8 x2132)]) ∧ 
    CallsH Try.prog 15 #[(.pointer p2108), (.agg #[(.int .u32 x2128), (.int .u32 x2129), (.int .u16 x2130), (.int .u16 x2131), (.int .u8 x2132)]), (.int .i64 x2110)] h fun r2134 h2133 =>
    ∃ x2135 : Int, r2134 = (.int .i64 x2135) ∧ 
    br (x2135 != 0)
    (K0 false h2133)
    (∃ x2136 : Int, HV Try.prog (Instr.loadAt 33 (.pointer (some (a2109.add 1)))) h2133 (.int .u32 x2136) ∧ 
    HU Try.prog (Instr.storeAt 33 (.pointer (some (a2109.add 1))) (.int .u32 (IntKind.u32.wrap (x2136 + x2105)))) h2133 fun h2137 => 
    quintetlaw15_HashGrows_l36 x2104 x2105 x2106 a2107 p2108 a2109 K0 K1 k (IntKind.i64.wrap (x2110 + 1)) h2137))
    (K1 x2104 x2105 x2106 a2107 p2108 a2109 h)
def quintetlaw15_HashGrows_l36_L (Q : Qx) (k : Nat) (tm : Tm) (h : Hp) : Prop :=
  selI .i64 (tm 1) fun x2104 =>
  selI .u32 (tm 2) fun x2105 =>
  selI .i64 (tm 3) fun x2106 =>
  selA (tm 4) fun a2107 =>
  selP (tm 9) fun p2108 =>
  selA (tm 11) fun a2109 =>
  selI .i64 (tm 12) fun x2110 =>
  quintetlaw15_HashGrows_l36 x2104 x2105 x2106 a2107 p2108 a2109 (fun (b2121 : Bool) h => Q (.ret) (mkTm [(8, some (.bool b2121))]) h) (fun (x2122 : Int) (x2123 : Int) (x2124 : Int) (a2125 : Addr) (p2126 : Option Addr) (a2127 : Addr) h => Q (.exit 0) (mkTm [(1, some (.int .i64 x2122)), (2, some (.int .u32 x2123)), (3, some (.int .i64 x2124)), (4, some (.pointer (some a2125))), (9, some (.pointer p2126)), (11, some (.pointer (some a2127)))]) h) k x2110 h
def quintetlaw15_HashGrows_l39 (x2277 : Int) (x2278 : Int) (x2279 : Int) (a2280 : Addr) (p2281 : Option Addr) (a2282 : Addr) (K0 : Bool → Hp → Prop) (K1 : Int → Int → Int → Addr → (Option Addr) → Hp → Prop)  : Nat → Int → Hp → Prop
  | 0, _, _ => False
  | k + 1, x2283, h =>
    br (decide (x2283 < x2277))
    (∃ x2311 : Int, ∃ x2312 : Int, ∃ x2313 : Int, ∃ x2314 : Int, ∃ x2315 : Int, HV Try.prog (Instr.loadAt 36 (.pointer (some a2282))) h (.agg #[(.int .u32 x2311), (.int .u32 x2312), (.int .u16 x2313), (.int .u16 x2314), (.int .u8 x2315)]) ∧ 
    CallsH Try.prog 17 #[(.pointer p2281), (.agg #[(.int .u32 x2311), (.int .u32 x2312), (.int .u16 x2313), (.int .u16 x2314), (.int .u8 x2315)])] h fun r2317 h2316 =>
    ∃ x2318 : Int, ∃ b2319 : Bool, r2317 = (.tuple #[(.int .i64 x2318), (.bool b2319)]) ∧ 
    br (!b2319)
    (K0 false h2316)
    (br (x2318 != x2283)
    (K0 false h2316)
    (br (x2283 != x2279)
    (∃ x2320 : Int, ∃ x2321 : Int, ∃ x2322 : Int, ∃ x2323 : Int, ∃ x2324 : Int, HV Try.prog (Instr.loadAt 36 (.pointer (some a2282))) h2316 (.agg #[(.int .u32 x2320), (.int .u32 x2321), (.int .u16 x2322), (.int .u16 x2323), (.int .u8 x2324)]) ∧ 
    CallsH Try.prog 19 #[(.pointer p2281), (.agg #[(.int .u32 x2320), (.int .u32 x2321), (.int .u16 x2322), (.int .u16 x2323), (.int .u8 x2324)])] h2316 fun r2326 h2325 =>
    ∃ b2327 : Bool, r2326 = (.bool b2327) ∧ 
    br (!b2327)
    (K0 false h2325)
    (∃ x2328 : Int, HV Try.prog (Instr.loadAt 33 (.pointer (some (a2282.add 1)))) h2325 (.int .u32 x2328) ∧ 
    HU Try.prog (Instr.storeAt 33 (.pointer (some (a2282.add 1))) (.int .u32 (IntKind.u32.wrap (x2328 + x2278)))) h2325 fun h2329 => 
    quintetlaw15_HashGrows_l39 x2277 x2278 x2279 a2280 p2281 a2282 K0 K1 k (IntKind.i64.wrap (x2283 + 1)) h2329))
    (∃ x2330 : Int, HV Try.prog (Instr.loadAt 33 (.pointer (some (a2282.add 1)))) h2316 (.int .u32 x2330) ∧ 
    HU Try.prog (Instr.storeAt 33 (.pointer (some (a2282.add 1))) (.int .u32 (IntKind.u32.wrap (x2330 + x2278)))) h2316 fun h2331 => 
    quintetlaw15_HashGrows_l39 x2277 x2278 x2279 a2280 p2281 a2282 K0 K1 k (IntKind.i64.wrap (x2283 + 1)) h2331))))
    (K1 x2277 x2278 x2279 a2280 p2281 h)
def quintetlaw15_HashGrows_l39_L (Q : Qx) (k : Nat) (tm : Tm) (h : Hp) : Prop :=
  selI .i64 (tm 1) fun x2277 =>
  selI .u32 (tm 2) fun x2278 =>
  selI .i64 (tm 3) fun x2279 =>
  selA (tm 4) fun a2280 =>
  selP (tm 9) fun p2281 =>
  selA (tm 11) fun a2282 =>
  selI .i64 (tm 14) fun x2283 =>
  quintetlaw15_HashGrows_l39 x2277 x2278 x2279 a2280 p2281 a2282 (fun (b2305 : Bool) h => Q (.ret) (mkTm [(8, some (.bool b2305))]) h) (fun (x2306 : Int) (x2307 : Int) (x2308 : Int) (a2309 : Addr) (p2310 : Option Addr) h => Q (.exit 2) (mkTm [(1, some (.int .i64 x2306)), (2, some (.int .u32 x2307)), (3, some (.int .i64 x2308)), (4, some (.pointer (some a2309))), (9, some (.pointer p2310))]) h) k x2283 h
def quintetlaw15_HashGrows_j38 (K0 : Bool → Hp → Prop) (x2163 : Int) (x2164 : Int) (x2165 : Int) (a2166 : Addr) (p2167 : Option Addr) (a2168 : Addr) (h : Hp) : Prop :=
  ∃ x2271 : Int, ∃ x2272 : Int, ∃ x2273 : Int, ∃ x2274 : Int, ∃ x2275 : Int, HV Try.prog (Instr.loadAt 36 (.pointer (some a2166))) h (.agg #[(.int .u32 x2271), (.int .u32 x2272), (.int .u16 x2273), (.int .u16 x2274), (.int .u8 x2275)]) ∧ 
  HU Try.prog (Instr.storeAt 36 (.pointer (some a2168)) (.agg #[(.int .u32 x2271), (.int .u32 x2272), (.int .u16 x2273), (.int .u16 x2274), (.int .u8 x2275)])) h fun h2276 => 
  ∃ k2371, quintetlaw15_HashGrows_l39 x2163 x2164 x2165 a2166 p2167 a2168
  (fun (b2332 : Bool) (h2333 : Hp) =>
  K0 b2332 h2333)
  (fun (x2334 : Int) (x2335 : Int) (x2336 : Int) (a2337 : Addr) (p2338 : Option Addr) (h2339 : Hp) =>
  ∃ x2340 : Int, ∃ x2341 : Int, ∃ x2342 : Int, ∃ x2343 : Int, ∃ x2344 : Int, HV Try.prog (Instr.loadAt 36 (.pointer (some a2337))) h2339 (.agg #[(.int .u32 x2340), (.int .u32 x2341), (.int .u16 x2342), (.int .u16 x2343), (.int .u8 x2344)]) ∧ 
  newC h2339 (.cells #[(.int .u32 0), (.int .u32 0), (.int .u16 0), (.int .u16 0), (.int .u8 0)] 36 (0, 0)) fun a2346 h2345 => 
  HU Try.prog (Instr.storeAt 36 (.pointer (some a2346)) (.agg #[(.int .u32 x2340), (.int .u32 x2341), (.int .u16 x2342), (.int .u16 x2343), (.int .u8 x2344)])) h2345 fun h2347 => 
  ∃ x2348 : Int, HV Try.prog (Instr.loadAt 33 (.pointer (some (a2346.add 1)))) h2347 (.int .u32 x2348) ∧ 
  HU Try.prog (Instr.storeAt 33 (.pointer (some (a2346.add 1))) (.int .u32 (IntKind.u32.wrap (x2348 + (IntKind.u32.wrap ((IntKind.u32.wrap (x2336)) * x2335)))))) h2347 fun h2349 => 
  CallsH Try.prog 14 #[] h2349 fun r2351 h2350 =>
  ∃ b2352 : Bool, r2351 = (.bool b2352) ∧ 
  br b2352
  (∃ x2353 : Int, ∃ x2354 : Int, ∃ x2355 : Int, ∃ x2356 : Int, ∃ x2357 : Int, HV Try.prog (Instr.loadAt 36 (.pointer (some a2346))) h2350 (.agg #[(.int .u32 x2353), (.int .u32 x2354), (.int .u16 x2355), (.int .u16 x2356), (.int .u8 x2357)]) ∧ 
  CallsH Try.prog 22 #[(.pointer p2338), (.int .i64 1), (.int .i64 x2334), (.agg #[(.int .u32 x2353), (.int .u32 x2354), (.int .u16 x2355), (.int .u16 x2356), (.int .u8 x2357)])] h2350 fun r2359 h2358 =>
  ∃ b2360 : Bool, r2359 = (.bool b2360) ∧ 
  br b2360
  (∃ x2361 : Int, ∃ x2362 : Int, ∃ x2363 : Int, ∃ x2364 : Int, ∃ x2365 : Int, HV Try.prog (Instr.loadAt 36 (.pointer (some a2346))) h2358 (.agg #[(.int .u32 x2361), (.int .u32 x2362), (.int .u16 x2363), (.int .u16 x2364), (.int .u8 x2365)]) ∧ 
  newC h2358 (.cells #[(.int .u32 x2361), (.int .u32 x2362), (.int .u16 x2363), (.int .u16 x2364), (.int .u8 x2365), (.int .i64 x2336)] 52 (0, 0)) fun a2367 h2366 => 
  CallsH Try.prog 21 #[(.pointer p2338), (.slice (some a2367) 1 1), (.int .i64 0)] h2366 fun r2369 h2368 =>
  ∃ b2370 : Bool, r2369 = (.bool b2370) ∧ 
  K0 b2370 h2368)
  (K0 false h2358))
  (K0 false h2350))
  k2371 0 h2276
def quintetlaw15_HashGrows_j38_L (Q : Qx) (tm : Tm) (h : Hp) : Prop :=
  selI .i64 (tm 1) fun x2163 =>
  selI .u32 (tm 2) fun x2164 =>
  selI .i64 (tm 3) fun x2165 =>
  selA (tm 4) fun a2166 =>
  selP (tm 9) fun p2167 =>
  selA (tm 11) fun a2168 =>
  quintetlaw15_HashGrows_j38 (fun (b2270 : Bool) h => Q (.ret) (mkTm [(8, some (.bool b2270))]) h) x2163 x2164 x2165 a2166 p2167 a2168 h
def quintetlaw15_HashGrows_j35 (K0 : Bool → Hp → Prop) (x1803 : Int) (x1804 : Int) (x1805 : Int) (a1806 : Addr) (p1807 : Option Addr) (h : Hp) : Prop :=
  ∃ x2096 : Int, ∃ x2097 : Int, ∃ x2098 : Int, ∃ x2099 : Int, ∃ x2100 : Int, HV Try.prog (Instr.loadAt 36 (.pointer (some a1806))) h (.agg #[(.int .u32 x2096), (.int .u32 x2097), (.int .u16 x2098), (.int .u16 x2099), (.int .u8 x2100)]) ∧ 
  newC h (.cells #[(.int .u32 0), (.int .u32 0), (.int .u16 0), (.int .u16 0), (.int .u8 0)] 36 (0, 0)) fun a2102 h2101 => 
  HU Try.prog (Instr.storeAt 36 (.pointer (some a2102)) (.agg #[(.int .u32 x2096), (.int .u32 x2097), (.int .u16 x2098), (.int .u16 x2099), (.int .u8 x2100)])) h2101 fun h2103 => 
  ∃ k2382, quintetlaw15_HashGrows_l36 x1803 (bOr .u32 x1804 1) x1805 a1806 p1807 a2102
  (fun (b2138 : Bool) (h2139 : Hp) =>
  K0 b2138 h2139)
  (fun (x2140 : Int) (x2141 : Int) (x2142 : Int) (a2143 : Addr) (p2144 : Option Addr) (a2145 : Addr) (h2146 : Hp) =>
  ∃ x2147 : Int, ∃ x2148 : Int, ∃ x2149 : Int, ∃ x2150 : Int, ∃ x2151 : Int, HV Try.prog (Instr.loadAt 36 (.pointer (some a2145))) h2146 (.agg #[(.int .u32 x2147), (.int .u32 x2148), (.int .u16 x2149), (.int .u16 x2150), (.int .u8 x2151)]) ∧ 
  CallsH Try.prog 15 #[(.pointer p2144), (.agg #[(.int .u32 x2147), (.int .u32 x2148), (.int .u16 x2149), (.int .u16 x2150), (.int .u8 x2151)]), (.int .i64 (-1))] h2146 fun r2153 h2152 =>
  ∃ x2154 : Int, r2153 = (.int .i64 x2154) ∧ 
  br (x2154 != 150)
  (K0 false h2152)
  (∃ x2372 : Int, ∃ x2373 : Int, ∃ x2374 : Int, ∃ x2375 : Int, ∃ x2376 : Int, HV Try.prog (Instr.loadAt 36 (.pointer (some a2145))) h2152 (.agg #[(.int .u32 x2372), (.int .u32 x2373), (.int .u16 x2374), (.int .u16 x2375), (.int .u8 x2376)]) ∧ 
  CallsH Try.prog 22 #[(.pointer p2144), (.int .i64 x2140), (.int .i64 x2140), (.agg #[(.int .u32 x2372), (.int .u32 x2373), (.int .u16 x2374), (.int .u16 x2375), (.int .u8 x2376)])] h2152 fun r2378 h2377 =>
  ∃ b2379 : Bool, r2378 = (.bool b2379) ∧ 
  br (!b2379)
  (K0 false h2377)
  (quintetlaw15_HashGrows_j38
  (fun (b2380 : Bool) (h2381 : Hp) =>
  K0 b2380 h2381)
  x2140 x2141 x2142 a2143 p2144 a2145 h2377)))
  k2382 0 h2103
def quintetlaw15_HashGrows_j35_L (Q : Qx) (tm : Tm) (h : Hp) : Prop :=
  selI .i64 (tm 1) fun x1803 =>
  selI .u32 (tm 2) fun x1804 =>
  selI .i64 (tm 3) fun x1805 =>
  selA (tm 4) fun a1806 =>
  selP (tm 9) fun p1807 =>
  quintetlaw15_HashGrows_j35 (fun (b2095 : Bool) h => Q (.ret) (mkTm [(8, some (.bool b2095))]) h) x1803 x1804 x1805 a1806 p1807 h
def quintetlaw15_HashGrows_j30 (K0 : Bool → Hp → Prop) (x1203 : Int) (x1204 : Int) (x1205 : Int) (a1206 : Addr) (h : Hp) : Prop :=
  ∃ x1797 : Int, PV Try.prog (binOp .rem 3 (.int .i64 x1205) (.int .i64 x1203)) (.int .i64 x1797) ∧
  CallsH Try.prog 12 #[(.int .i64 x1203)] h fun r1799 h1798 =>
  ∃ p1800 : Option Addr, ∃ x1801 : Int, r1799 = (.tuple #[(.pointer p1800), (.int .i64 x1801)]) ∧ 
  ∃ b2383 : Bool, PV Try.prog (binOp .eql 22 (.pointer p1800) (.pointer none)) (.bool b2383) ∧
  br b2383
  (K0 false h1798)
  (br (x1801 != 0)
  (K0 false h1798)
  (quintetlaw15_HashGrows_j35
  (fun (b2384 : Bool) (h2385 : Hp) =>
  K0 b2384 h2385)
  x1203 x1204 x1797 a1206 p1800 h1798))
def quintetlaw15_HashGrows_j30_L (Q : Qx) (tm : Tm) (h : Hp) : Prop :=
  selI .i64 (tm 1) fun x1203 =>
  selI .u32 (tm 2) fun x1204 =>
  selI .i64 (tm 3) fun x1205 =>
  selA (tm 4) fun a1206 =>
  quintetlaw15_HashGrows_j30 (fun (b1796 : Bool) h => Q (.ret) (mkTm [(8, some (.bool b1796))]) h) x1203 x1204 x1205 a1206 h
def quintetlaw15_HashGrows_j20 (K0 : Bool → Hp → Prop) (x11 : Int) (x12 : Int) (x13 : Int) (a14 : Addr) (h : Hp) : Prop :=
  br (decide (x13 < 0))
  (quintetlaw15_HashGrows_j30
  (fun (b2386 : Bool) (h2387 : Hp) =>
  K0 b2386 h2387)
  (IntKind.i64.wrap (1 + (Int.tmod x11 2000))) x12 (IntKind.i64.wrap (0 - (IntKind.i64.wrap (x13 + 1)))) a14 h)
  (quintetlaw15_HashGrows_j30
  (fun (b2388 : Bool) (h2389 : Hp) =>
  K0 b2388 h2389)
  (IntKind.i64.wrap (1 + (Int.tmod x11 2000))) x12 x13 a14 h)
def quintetlaw15_HashGrows_j20_L (Q : Qx) (tm : Tm) (h : Hp) : Prop :=
  selI .i64 (tm 1) fun x11 =>
  selI .u32 (tm 2) fun x12 =>
  selI .i64 (tm 3) fun x13 =>
  selA (tm 4) fun a14 =>
  quintetlaw15_HashGrows_j20 (fun (b1202 : Bool) h => Q (.ret) (mkTm [(8, some (.bool b1202))]) h) x11 x12 x13 a14 h
def quintetlaw15_HashGrows (x1 : Int) (x2 : Int) (x3 : Int) (x4 : Int) (x5 : Int) (x6 : Int) (x7 : Int) (x8 : Int) (h : Hp) (K : Value → Hp → Prop) : Prop :=
  newC h (.cells #[(.int .u32 x1), (.int .u32 x2), (.int .u16 x3), (.int .u16 x4), (.int .u8 x5)] 36 (0, 0)) fun a10 h9 => 
  br (decide (x6 < 0))
  (quintetlaw15_HashGrows_j20
  (fun (b2390 : Bool) (h2391 : Hp) =>
  K (.bool b2390) h2391)
  (IntKind.i64.wrap (0 - (IntKind.i64.wrap (x6 + 1)))) x7 x8 a10 h9)
  (quintetlaw15_HashGrows_j20
  (fun (b2392 : Bool) (h2393 : Hp) =>
  K (.bool b2392) h2393)
  x6 x7 x8 a10 h9)
def quintetlaw15_HashGrows_lp (i : Nat) (Q : Qx) (tm : Tm) (h : Hp) : Prop := match Nat.beq i 8186 with
  | true => ∃ k, quintetlaw15_HashGrows_l36_L Q k tm h
  | false => match Nat.beq i 131066 with
  | true => ∃ k, quintetlaw15_HashGrows_l39_L Q k tm h
  | false => match Nat.beq i 4095 with
  | true => quintetlaw15_HashGrows_j38_L Q tm h
  | false => match Nat.beq i 127 with
  | true => quintetlaw15_HashGrows_j35_L Q tm h
  | false => match Nat.beq i 15 with
  | true => quintetlaw15_HashGrows_j30_L Q tm h
  | false => match Nat.beq i 3 with
  | true => quintetlaw15_HashGrows_j20_L Q tm h
  | false => False
def quintetlaw15_HashGrows_cut (i : Nat) : Option (List Nat) := match Nat.beq i 3 with
  | true => some [1, 2, 3, 4]
  | false => match Nat.beq i 15 with
  | true => some [1, 2, 3, 4]
  | false => match Nat.beq i 127 with
  | true => some [1, 2, 3, 4, 9]
  | false => match Nat.beq i 4095 with
  | true => some [1, 2, 3, 4, 9, 11]
  | false => none
set_option maxRecDepth 100000 in
theorem quintetlaw15_HashGrows_l36_step (Q : Qx) (k : Nat) (x2104 : Int) (x2105 : Int) (x2106 : Int) (a2107 : Addr) (p2108 : Option Addr) (a2109 : Addr) (x2110 : Int) (h : Hp) : quintetlaw15_HashGrows_l36_L Q (k + 1) (mkTm [(1, some (.int .i64 x2104)), (2, some (.int .u32 x2105)), (3, some (.int .i64 x2106)), (4, some (.pointer (some a2107))), (9, some (.pointer p2108)), (11, some (.pointer (some a2109))), (12, some (.int .i64 x2110))]) h =
    codeWp Try.prog 135 quintetlaw15_HashGrows_lp quintetlaw15_HashGrows_cut (sub (bodyOf Try.f5) [true, true, true, true, true, true, true, true, true, false, true, false, false]) 16372 (thenQ (fun tm h => quintetlaw15_HashGrows_l36_L Q k (mask [1, 2, 3, 4, 9, 11, 12] tm) h) (maskQ (fun e => match e with | .ret => [8] | .exit 0 => [1, 2, 3, 4, 9, 11] | _ => []) Q)) (mkTm [(1, some (.int .i64 x2104)), (2, some (.int .u32 x2105)), (3, some (.int .i64 x2106)), (4, some (.pointer (some a2107))), (9, some (.pointer p2108)), (11, some (.pointer (some a2109))), (12, some (.int .i64 x2110))]) h := by kernel_rfl
theorem quintetlaw15_HashGrows_l36_mask (Q : Qx) (k : Nat) (tm : Tm) (h : Hp) : quintetlaw15_HashGrows_l36_L Q k tm h ↔ quintetlaw15_HashGrows_l36_L Q k (mask [1, 2, 3, 4, 9, 11, 12] tm) h := Iff.rfl
set_option maxRecDepth 100000 in
theorem quintetlaw15_HashGrows_l36_snd : SndAt Try.prog 135 none (sub (bodyOf Try.f5) [true, true, true, true, true, true, true, true, true, false, true, false]) (quintetlaw15_HashGrows_lp 8186) := by
  refine loop_sound (lp := quintetlaw15_HashGrows_lp) (cut := quintetlaw15_HashGrows_cut) (i := 8186) (c := (sub (bodyOf Try.f5) [true, true, true, true, true, true, true, true, true, false, true, false, false])) [1, 2, 3, 4, 9, 11, 12] (fun e => match e with | .ret => [8] | .exit 0 => [1, 2, 3, 4, 9, 11] | _ => []) quintetlaw15_HashGrows_l36_L ?_ ?_ ?_
  · exact good_by (c := (sub (bodyOf Try.f5) [true, true, true, true, true, true, true, true, true, false, true, false, false])) (i := 16372) (l := []) (by kernel_rfl) (fun _ h => by cases h)
  · intro Q tm h H
    obtain ⟨x2104, e1, H⟩ := selI_ex H
    obtain ⟨x2105, e2, H⟩ := selI_ex H
    obtain ⟨x2106, e3, H⟩ := selI_ex H
    obtain ⟨a2107, e4, H⟩ := selA_ex H
    obtain ⟨p2108, e9, H⟩ := selP_ex H
    obtain ⟨a2109, e11, H⟩ := selA_ex H
    obtain ⟨x2110, e12, H⟩ := selI_ex H
    exact H
  · intro Q k tm h H
    have H0 := H
    obtain ⟨x2104, e1, H⟩ := selI_ex H
    obtain ⟨x2105, e2, H⟩ := selI_ex H
    obtain ⟨x2106, e3, H⟩ := selI_ex H
    obtain ⟨a2107, e4, H⟩ := selA_ex H
    obtain ⟨p2108, e9, H⟩ := selP_ex H
    obtain ⟨a2109, e11, H⟩ := selA_ex H
    obtain ⟨x2110, e12, H⟩ := selI_ex H
    have e : mask [1, 2, 3, 4, 9, 11, 12] tm = mkTm [(1, some (.int .i64 x2104)), (2, some (.int .u32 x2105)), (3, some (.int .i64 x2106)), (4, some (.pointer (some a2107))), (9, some (.pointer p2108)), (11, some (.pointer (some a2109))), (12, some (.int .i64 x2110))] := by simp only [mask, List.map_cons, List.map_nil, e1, e2, e3, e4, e9, e11, e12] <;> rfl
    rw [e]
    refine Eq.mp (quintetlaw15_HashGrows_l36_step Q k x2104 x2105 x2106 a2107 p2108 a2109 x2110 h) ?_
    rw [← e]
    exact (quintetlaw15_HashGrows_l36_mask Q (k + 1) tm h).mp H0
set_option maxRecDepth 100000 in
theorem quintetlaw15_HashGrows_l39_step (Q : Qx) (k : Nat) (x2277 : Int) (x2278 : Int) (x2279 : Int) (a2280 : Addr) (p2281 : Option Addr) (a2282 : Addr) (x2283 : Int) (h : Hp) : quintetlaw15_HashGrows_l39_L Q (k + 1) (mkTm [(1, some (.int .i64 x2277)), (2, some (.int .u32 x2278)), (3, some (.int .i64 x2279)), (4, some (.pointer (some a2280))), (9, some (.pointer p2281)), (11, some (.pointer (some a2282))), (14, some (.int .i64 x2283))]) h =
    codeWp Try.prog 135 quintetlaw15_HashGrows_lp quintetlaw15_HashGrows_cut (sub (bodyOf Try.f5) [true, true, true, true, true, true, true, true, true, true, true, true, true, false, true, false, false]) 262132 (thenQ (fun tm h => quintetlaw15_HashGrows_l39_L Q k (mask [1, 2, 3, 4, 9, 11, 14] tm) h) (maskQ (fun e => match e with | .ret => [8] | .exit 2 => [1, 2, 3, 4, 9] | _ => []) Q)) (mkTm [(1, some (.int .i64 x2277)), (2, some (.int .u32 x2278)), (3, some (.int .i64 x2279)), (4, some (.pointer (some a2280))), (9, some (.pointer p2281)), (11, some (.pointer (some a2282))), (14, some (.int .i64 x2283))]) h := by kernel_rfl
theorem quintetlaw15_HashGrows_l39_mask (Q : Qx) (k : Nat) (tm : Tm) (h : Hp) : quintetlaw15_HashGrows_l39_L Q k tm h ↔ quintetlaw15_HashGrows_l39_L Q k (mask [1, 2, 3, 4, 9, 11, 14] tm) h := Iff.rfl
set_option maxRecDepth 100000 in
theorem quintetlaw15_HashGrows_l39_snd : SndAt Try.prog 135 none (sub (bodyOf Try.f5) [true, true, true, true, true, true, true, true, true, true, true, true, true, false, true, false]) (quintetlaw15_HashGrows_lp 131066) := by
  refine loop_sound (lp := quintetlaw15_HashGrows_lp) (cut := quintetlaw15_HashGrows_cut) (i := 131066) (c := (sub (bodyOf Try.f5) [true, true, true, true, true, true, true, true, true, true, true, true, true, false, true, false, false])) [1, 2, 3, 4, 9, 11, 14] (fun e => match e with | .ret => [8] | .exit 2 => [1, 2, 3, 4, 9] | _ => []) quintetlaw15_HashGrows_l39_L ?_ ?_ ?_
  · exact good_by (c := (sub (bodyOf Try.f5) [true, true, true, true, true, true, true, true, true, true, true, true, true, false, true, false, false])) (i := 262132) (l := []) (by kernel_rfl) (fun _ h => by cases h)
  · intro Q tm h H
    obtain ⟨x2277, e1, H⟩ := selI_ex H
    obtain ⟨x2278, e2, H⟩ := selI_ex H
    obtain ⟨x2279, e3, H⟩ := selI_ex H
    obtain ⟨a2280, e4, H⟩ := selA_ex H
    obtain ⟨p2281, e9, H⟩ := selP_ex H
    obtain ⟨a2282, e11, H⟩ := selA_ex H
    obtain ⟨x2283, e14, H⟩ := selI_ex H
    exact H
  · intro Q k tm h H
    have H0 := H
    obtain ⟨x2277, e1, H⟩ := selI_ex H
    obtain ⟨x2278, e2, H⟩ := selI_ex H
    obtain ⟨x2279, e3, H⟩ := selI_ex H
    obtain ⟨a2280, e4, H⟩ := selA_ex H
    obtain ⟨p2281, e9, H⟩ := selP_ex H
    obtain ⟨a2282, e11, H⟩ := selA_ex H
    obtain ⟨x2283, e14, H⟩ := selI_ex H
    have e : mask [1, 2, 3, 4, 9, 11, 14] tm = mkTm [(1, some (.int .i64 x2277)), (2, some (.int .u32 x2278)), (3, some (.int .i64 x2279)), (4, some (.pointer (some a2280))), (9, some (.pointer p2281)), (11, some (.pointer (some a2282))), (14, some (.int .i64 x2283))] := by simp only [mask, List.map_cons, List.map_nil, e1, e2, e3, e4, e9, e11, e14] <;> rfl
    rw [e]
    refine Eq.mp (quintetlaw15_HashGrows_l39_step Q k x2277 x2278 x2279 a2280 p2281 a2282 x2283 h) ?_
    rw [← e]
    exact (quintetlaw15_HashGrows_l39_mask Q (k + 1) tm h).mp H0
set_option maxRecDepth 100000 in
theorem quintetlaw15_HashGrows_j38_step (Q : Qx) (x2163 : Int) (x2164 : Int) (x2165 : Int) (a2166 : Addr) (p2167 : Option Addr) (a2168 : Addr) (h : Hp) : quintetlaw15_HashGrows_j38_L Q (mkTm [(1, some (.int .i64 x2163)), (2, some (.int .u32 x2164)), (3, some (.int .i64 x2165)), (4, some (.pointer (some a2166))), (9, some (.pointer p2167)), (11, some (.pointer (some a2168)))]) h =
    codeWp Try.prog 135 quintetlaw15_HashGrows_lp quintetlaw15_HashGrows_cut (sub (bodyOf Try.f5) [true, true, true, true, true, true, true, true, true, true, true, true]) 8191 (maskQ (fun e => match e with | .ret => [8] | _ => []) Q) (mkTm [(1, some (.int .i64 x2163)), (2, some (.int .u32 x2164)), (3, some (.int .i64 x2165)), (4, some (.pointer (some a2166))), (9, some (.pointer p2167)), (11, some (.pointer (some a2168)))]) h := by kernel_rfl
theorem quintetlaw15_HashGrows_j38_mask (Q : Qx) (tm : Tm) (h : Hp) : quintetlaw15_HashGrows_j38_L Q tm h ↔ quintetlaw15_HashGrows_j38_L Q (mask [1, 2, 3, 4, 9, 11] tm) h := Iff.rfl
set_option maxRecDepth 100000 in
theorem quintetlaw15_HashGrows_j38_snd : SndAt Try.prog 135 none (sub (bodyOf Try.f5) [true, true, true, true, true, true, true, true, true, true, true, true]) (quintetlaw15_HashGrows_lp 4095) := by
  refine join_sound (lp := quintetlaw15_HashGrows_lp) (cut := quintetlaw15_HashGrows_cut) (i := 4095) (c := (sub (bodyOf Try.f5) [true, true, true, true, true, true, true, true, true, true, true, true])) [1, 2, 3, 4, 9, 11] (fun e => match e with | .ret => [8] | _ => []) quintetlaw15_HashGrows_j38_L ?_ ?_
  · exact good_by (c := (sub (bodyOf Try.f5) [true, true, true, true, true, true, true, true, true, true, true, true])) (i := 8191) (l := [(131066, (sub (bodyOf Try.f5) [true, true, true, true, true, true, true, true, true, true, true, true, true, false, true, false]))]) (by kernel_rfl) (List.forall_mem_cons.2 ⟨quintetlaw15_HashGrows_l39_snd, (fun _ h => by cases h)⟩)
  · intro Q tm h H
    have H0 := H
    obtain ⟨x2163, e1, H⟩ := selI_ex H
    obtain ⟨x2164, e2, H⟩ := selI_ex H
    obtain ⟨x2165, e3, H⟩ := selI_ex H
    obtain ⟨a2166, e4, H⟩ := selA_ex H
    obtain ⟨p2167, e9, H⟩ := selP_ex H
    obtain ⟨a2168, e11, H⟩ := selA_ex H
    have e : mask [1, 2, 3, 4, 9, 11] tm = mkTm [(1, some (.int .i64 x2163)), (2, some (.int .u32 x2164)), (3, some (.int .i64 x2165)), (4, some (.pointer (some a2166))), (9, some (.pointer p2167)), (11, some (.pointer (some a2168)))] := by simp only [mask, List.map_cons, List.map_nil, e1, e2, e3, e4, e9, e11] <;> rfl
    rw [e]
    refine Eq.mp (quintetlaw15_HashGrows_j38_step Q x2163 x2164 x2165 a2166 p2167 a2168 h) ?_
    rw [← e]
    exact (quintetlaw15_HashGrows_j38_mask Q tm h).mp H0
set_option maxRecDepth 100000 in
theorem quintetlaw15_HashGrows_j35_step (Q : Qx) (x1803 : Int) (x1804 : Int) (x1805 : Int) (a1806 : Addr) (p1807 : Option Addr) (h : Hp) : quintetlaw15_HashGrows_j35_L Q (mkTm [(1, some (.int .i64 x1803)), (2, some (.int .u32 x1804)), (3, some (.int .i64 x1805)), (4, some (.pointer (some a1806))), (9, some (.pointer p1807))]) h =
    codeWp Try.prog 135 quintetlaw15_HashGrows_lp quintetlaw15_HashGrows_cut (sub (bodyOf Try.f5) [true, true, true, true, true, true, true]) 255 (maskQ (fun e => match e with | .ret => [8] | _ => []) Q) (mkTm [(1, some (.int .i64 x1803)), (2, some (.int .u32 x1804)), (3, some (.int .i64 x1805)), (4, some (.pointer (some a1806))), (9, some (.pointer p1807))]) h := by kernel_rfl
theorem quintetlaw15_HashGrows_j35_mask (Q : Qx) (tm : Tm) (h : Hp) : quintetlaw15_HashGrows_j35_L Q tm h ↔ quintetlaw15_HashGrows_j35_L Q (mask [1, 2, 3, 4, 9] tm) h := Iff.rfl
set_option maxRecDepth 100000 in
theorem quintetlaw15_HashGrows_j35_snd : SndAt Try.prog 135 none (sub (bodyOf Try.f5) [true, true, true, true, true, true, true]) (quintetlaw15_HashGrows_lp 127) := by
  refine join_sound (lp := quintetlaw15_HashGrows_lp) (cut := quintetlaw15_HashGrows_cut) (i := 127) (c := (sub (bodyOf Try.f5) [true, true, true, true, true, true, true])) [1, 2, 3, 4, 9] (fun e => match e with | .ret => [8] | _ => []) quintetlaw15_HashGrows_j35_L ?_ ?_
  · exact good_by (c := (sub (bodyOf Try.f5) [true, true, true, true, true, true, true])) (i := 255) (l := [(8186, (sub (bodyOf Try.f5) [true, true, true, true, true, true, true, true, true, false, true, false])), (4095, (sub (bodyOf Try.f5) [true, true, true, true, true, true, true, true, true, true, true, true]))]) (by kernel_rfl) (List.forall_mem_cons.2 ⟨quintetlaw15_HashGrows_l36_snd, (List.forall_mem_cons.2 ⟨quintetlaw15_HashGrows_j38_snd, (fun _ h => by cases h)⟩)⟩)
  · intro Q tm h H
    have H0 := H
    obtain ⟨x1803, e1, H⟩ := selI_ex H
    obtain ⟨x1804, e2, H⟩ := selI_ex H
    obtain ⟨x1805, e3, H⟩ := selI_ex H
    obtain ⟨a1806, e4, H⟩ := selA_ex H
    obtain ⟨p1807, e9, H⟩ := selP_ex H
    have e : mask [1, 2, 3, 4, 9] tm = mkTm [(1, some (.int .i64 x1803)), (2, some (.int .u32 x1804)), (3, some (.int .i64 x1805)), (4, some (.pointer (some a1806))), (9, some (.pointer p1807))] := by simp only [mask, List.map_cons, List.map_nil, e1, e2, e3, e4, e9] <;> rfl
    rw [e]
    refine Eq.mp (quintetlaw15_HashGrows_j35_step Q x1803 x1804 x1805 a1806 p1807 h) ?_
    rw [← e]
    exact (quintetlaw15_HashGrows_j35_mask Q tm h).mp H0
set_option maxRecDepth 100000 in
theorem quintetlaw15_HashGrows_j30_step (Q : Qx) (x1203 : Int) (x1204 : Int) (x1205 : Int) (a1206 : Addr) (h : Hp) : quintetlaw15_HashGrows_j30_L Q (mkTm [(1, some (.int .i64 x1203)), (2, some (.int .u32 x1204)), (3, some (.int .i64 x1205)), (4, some (.pointer (some a1206)))]) h =
    codeWp Try.prog 135 quintetlaw15_HashGrows_lp quintetlaw15_HashGrows_cut (sub (bodyOf Try.f5) [true, true, true, true]) 31 (maskQ (fun e => match e with | .ret => [8] | _ => []) Q) (mkTm [(1, some (.int .i64 x1203)), (2, some (.int .u32 x1204)), (3, some (.int .i64 x1205)), (4, some (.pointer (some a1206)))]) h := by kernel_rfl
theorem quintetlaw15_HashGrows_j30_mask (Q : Qx) (tm : Tm) (h : Hp) : quintetlaw15_HashGrows_j30_L Q tm h ↔ quintetlaw15_HashGrows_j30_L Q (mask [1, 2, 3, 4] tm) h := Iff.rfl
set_option maxRecDepth 100000 in
theorem quintetlaw15_HashGrows_j30_snd : SndAt Try.prog 135 none (sub (bodyOf Try.f5) [true, true, true, true]) (quintetlaw15_HashGrows_lp 15) := by
  refine join_sound (lp := quintetlaw15_HashGrows_lp) (cut := quintetlaw15_HashGrows_cut) (i := 15) (c := (sub (bodyOf Try.f5) [true, true, true, true])) [1, 2, 3, 4] (fun e => match e with | .ret => [8] | _ => []) quintetlaw15_HashGrows_j30_L ?_ ?_
  · exact good_by (c := (sub (bodyOf Try.f5) [true, true, true, true])) (i := 31) (l := [(127, (sub (bodyOf Try.f5) [true, true, true, true, true, true, true]))]) (by kernel_rfl) (List.forall_mem_cons.2 ⟨quintetlaw15_HashGrows_j35_snd, (fun _ h => by cases h)⟩)
  · intro Q tm h H
    have H0 := H
    obtain ⟨x1203, e1, H⟩ := selI_ex H
    obtain ⟨x1204, e2, H⟩ := selI_ex H
    obtain ⟨x1205, e3, H⟩ := selI_ex H
    obtain ⟨a1206, e4, H⟩ := selA_ex H
    have e : mask [1, 2, 3, 4] tm = mkTm [(1, some (.int .i64 x1203)), (2, some (.int .u32 x1204)), (3, some (.int .i64 x1205)), (4, some (.pointer (some a1206)))] := by simp only [mask, List.map_cons, List.map_nil, e1, e2, e3, e4] <;> rfl
    rw [e]
    refine Eq.mp (quintetlaw15_HashGrows_j30_step Q x1203 x1204 x1205 a1206 h) ?_
    rw [← e]
    exact (quintetlaw15_HashGrows_j30_mask Q tm h).mp H0
set_option maxRecDepth 100000 in
theorem quintetlaw15_HashGrows_j20_step (Q : Qx) (x11 : Int) (x12 : Int) (x13 : Int) (a14 : Addr) (h : Hp) : quintetlaw15_HashGrows_j20_L Q (mkTm [(1, some (.int .i64 x11)), (2, some (.int .u32 x12)), (3, some (.int .i64 x13)), (4, some (.pointer (some a14)))]) h =
    codeWp Try.prog 135 quintetlaw15_HashGrows_lp quintetlaw15_HashGrows_cut (sub (bodyOf Try.f5) [true, true]) 7 (maskQ (fun e => match e with | .ret => [8] | _ => []) Q) (mkTm [(1, some (.int .i64 x11)), (2, some (.int .u32 x12)), (3, some (.int .i64 x13)), (4, some (.pointer (some a14)))]) h := by kernel_rfl
theorem quintetlaw15_HashGrows_j20_mask (Q : Qx) (tm : Tm) (h : Hp) : quintetlaw15_HashGrows_j20_L Q tm h ↔ quintetlaw15_HashGrows_j20_L Q (mask [1, 2, 3, 4] tm) h := Iff.rfl
set_option maxRecDepth 100000 in
theorem quintetlaw15_HashGrows_j20_snd : SndAt Try.prog 135 none (sub (bodyOf Try.f5) [true, true]) (quintetlaw15_HashGrows_lp 3) := by
  refine join_sound (lp := quintetlaw15_HashGrows_lp) (cut := quintetlaw15_HashGrows_cut) (i := 3) (c := (sub (bodyOf Try.f5) [true, true])) [1, 2, 3, 4] (fun e => match e with | .ret => [8] | _ => []) quintetlaw15_HashGrows_j20_L ?_ ?_
  · exact good_by (c := (sub (bodyOf Try.f5) [true, true])) (i := 7) (l := [(15, (sub (bodyOf Try.f5) [true, true, true, true]))]) (by kernel_rfl) (List.forall_mem_cons.2 ⟨quintetlaw15_HashGrows_j30_snd, (fun _ h => by cases h)⟩)
  · intro Q tm h H
    have H0 := H
    obtain ⟨x11, e1, H⟩ := selI_ex H
    obtain ⟨x12, e2, H⟩ := selI_ex H
    obtain ⟨x13, e3, H⟩ := selI_ex H
    obtain ⟨a14, e4, H⟩ := selA_ex H
    have e : mask [1, 2, 3, 4] tm = mkTm [(1, some (.int .i64 x11)), (2, some (.int .u32 x12)), (3, some (.int .i64 x13)), (4, some (.pointer (some a14)))] := by simp only [mask, List.map_cons, List.map_nil, e1, e2, e3, e4] <;> rfl
    rw [e]
    refine Eq.mp (quintetlaw15_HashGrows_j20_step Q x11 x12 x13 a14 h) ?_
    rw [← e]
    exact (quintetlaw15_HashGrows_j20_mask Q tm h).mp H0
set_option maxRecDepth 100000 in
theorem quintetlaw15_HashGrows_eq (x1 : Int) (x2 : Int) (x3 : Int) (x4 : Int) (x5 : Int) (x6 : Int) (x7 : Int) (x8 : Int) (h : Hp) (K : Value → Hp → Prop) : quintetlaw15_HashGrows x1 x2 x3 x4 x5 x6 x7 x8 h K =
    codeWp Try.prog 135 quintetlaw15_HashGrows_lp quintetlaw15_HashGrows_cut (bodyOf Try.f5) 1 (endQ Try.prog Try.f5.results.toList K) (argTm [(.agg #[(.int .u32 x1), (.int .u32 x2), (.int .u16 x3), (.int .u16 x4), (.int .u8 x5)]), (.int .i64 x6), (.int .u32 x7), (.int .i64 x8)]) h := by kernel_rfl
set_option maxRecDepth 100000 in
theorem quintetlaw15_HashGrows_ok (x1 : Int) (x2 : Int) (x3 : Int) (x4 : Int) (x5 : Int) (x6 : Int) (x7 : Int) (x8 : Int) {h : Hp} {K : Value → Hp → Prop} (H : quintetlaw15_HashGrows x1 x2 x3 x4 x5 x6 x7 x8 h K) : CallsH Try.prog 5 #[(.agg #[(.int .u32 x1), (.int .u32 x2), (.int .u16 x3), (.int .u16 x4), (.int .u8 x5)]), (.int .i64 x6), (.int .u32 x7), (.int .i64 x8)] h K :=
  calls_of (args := [(.agg #[(.int .u32 x1), (.int .u32 x2), (.int .u16 x3), (.int .u16 x4), (.int .u8 x5)]), (.int .i64 x6), (.int .u32 x7), (.int .i64 x8)]) (n := 135) (lp := quintetlaw15_HashGrows_lp) (cut := quintetlaw15_HashGrows_cut) Try.func5 (c := bodyOf Try.f5) (by kernel_rfl) (by kernel_rfl) (by kernel_rfl) (good_by (c := (bodyOf Try.f5)) (i := 1) (l := [(3, (sub (bodyOf Try.f5) [true, true]))]) (by kernel_rfl) (List.forall_mem_cons.2 ⟨quintetlaw15_HashGrows_j20_snd, (fun _ h => by cases h)⟩))
    (Eq.mp (quintetlaw15_HashGrows_eq x1 x2 x3 x4 x5 x6 x7 x8 h K) H)

/-! ### quintet/quintetlaw15.HashNil: function 6 -/
def quintetlaw15_HashNil (x1 : Int) (x2 : Int) (x3 : Int) (x4 : Int) (x5 : Int) (x6 : Int) (h : Hp) (K : Value → Hp → Prop) : Prop :=
  newC h (.cells #[(.int .u32 x1), (.int .u32 x2), (.int .u16 x3), (.int .u16 x4), (.int .u8 x5)] 36 (0, 0)) fun a8 h7 => 
  newC h7 (.cells #[(.bool false)] 4 (0, 0)) fun a10 h9 => 
  ∃ x11 : Int, ∃ x12 : Int, ∃ x13 : Int, ∃ x14 : Int, ∃ x15 : Int, HV Try.prog (Instr.loadAt 36 (.pointer (some a8))) h9 (.agg #[(.int .u32 x11), (.int .u32 x12), (.int .u16 x13), (.int .u16 x14), (.int .u8 x15)]) ∧ 
  CallsH Try.prog 15 #[(.pointer none), (.agg #[(.int .u32 x11), (.int .u32 x12), (.int .u16 x13), (.int .u16 x14), (.int .u8 x15)]), (.int .i64 x6)] h9 fun r17 h16 =>
  ∃ x18 : Int, r17 = (.int .i64 x18) ∧ 
  ∃ x19 : Int, ∃ x20 : Int, ∃ x21 : Int, ∃ x22 : Int, ∃ x23 : Int, HV Try.prog (Instr.loadAt 36 (.pointer (some a8))) h16 (.agg #[(.int .u32 x19), (.int .u32 x20), (.int .u16 x21), (.int .u16 x22), (.int .u8 x23)]) ∧ 
  CallsH Try.prog 17 #[(.pointer none), (.agg #[(.int .u32 x19), (.int .u32 x20), (.int .u16 x21), (.int .u16 x22), (.int .u8 x23)])] h16 fun r25 h24 =>
  ∃ x26 : Int, ∃ b27 : Bool, r25 = (.tuple #[(.int .i64 x26), (.bool b27)]) ∧ 
  CallsH Try.prog 23 #[(.pointer none)] h24 fun r29 h28 =>
  ∃ v30 : Value, r29 = v30 ∧ 
  ∃ b31 : Bool, PV Try.prog (binOp .eql 55 v30 .nilFunc) (.bool b31) ∧
  br b31
  (HU Try.prog (Instr.storeAt 4 (.pointer (some a10)) (.bool false)) h28 fun h32 => 
  shut [] h32 fun h33 =>
  ∃ b34 : Bool, HV Try.prog (Instr.loadAt 4 (.pointer (some a10))) h33 (.bool b34) ∧ K (.bool b34) h33)
  (RangeW Try.prog 62 v30 #[25, 26] (sub (bodyOf Try.f6) [true, true, true, true, true, true, false, true, false, false]) (sub (bodyOf Try.f6) [true, true, true, true, true, true, false, true, false, true]) (mkTm [(4, some (.pointer (some a10)))]) h28
  (fun (D35 : Nat) (h36 : Hp) =>
  CallsH Try.prog 14 #[] h36 fun r41 h40 =>
  ∃ b42 : Bool, r41 = (.bool b42) ∧ 
  br b42
  (br (x18 == 3)
  (br (x26 == 0)
  (br (!b27)
  (∃ x43 : Int, ∃ x44 : Int, ∃ x45 : Int, ∃ x46 : Int, ∃ x47 : Int, HV Try.prog (Instr.loadAt 36 (.pointer (some a8))) h40 (.agg #[(.int .u32 x43), (.int .u32 x44), (.int .u16 x45), (.int .u16 x46), (.int .u8 x47)]) ∧ 
  CallsH Try.prog 19 #[(.pointer none), (.agg #[(.int .u32 x43), (.int .u32 x44), (.int .u16 x45), (.int .u16 x46), (.int .u8 x47)])] h40 fun r49 h48 =>
  ∃ b50 : Bool, r49 = (.bool b50) ∧ 
  br (!b50)
  (CallsH Try.prog 24 #[(.pointer none)] h48 fun r52 h51 =>
  ∃ x53 : Int, r52 = (.int .i64 x53) ∧ 
  br (x53 == 0)
  (CallsH Try.prog 25 #[(.pointer none)] h51 fun r55 h54 =>
  ∃ x56 : Int, r55 = (.int .i64 x56) ∧ 
  br (x56 == 0)
  (∃ x57 : Int, ∃ x58 : Int, ∃ x59 : Int, ∃ x60 : Int, ∃ x61 : Int, HV Try.prog (Instr.loadAt 36 (.pointer (some a8))) h54 (.agg #[(.int .u32 x57), (.int .u32 x58), (.int .u16 x59), (.int .u16 x60), (.int .u8 x61)]) ∧ 
  CallsH Try.prog 26 #[(.pointer none), (.agg #[(.int .u32 x57), (.int .u32 x58), (.int .u16 x59), (.int .u16 x60), (.int .u8 x61)])] h54 fun r63 h62 =>
  ∃ x64 : Int, r63 = (.int .i64 x64) ∧ 
  HU Try.prog (Instr.storeAt 4 (.pointer (some a10)) (.bool (x64 == 0))) h62 fun h65 => 
  shut (D35 :: []) h65 fun h66 =>
  ∃ b67 : Bool, HV Try.prog (Instr.loadAt 4 (.pointer (some a10))) h66 (.bool b67) ∧ K (.bool b67) h66)
  (HU Try.prog (Instr.storeAt 4 (.pointer (some a10)) (.bool false)) h54 fun h68 => 
  shut (D35 :: []) h68 fun h69 =>
  ∃ b70 : Bool, HV Try.prog (Instr.loadAt 4 (.pointer (some a10))) h69 (.bool b70) ∧ K (.bool b70) h69))
  (HU Try.prog (Instr.storeAt 4 (.pointer (some a10)) (.bool false)) h51 fun h71 => 
  shut (D35 :: []) h71 fun h72 =>
  ∃ b73 : Bool, HV Try.prog (Instr.loadAt 4 (.pointer (some a10))) h72 (.bool b73) ∧ K (.bool b73) h72))
  (HU Try.prog (Instr.storeAt 4 (.pointer (some a10)) (.bool false)) h48 fun h74 => 
  shut (D35 :: []) h74 fun h75 =>
  ∃ b76 : Bool, HV Try.prog (Instr.loadAt 4 (.pointer (some a10))) h75 (.bool b76) ∧ K (.bool b76) h75))
  (HU Try.prog (Instr.storeAt 4 (.pointer (some a10)) (.bool false)) h40 fun h77 => 
  shut (D35 :: []) h77 fun h78 =>
  ∃ b79 : Bool, HV Try.prog (Instr.loadAt 4 (.pointer (some a10))) h78 (.bool b79) ∧ K (.bool b79) h78))
  (HU Try.prog (Instr.storeAt 4 (.pointer (some a10)) (.bool false)) h40 fun h80 => 
  shut (D35 :: []) h80 fun h81 =>
  ∃ b82 : Bool, HV Try.prog (Instr.loadAt 4 (.pointer (some a10))) h81 (.bool b82) ∧ K (.bool b82) h81))
  (HU Try.prog (Instr.storeAt 4 (.pointer (some a10)) (.bool false)) h40 fun h83 => 
  shut (D35 :: []) h83 fun h84 =>
  ∃ b85 : Bool, HV Try.prog (Instr.loadAt 4 (.pointer (some a10))) h84 (.bool b85) ∧ K (.bool b85) h84))
  (HU Try.prog (Instr.storeAt 4 (.pointer (some a10)) (.bool false)) h40 fun h86 => 
  shut (D35 :: []) h86 fun h87 =>
  ∃ b88 : Bool, HV Try.prog (Instr.loadAt 4 (.pointer (some a10))) h87 (.bool b88) ∧ K (.bool b88) h87))
  (fun (c39 : Code) (D37 : Nat) (h38 : Hp) =>
  jmpQ c39
  (shut (D37 :: []) h38 fun h89 =>
  ∃ b90 : Bool, HV Try.prog (Instr.loadAt 4 (.pointer (some a10))) h89 (.bool b90) ∧ K (.bool b90) h89)
  []))
def quintetlaw15_HashNil_lp (i : Nat) (Q : Qr) (tm : Tm) (dl : List Nat) (h : Hp) : Prop := False
def quintetlaw15_HashNil_cut (i : Nat) : Option (List Nat) := match Nat.beq i 1018 with
  | true => some [4]
  | false => none
set_option maxRecDepth 100000 in
theorem quintetlaw15_HashNil_eq (x1 : Int) (x2 : Int) (x3 : Int) (x4 : Int) (x5 : Int) (x6 : Int) (h : Hp) (K : Value → Hp → Prop) : quintetlaw15_HashNil x1 x2 x3 x4 x5 x6 h K =
    rcodeWp Try.prog 62 quintetlaw15_HashNil_lp quintetlaw15_HashNil_cut (bodyOf Try.f6) 1 (endR Try.prog Try.f6.results.toList K) (argTm [(.agg #[(.int .u32 x1), (.int .u32 x2), (.int .u16 x3), (.int .u16 x4), (.int .u8 x5)]), (.int .i64 x6)]) [] h := by kernel_rfl
set_option maxRecDepth 100000 in
theorem quintetlaw15_HashNil_ok (x1 : Int) (x2 : Int) (x3 : Int) (x4 : Int) (x5 : Int) (x6 : Int) {h : Hp} {K : Value → Hp → Prop} (H : quintetlaw15_HashNil x1 x2 x3 x4 x5 x6 h K) : CallsH Try.prog 6 #[(.agg #[(.int .u32 x1), (.int .u32 x2), (.int .u16 x3), (.int .u16 x4), (.int .u8 x5)]), (.int .i64 x6)] h K :=
  calls_ofR (args := [(.agg #[(.int .u32 x1), (.int .u32 x2), (.int .u16 x3), (.int .u16 x4), (.int .u8 x5)]), (.int .i64 x6)]) (n := 62) (lp := quintetlaw15_HashNil_lp) (cut := quintetlaw15_HashNil_cut) Try.func6 (c := bodyOf Try.f6) (by kernel_rfl) (by kernel_rfl) (by kernel_rfl) (good_byR (c := (bodyOf Try.f6)) (i := 1) (l := []) (by kernel_rfl) (fun _ h => by cases h))
    (Eq.mp (quintetlaw15_HashNil_eq x1 x2 x3 x4 x5 x6 h K) H)
/-- A round of the range at 1018. -/
def quintetlaw15_HashNil_r1 (a91 : Addr) (x92 : Int) (x93 : Int) (x94 : Int) (x95 : Int) (x96 : Int) (x97 : Int) (l98 : Nat) (h : Hp) (K : Value → Hp → Prop) : Prop :=
  rbeg l98 h fun h99 =>
  HU Try.prog (Instr.storeAt 4 (.pointer (some a91)) (.bool false)) h99 fun h100 => 
  rend l98 (some .ret) h100 fun h101 => K (.bool false) h101
set_option maxRecDepth 100000 in
theorem quintetlaw15_HashNil_r1_eq (a91 : Addr) (x92 : Int) (x93 : Int) (x94 : Int) (x95 : Int) (x96 : Int) (x97 : Int) (l98 : Nat) (h : Hp) (K : Value → Hp → Prop) : quintetlaw15_HashNil_r1 a91 x92 x93 x94 x95 x96 x97 l98 h K =
    roundW Try.prog 62 lp0 cut0 l98 (sub (bodyOf Try.f6) [true, true, true, true, true, true, false, true, false, false]) (sub (bodyOf Try.f6) [true, true, true, true, true, true, false, true, false, true]) 1 K (prmTm [25, 26] [(.agg #[(.int .u32 x92), (.int .u32 x93), (.int .u16 x94), (.int .u16 x95), (.int .u8 x96)]), (.int .i64 x97)] (mkTm [(4, some (.pointer (some a91)))])) h := by kernel_rfl
set_option maxRecDepth 100000 in
theorem quintetlaw15_HashNil_r1_ok (a91 : Addr) (x92 : Int) (x93 : Int) (x94 : Int) (x95 : Int) (x96 : Int) (x97 : Int) {l98 D : Nat} {h : Hp} {r : Loop} {K : Value → Hp → Prop} (hr : h[l98]? = some (.loop r)) (ok : RecOK 62 #[25, 26] (sub (bodyOf Try.f6) [true, true, true, true, true, true, false, true, false, false]) (sub (bodyOf Try.f6) [true, true, true, true, true, true, false, true, false, true]) (mkTm [(4, some (.pointer (some a91)))]) D r) (H : quintetlaw15_HashNil_r1 a91 x92 x93 x94 x95 x96 x97 l98 h K) : HN Try.prog (callS (yieldV l98) #[(.agg #[(.int .u32 x92), (.int .u32 x93), (.int .u16 x94), (.int .u16 x95), (.int .u8 x96)]), (.int .i64 x97)]) h K :=
  round_sound (lp := lp0) (ps := [25, 26]) (vs := [(.agg #[(.int .u32 x92), (.int .u32 x93), (.int .u16 x94), (.int .u16 x95), (.int .u8 x96)]), (.int .i64 x97)]) (i := 1) (good_by (l := []) (by kernel_rfl) (fun _ h => by cases h)) (good_by (l := []) (by kernel_rfl) (fun _ h => by cases h)) hr ok rfl (by kernel_rfl)
    (Eq.mp (quintetlaw15_HashNil_r1_eq a91 x92 x93 x94 x95 x96 x97 l98 h K) H)

/-! ### quintet/quintetref15.Put: function 16 -/
def quintetref15_Put (A1 : Option Addr) (l1 : Nat) (c1 : Nat) (x2 : Int) (x3 : Int) (x4 : Int) (x5 : Int) (x6 : Int) (x7 : Int) (x8 : Int) (h : Hp) (K : Value → Hp → Prop) : Prop :=
  newC h (.cells #[(.int .u32 x3), (.int .u32 x4), (.int .u16 x5), (.int .u16 x6), (.int .u8 x7)] 36 (0, 0)) fun a10 h9 => 
  ∃ x11 : Int, ∃ x12 : Int, ∃ x13 : Int, ∃ x14 : Int, ∃ x15 : Int, HV Try.prog (Instr.loadAt 36 (.pointer (some a10))) h9 (.agg #[(.int .u32 x11), (.int .u32 x12), (.int .u16 x13), (.int .u16 x14), (.int .u8 x15)]) ∧ 
  CallsH Try.prog 45 #[(.slice A1 l1 c1), (.agg #[(.int .u32 x11), (.int .u32 x12), (.int .u16 x13), (.int .u16 x14), (.int .u8 x15)])] h9 fun r17 h16 =>
  ∃ x18 : Int, ∃ b19 : Bool, r17 = (.tuple #[(.int .i64 x18), (.bool b19)]) ∧ 
  br b19
  (HW Try.prog (Builtin.append_ #[32, 32] 32 #[(.slice none 0 0), (.slice A1 l1 c1)]) h16 fun r21 h20 =>
  ∃ A22 : Option Addr, ∃ l22 : Nat, ∃ c22 : Nat, r21 = (.slice A22 l22 c22) ∧ 
  ∃ a23 : Addr, PV Try.prog (Instr.indexAt 32 (.slice A22 l22 c22) (.int .i64 x18)) (.pointer (some a23)) ∧
  HU Try.prog (Instr.storeAt 3 (.pointer (some (a23.add 5))) (.int .i64 x8)) h20 fun h24 => 
  K (.tuple #[(.slice A22 l22 c22), (.int .i64 0)]) h24)
  (br (decide ((l1 : Int) ≥ x2))
  (K (.tuple #[(.slice A1 l1 c1), (.int .i64 150)]) h16)
  (∃ A25 : Option Addr, ∃ l25 : Nat, ∃ c25 : Nat, PV Try.prog (Instr.sliceAt 32 (.slice A1 l1 c1) none (some (.int .i64 x18)) none) (.slice A25 l25 c25) ∧
  HW Try.prog (Builtin.append_ #[32, 32] 32 #[(.slice none 0 0), (.slice A25 l25 c25)]) h16 fun r27 h26 =>
  ∃ A28 : Option Addr, ∃ l28 : Nat, ∃ c28 : Nat, r27 = (.slice A28 l28 c28) ∧ 
  ∃ x29 : Int, ∃ x30 : Int, ∃ x31 : Int, ∃ x32 : Int, ∃ x33 : Int, HV Try.prog (Instr.loadAt 36 (.pointer (some a10))) h26 (.agg #[(.int .u32 x29), (.int .u32 x30), (.int .u16 x31), (.int .u16 x32), (.int .u8 x33)]) ∧ 
  newC h26 (.cells #[(.int .u32 x29), (.int .u32 x30), (.int .u16 x31), (.int .u16 x32), (.int .u8 x33), (.int .i64 x8)] 52 (0, 0)) fun a35 h34 => 
  HW Try.prog (Builtin.append_ #[32, 32] 32 #[(.slice A28 l28 c28), (.slice (some a35) 1 1)]) h34 fun r37 h36 =>
  ∃ A38 : Option Addr, ∃ l38 : Nat, ∃ c38 : Nat, r37 = (.slice A38 l38 c38) ∧ 
  ∃ A39 : Option Addr, ∃ l39 : Nat, ∃ c39 : Nat, PV Try.prog (Instr.sliceAt 32 (.slice A1 l1 c1) (some (.int .i64 x18)) none none) (.slice A39 l39 c39) ∧
  HW Try.prog (Builtin.append_ #[32, 32] 32 #[(.slice A38 l38 c38), (.slice A39 l39 c39)]) h36 fun r41 h40 =>
  ∃ A42 : Option Addr, ∃ l42 : Nat, ∃ c42 : Nat, r41 = (.slice A42 l42 c42) ∧ 
  K (.tuple #[(.slice A42 l42 c42), (.int .i64 0)]) h40))
def quintetref15_Put_lp (i : Nat) (Q : Qx) (tm : Tm) (h : Hp) : Prop := False
def quintetref15_Put_cut (i : Nat) : Option (List Nat) := none
set_option maxRecDepth 100000 in
theorem quintetref15_Put_eq (A1 : Option Addr) (l1 : Nat) (c1 : Nat) (x2 : Int) (x3 : Int) (x4 : Int) (x5 : Int) (x6 : Int) (x7 : Int) (x8 : Int) (h : Hp) (K : Value → Hp → Prop) : quintetref15_Put A1 l1 c1 x2 x3 x4 x5 x6 x7 x8 h K =
    codeWp Try.prog 51 quintetref15_Put_lp quintetref15_Put_cut (bodyOf Try.f16) 1 (endQ Try.prog Try.f16.results.toList K) (argTm [(.slice A1 l1 c1), (.int .i64 x2), (.agg #[(.int .u32 x3), (.int .u32 x4), (.int .u16 x5), (.int .u16 x6), (.int .u8 x7)]), (.int .i64 x8)]) h := by kernel_rfl
set_option maxRecDepth 100000 in
theorem quintetref15_Put_ok (A1 : Option Addr) (l1 : Nat) (c1 : Nat) (x2 : Int) (x3 : Int) (x4 : Int) (x5 : Int) (x6 : Int) (x7 : Int) (x8 : Int) {h : Hp} {K : Value → Hp → Prop} (H : quintetref15_Put A1 l1 c1 x2 x3 x4 x5 x6 x7 x8 h K) : CallsH Try.prog 16 #[(.slice A1 l1 c1), (.int .i64 x2), (.agg #[(.int .u32 x3), (.int .u32 x4), (.int .u16 x5), (.int .u16 x6), (.int .u8 x7)]), (.int .i64 x8)] h K :=
  calls_of (args := [(.slice A1 l1 c1), (.int .i64 x2), (.agg #[(.int .u32 x3), (.int .u32 x4), (.int .u16 x5), (.int .u16 x6), (.int .u8 x7)]), (.int .i64 x8)]) (n := 51) (lp := quintetref15_Put_lp) (cut := quintetref15_Put_cut) Try.func16 (c := bodyOf Try.f16) (by kernel_rfl) (by kernel_rfl) (by kernel_rfl) (good_by (c := (bodyOf Try.f16)) (i := 1) (l := []) (by kernel_rfl) (fun _ h => by cases h))
    (Eq.mp (quintetref15_Put_eq A1 l1 c1 x2 x3 x4 x5 x6 x7 x8 h K) H)

/-! ### quintet/quintetref15.Get: function 18 -/
def quintetref15_Get (A1 : Option Addr) (l1 : Nat) (c1 : Nat) (x2 : Int) (x3 : Int) (x4 : Int) (x5 : Int) (x6 : Int) (h : Hp) (K : Value → Hp → Prop) : Prop :=
  newC h (.cells #[(.int .u32 x2), (.int .u32 x3), (.int .u16 x4), (.int .u16 x5), (.int .u8 x6)] 36 (0, 0)) fun a8 h7 => 
  ∃ x9 : Int, ∃ x10 : Int, ∃ x11 : Int, ∃ x12 : Int, ∃ x13 : Int, HV Try.prog (Instr.loadAt 36 (.pointer (some a8))) h7 (.agg #[(.int .u32 x9), (.int .u32 x10), (.int .u16 x11), (.int .u16 x12), (.int .u8 x13)]) ∧ 
  CallsH Try.prog 45 #[(.slice A1 l1 c1), (.agg #[(.int .u32 x9), (.int .u32 x10), (.int .u16 x11), (.int .u16 x12), (.int .u8 x13)])] h7 fun r15 h14 =>
  ∃ x16 : Int, ∃ b17 : Bool, r15 = (.tuple #[(.int .i64 x16), (.bool b17)]) ∧ 
  br (!b17)
  (K (.tuple #[(.int .i64 0), (.bool false)]) h14)
  (∃ a18 : Addr, PV Try.prog (Instr.indexAt 32 (.slice A1 l1 c1) (.int .i64 x16)) (.pointer (some a18)) ∧
  ∃ x19 : Int, HV Try.prog (Instr.loadAt 3 (.pointer (some (a18.add 5)))) h14 (.int .i64 x19) ∧ 
  K (.tuple #[(.int .i64 x19), (.bool true)]) h14)
def quintetref15_Get_lp (i : Nat) (Q : Qx) (tm : Tm) (h : Hp) : Prop := False
def quintetref15_Get_cut (i : Nat) : Option (List Nat) := none
set_option maxRecDepth 100000 in
theorem quintetref15_Get_eq (A1 : Option Addr) (l1 : Nat) (c1 : Nat) (x2 : Int) (x3 : Int) (x4 : Int) (x5 : Int) (x6 : Int) (h : Hp) (K : Value → Hp → Prop) : quintetref15_Get A1 l1 c1 x2 x3 x4 x5 x6 h K =
    codeWp Try.prog 21 quintetref15_Get_lp quintetref15_Get_cut (bodyOf Try.f18) 1 (endQ Try.prog Try.f18.results.toList K) (argTm [(.slice A1 l1 c1), (.agg #[(.int .u32 x2), (.int .u32 x3), (.int .u16 x4), (.int .u16 x5), (.int .u8 x6)])]) h := by kernel_rfl
set_option maxRecDepth 100000 in
theorem quintetref15_Get_ok (A1 : Option Addr) (l1 : Nat) (c1 : Nat) (x2 : Int) (x3 : Int) (x4 : Int) (x5 : Int) (x6 : Int) {h : Hp} {K : Value → Hp → Prop} (H : quintetref15_Get A1 l1 c1 x2 x3 x4 x5 x6 h K) : CallsH Try.prog 18 #[(.slice A1 l1 c1), (.agg #[(.int .u32 x2), (.int .u32 x3), (.int .u16 x4), (.int .u16 x5), (.int .u8 x6)])] h K :=
  calls_of (args := [(.slice A1 l1 c1), (.agg #[(.int .u32 x2), (.int .u32 x3), (.int .u16 x4), (.int .u16 x5), (.int .u8 x6)])]) (n := 21) (lp := quintetref15_Get_lp) (cut := quintetref15_Get_cut) Try.func18 (c := bodyOf Try.f18) (by kernel_rfl) (by kernel_rfl) (by kernel_rfl) (good_by (c := (bodyOf Try.f18)) (i := 1) (l := []) (by kernel_rfl) (fun _ h => by cases h))
    (Eq.mp (quintetref15_Get_eq A1 l1 c1 x2 x3 x4 x5 x6 h K) H)

/-! ### quintet/quintetref15.Delete: function 20 -/
def quintetref15_Delete (A1 : Option Addr) (l1 : Nat) (c1 : Nat) (x2 : Int) (x3 : Int) (x4 : Int) (x5 : Int) (x6 : Int) (h : Hp) (K : Value → Hp → Prop) : Prop :=
  newC h (.cells #[(.int .u32 x2), (.int .u32 x3), (.int .u16 x4), (.int .u16 x5), (.int .u8 x6)] 36 (0, 0)) fun a8 h7 => 
  ∃ x9 : Int, ∃ x10 : Int, ∃ x11 : Int, ∃ x12 : Int, ∃ x13 : Int, HV Try.prog (Instr.loadAt 36 (.pointer (some a8))) h7 (.agg #[(.int .u32 x9), (.int .u32 x10), (.int .u16 x11), (.int .u16 x12), (.int .u8 x13)]) ∧ 
  CallsH Try.prog 45 #[(.slice A1 l1 c1), (.agg #[(.int .u32 x9), (.int .u32 x10), (.int .u16 x11), (.int .u16 x12), (.int .u8 x13)])] h7 fun r15 h14 =>
  ∃ x16 : Int, ∃ b17 : Bool, r15 = (.tuple #[(.int .i64 x16), (.bool b17)]) ∧ 
  br (!b17)
  (K (.tuple #[(.slice A1 l1 c1), (.bool false)]) h14)
  (∃ A18 : Option Addr, ∃ l18 : Nat, ∃ c18 : Nat, PV Try.prog (Instr.sliceAt 32 (.slice A1 l1 c1) none (some (.int .i64 x16)) none) (.slice A18 l18 c18) ∧
  HW Try.prog (Builtin.append_ #[32, 32] 32 #[(.slice none 0 0), (.slice A18 l18 c18)]) h14 fun r20 h19 =>
  ∃ A21 : Option Addr, ∃ l21 : Nat, ∃ c21 : Nat, r20 = (.slice A21 l21 c21) ∧ 
  ∃ A22 : Option Addr, ∃ l22 : Nat, ∃ c22 : Nat, PV Try.prog (Instr.sliceAt 32 (.slice A1 l1 c1) (some (.int .i64 (IntKind.i64.wrap (x16 + 1)))) none none) (.slice A22 l22 c22) ∧
  HW Try.prog (Builtin.append_ #[32, 32] 32 #[(.slice A21 l21 c21), (.slice A22 l22 c22)]) h19 fun r24 h23 =>
  ∃ A25 : Option Addr, ∃ l25 : Nat, ∃ c25 : Nat, r24 = (.slice A25 l25 c25) ∧ 
  K (.tuple #[(.slice A25 l25 c25), (.bool true)]) h23)
def quintetref15_Delete_lp (i : Nat) (Q : Qx) (tm : Tm) (h : Hp) : Prop := False
def quintetref15_Delete_cut (i : Nat) : Option (List Nat) := none
set_option maxRecDepth 100000 in
theorem quintetref15_Delete_eq (A1 : Option Addr) (l1 : Nat) (c1 : Nat) (x2 : Int) (x3 : Int) (x4 : Int) (x5 : Int) (x6 : Int) (h : Hp) (K : Value → Hp → Prop) : quintetref15_Delete A1 l1 c1 x2 x3 x4 x5 x6 h K =
    codeWp Try.prog 29 quintetref15_Delete_lp quintetref15_Delete_cut (bodyOf Try.f20) 1 (endQ Try.prog Try.f20.results.toList K) (argTm [(.slice A1 l1 c1), (.agg #[(.int .u32 x2), (.int .u32 x3), (.int .u16 x4), (.int .u16 x5), (.int .u8 x6)])]) h := by kernel_rfl
set_option maxRecDepth 100000 in
theorem quintetref15_Delete_ok (A1 : Option Addr) (l1 : Nat) (c1 : Nat) (x2 : Int) (x3 : Int) (x4 : Int) (x5 : Int) (x6 : Int) {h : Hp} {K : Value → Hp → Prop} (H : quintetref15_Delete A1 l1 c1 x2 x3 x4 x5 x6 h K) : CallsH Try.prog 20 #[(.slice A1 l1 c1), (.agg #[(.int .u32 x2), (.int .u32 x3), (.int .u16 x4), (.int .u16 x5), (.int .u8 x6)])] h K :=
  calls_of (args := [(.slice A1 l1 c1), (.agg #[(.int .u32 x2), (.int .u32 x3), (.int .u16 x4), (.int .u16 x5), (.int .u8 x6)])]) (n := 29) (lp := quintetref15_Delete_lp) (cut := quintetref15_Delete_cut) Try.func20 (c := bodyOf Try.f20) (by kernel_rfl) (by kernel_rfl) (by kernel_rfl) (good_by (c := (bodyOf Try.f20)) (i := 1) (l := []) (by kernel_rfl) (fun _ h => by cases h))
    (Eq.mp (quintetref15_Delete_eq A1 l1 c1 x2 x3 x4 x5 x6 h K) H)

/-! ### quintet/quintetlaw15.all: function 21 -/
def quintetlaw15_all_l1 (a20 : Addr) (a21 : Addr) (a22 : Addr) (v23 : Value) (K0 : Addr → List Nat → Hp → Prop) (K1 : Addr → List Nat → Hp → Prop)  : Nat → (Option Addr) → List Nat → Hp → Prop
  | 0, _, _, _ => False
  | k + 1, p24, dl25, h =>
    ∃ x75 : Int, HV Try.prog (Instr.loadAt 3 (.pointer p24)) h (.int .i64 x75) ∧ 
    br (decide (x75 < 2))
    (newC h (.cells #[(.int .i64 0)] 3 (0, 0)) fun a77 h76 => 
    HU Try.prog (Instr.storeAt 3 (.pointer (some a77)) (.int .i64 0)) h76 fun h78 => 
    RangeW Try.prog 68 v23 #[21, 22] (sub (bodyOf Try.f21) [true, true, true, false, true, false, false, true, false, false, true, false, true, false, false]) (sub (bodyOf Try.f21) [true, true, true, false, true, false, false, true, false, false, true, false, true, false, true]) (mkTm [(4, some (.pointer (some a20))), (5, some (.pointer (some a21))), (6, some (.pointer (some a22))), (8, some (.pointer p24)), (9, some (.pointer (some a77)))]) h78
    (fun (D79 : Nat) (h80 : Hp) =>
    ∃ x103 : Int, HV Try.prog (Instr.loadAt 3 (.pointer (some a77))) h80 (.int .i64 x103) ∧ 
    ∃ A104 : Option Addr, ∃ l104 : Nat, ∃ c104 : Nat, HV Try.prog (Instr.loadAt 32 (.pointer (some a20))) h80 (.slice A104 l104 c104) ∧ 
    br (x103 != (l104 : Int))
    (∃ x105 : Int, HV Try.prog (Instr.loadAt 3 (.pointer p24)) h80 (.int .i64 x105) ∧ 
    br (x105 == 1)
    (HU Try.prog (Instr.storeAt 4 (.pointer (some a22)) (.bool false)) h80 fun h106 => 
    K0 a22 (D79 :: dl25) h106)
    (∃ x107 : Int, HV Try.prog (Instr.loadAt 3 (.pointer (some a77))) h80 (.int .i64 x107) ∧ 
    ∃ x108 : Int, HV Try.prog (Instr.loadAt 3 (.pointer (some a21))) h80 (.int .i64 x108) ∧ 
    br (x107 != x108)
    (HU Try.prog (Instr.storeAt 4 (.pointer (some a22)) (.bool false)) h80 fun h109 => 
    K0 a22 (D79 :: dl25) h109)
    (∃ x110 : Int, HV Try.prog (Instr.loadAt 3 (.pointer p24)) h80 (.int .i64 x110) ∧ 
    newC h80 (.cells #[(.int .i64 0)] 3 (0, 0)) fun a112 h111 => 
    HU Try.prog (Instr.storeAt 3 (.pointer (some a112)) (.int .i64 x110)) h111 fun h113 => 
    ∃ x114 : Int, HV Try.prog (Instr.loadAt 3 (.pointer (some a112))) h113 (.int .i64 x114) ∧ 
    HU Try.prog (Instr.storeAt 3 (.pointer (some a112)) (.int .i64 (IntKind.i64.wrap (x114 + 1)))) h113 fun h115 => 
    quintetlaw15_all_l1 a20 a21 a22 v23 K0 K1 k (some a112) (D79 :: dl25) h115)))
    (∃ x116 : Int, HV Try.prog (Instr.loadAt 3 (.pointer p24)) h80 (.int .i64 x116) ∧ 
    newC h80 (.cells #[(.int .i64 0)] 3 (0, 0)) fun a118 h117 => 
    HU Try.prog (Instr.storeAt 3 (.pointer (some a118)) (.int .i64 x116)) h117 fun h119 => 
    ∃ x120 : Int, HV Try.prog (Instr.loadAt 3 (.pointer (some a118))) h119 (.int .i64 x120) ∧ 
    HU Try.prog (Instr.storeAt 3 (.pointer (some a118)) (.int .i64 (IntKind.i64.wrap (x120 + 1)))) h119 fun h121 => 
    quintetlaw15_all_l1 a20 a21 a22 v23 K0 K1 k (some a118) (D79 :: dl25) h121))
    (fun (c83 : Code) (D81 : Nat) (h82 : Hp) =>
    jmpQ c83
    (K0 a22 (D81 :: dl25) h82)
    [(2, ∃ x84 : Int, HV Try.prog (Instr.loadAt 3 (.pointer (some a77))) h82 (.int .i64 x84) ∧ 
    ∃ A85 : Option Addr, ∃ l85 : Nat, ∃ c85 : Nat, HV Try.prog (Instr.loadAt 32 (.pointer (some a20))) h82 (.slice A85 l85 c85) ∧ 
    br (x84 != (l85 : Int))
    (∃ x86 : Int, HV Try.prog (Instr.loadAt 3 (.pointer p24)) h82 (.int .i64 x86) ∧ 
    br (x86 == 1)
    (HU Try.prog (Instr.storeAt 4 (.pointer (some a22)) (.bool false)) h82 fun h87 => 
    K0 a22 (D81 :: dl25) h87)
    (∃ x88 : Int, HV Try.prog (Instr.loadAt 3 (.pointer (some a77))) h82 (.int .i64 x88) ∧ 
    ∃ x89 : Int, HV Try.prog (Instr.loadAt 3 (.pointer (some a21))) h82 (.int .i64 x89) ∧ 
    br (x88 != x89)
    (HU Try.prog (Instr.storeAt 4 (.pointer (some a22)) (.bool false)) h82 fun h90 => 
    K0 a22 (D81 :: dl25) h90)
    (∃ x91 : Int, HV Try.prog (Instr.loadAt 3 (.pointer p24)) h82 (.int .i64 x91) ∧ 
    newC h82 (.cells #[(.int .i64 0)] 3 (0, 0)) fun a93 h92 => 
    HU Try.prog (Instr.storeAt 3 (.pointer (some a93)) (.int .i64 x91)) h92 fun h94 => 
    ∃ x95 : Int, HV Try.prog (Instr.loadAt 3 (.pointer (some a93))) h94 (.int .i64 x95) ∧ 
    HU Try.prog (Instr.storeAt 3 (.pointer (some a93)) (.int .i64 (IntKind.i64.wrap (x95 + 1)))) h94 fun h96 => 
    quintetlaw15_all_l1 a20 a21 a22 v23 K0 K1 k (some a93) (D81 :: dl25) h96)))
    (∃ x97 : Int, HV Try.prog (Instr.loadAt 3 (.pointer p24)) h82 (.int .i64 x97) ∧ 
    newC h82 (.cells #[(.int .i64 0)] 3 (0, 0)) fun a99 h98 => 
    HU Try.prog (Instr.storeAt 3 (.pointer (some a99)) (.int .i64 x97)) h98 fun h100 => 
    ∃ x101 : Int, HV Try.prog (Instr.loadAt 3 (.pointer (some a99))) h100 (.int .i64 x101) ∧ 
    HU Try.prog (Instr.storeAt 3 (.pointer (some a99)) (.int .i64 (IntKind.i64.wrap (x101 + 1)))) h100 fun h102 => 
    quintetlaw15_all_l1 a20 a21 a22 v23 K0 K1 k (some a99) (D81 :: dl25) h102))]))
    (K1 a22 dl25 h)
def quintetlaw15_all_l1_L (Q : Qr) (k : Nat) (tm : Tm) (dl : List Nat) (h : Hp) : Prop :=
  selA (tm 4) fun a20 =>
  selA (tm 5) fun a21 =>
  selA (tm 6) fun a22 =>
  selV (tm 7) fun v23 =>
  selP (tm 8) fun p24 =>
  quintetlaw15_all_l1 a20 a21 a22 v23 (fun (a73 : Addr) dl h => Q (.ret) (mkTm [(6, some (.pointer (some a73)))]) dl h) (fun (a74 : Addr) dl h => Q (.exit 0) (mkTm [(6, some (.pointer (some a74)))]) dl h) k p24 dl h
def quintetlaw15_all (p1 : Option Addr) (A2 : Option Addr) (l2 : Nat) (c2 : Nat) (x3 : Int) (h : Hp) (K : Value → Hp → Prop) : Prop :=
  newC h (.cells #[(.slice A2 l2 c2)] 32 (0, 0)) fun a5 h4 => 
  newC h4 (.cells #[(.int .i64 x3)] 3 (0, 0)) fun a7 h6 => 
  newC h6 (.cells #[(.bool false)] 4 (0, 0)) fun a9 h8 => 
  CallsH Try.prog 23 #[(.pointer p1)] h8 fun r11 h10 =>
  ∃ v12 : Value, r11 = v12 ∧ 
  ∃ b13 : Bool, PV Try.prog (binOp .eql 55 v12 .nilFunc) (.bool b13) ∧
  br b13
  (HU Try.prog (Instr.storeAt 4 (.pointer (some a9)) (.bool false)) h10 fun h14 => 
  shut [] h14 fun h15 =>
  ∃ b16 : Bool, HV Try.prog (Instr.loadAt 4 (.pointer (some a9))) h15 (.bool b16) ∧ K (.bool b16) h15)
  (newC h10 (.cells #[(.int .i64 0)] 3 (0, 0)) fun a18 h17 => 
  HU Try.prog (Instr.storeAt 3 (.pointer (some a18)) (.int .i64 0)) h17 fun h19 => 
  ∃ k133, quintetlaw15_all_l1 a5 a7 a9 v12
  (fun (a122 : Addr) (dl124 : List Nat) (h123 : Hp) =>
  shut dl124 h123 fun h125 =>
  ∃ b126 : Bool, HV Try.prog (Instr.loadAt 4 (.pointer (some a122))) h125 (.bool b126) ∧ K (.bool b126) h125)
  (fun (a127 : Addr) (dl129 : List Nat) (h128 : Hp) =>
  HU Try.prog (Instr.storeAt 4 (.pointer (some a127)) (.bool true)) h128 fun h130 => 
  shut dl129 h130 fun h131 =>
  ∃ b132 : Bool, HV Try.prog (Instr.loadAt 4 (.pointer (some a127))) h131 (.bool b132) ∧ K (.bool b132) h131)
  k133 (some a18) [] h19)
def quintetlaw15_all_lp (i : Nat) (Q : Qr) (tm : Tm) (dl : List Nat) (h : Hp) : Prop := match Nat.beq i 122 with
  | true => ∃ k, quintetlaw15_all_l1_L Q k tm dl h
  | false => False
def quintetlaw15_all_cut (i : Nat) : Option (List Nat) := match Nat.beq i 31306 with
  | true => some [4, 5, 6, 8, 9]
  | false => none
set_option maxRecDepth 100000 in
theorem quintetlaw15_all_l1_step (Q : Qr) (k : Nat) (a20 : Addr) (a21 : Addr) (a22 : Addr) (v23 : Value) (p24 : Option Addr) (dl : List Nat) (h : Hp) : quintetlaw15_all_l1_L Q (k + 1) (mkTm [(4, some (.pointer (some a20))), (5, some (.pointer (some a21))), (6, some (.pointer (some a22))), (7, some v23), (8, some (.pointer p24))]) dl h =
    rcodeWp Try.prog 68 quintetlaw15_all_lp quintetlaw15_all_cut (sub (bodyOf Try.f21) [true, true, true, false, true, false, false]) 244 (thenR (fun tm dl h => quintetlaw15_all_l1_L Q k (mask [4, 5, 6, 7, 8] tm) dl h) (maskR (fun e => match e with | .ret => [6] | .exit 0 => [6] | _ => []) Q)) (mkTm [(4, some (.pointer (some a20))), (5, some (.pointer (some a21))), (6, some (.pointer (some a22))), (7, some v23), (8, some (.pointer p24))]) dl h := by kernel_rfl
theorem quintetlaw15_all_l1_mask (Q : Qr) (k : Nat) (tm : Tm) (dl : List Nat) (h : Hp) : quintetlaw15_all_l1_L Q k tm dl h ↔ quintetlaw15_all_l1_L Q k (mask [4, 5, 6, 7, 8] tm) dl h := Iff.rfl
set_option maxRecDepth 100000 in
theorem quintetlaw15_all_l1_snd : SndR Try.prog 68 (sub (bodyOf Try.f21) [true, true, true, false, true, false]) (quintetlaw15_all_lp 122) := by
  refine loop_soundR (lp := quintetlaw15_all_lp) (cut := quintetlaw15_all_cut) (i := 122) (c := (sub (bodyOf Try.f21) [true, true, true, false, true, false, false])) [4, 5, 6, 7, 8] (fun e => match e with | .ret => [6] | .exit 0 => [6] | _ => []) quintetlaw15_all_l1_L ?_ ?_ ?_
  · exact good_byR (c := (sub (bodyOf Try.f21) [true, true, true, false, true, false, false])) (i := 244) (l := []) (by kernel_rfl) (fun _ h => by cases h)
  · intro Q tm dl h H
    obtain ⟨a20, e4, H⟩ := selA_ex H
    obtain ⟨a21, e5, H⟩ := selA_ex H
    obtain ⟨a22, e6, H⟩ := selA_ex H
    obtain ⟨v23, e7, H⟩ := selV_ex H
    obtain ⟨p24, e8, H⟩ := selP_ex H
    exact H
  · intro Q k tm dl h H
    have H0 := H
    obtain ⟨a20, e4, H⟩ := selA_ex H
    obtain ⟨a21, e5, H⟩ := selA_ex H
    obtain ⟨a22, e6, H⟩ := selA_ex H
    obtain ⟨v23, e7, H⟩ := selV_ex H
    obtain ⟨p24, e8, H⟩ := selP_ex H
    have e : mask [4, 5, 6, 7, 8] tm = mkTm [(4, some (.pointer (some a20))), (5, some (.pointer (some a21))), (6, some (.pointer (some a22))), (7, some v23), (8, some (.pointer p24))] := by simp only [mask, List.map_cons, List.map_nil, e4, e5, e6, e7, e8] <;> rfl
    rw [e]
    refine Eq.mp (quintetlaw15_all_l1_step Q k a20 a21 a22 v23 p24 dl h) ?_
    rw [← e]
    exact (quintetlaw15_all_l1_mask Q (k + 1) tm dl h).mp H0
set_option maxRecDepth 100000 in
theorem quintetlaw15_all_eq (p1 : Option Addr) (A2 : Option Addr) (l2 : Nat) (c2 : Nat) (x3 : Int) (h : Hp) (K : Value → Hp → Prop) : quintetlaw15_all p1 A2 l2 c2 x3 h K =
    rcodeWp Try.prog 68 quintetlaw15_all_lp quintetlaw15_all_cut (bodyOf Try.f21) 1 (endR Try.prog Try.f21.results.toList K) (argTm [(.pointer p1), (.slice A2 l2 c2), (.int .i64 x3)]) [] h := by kernel_rfl
set_option maxRecDepth 100000 in
theorem quintetlaw15_all_ok (p1 : Option Addr) (A2 : Option Addr) (l2 : Nat) (c2 : Nat) (x3 : Int) {h : Hp} {K : Value → Hp → Prop} (H : quintetlaw15_all p1 A2 l2 c2 x3 h K) : CallsH Try.prog 21 #[(.pointer p1), (.slice A2 l2 c2), (.int .i64 x3)] h K :=
  calls_ofR (args := [(.pointer p1), (.slice A2 l2 c2), (.int .i64 x3)]) (n := 68) (lp := quintetlaw15_all_lp) (cut := quintetlaw15_all_cut) Try.func21 (c := bodyOf Try.f21) (by kernel_rfl) (by kernel_rfl) (by kernel_rfl) (good_byR (c := (bodyOf Try.f21)) (i := 1) (l := [(122, (sub (bodyOf Try.f21) [true, true, true, false, true, false]))]) (by kernel_rfl) (List.forall_mem_cons.2 ⟨quintetlaw15_all_l1_snd, (fun _ h => by cases h)⟩))
    (Eq.mp (quintetlaw15_all_eq p1 A2 l2 c2 x3 h K) H)
/-- A round of the range at 31306. -/
def quintetlaw15_all_r1 (a134 : Addr) (a135 : Addr) (a136 : Addr) (p137 : Option Addr) (a138 : Addr) (x139 : Int) (x140 : Int) (x141 : Int) (x142 : Int) (x143 : Int) (x144 : Int) (l145 : Nat) (h : Hp) (K : Value → Hp → Prop) : Prop :=
  newC h (.cells #[(.int .u32 0), (.int .u32 0), (.int .u16 0), (.int .u16 0), (.int .u8 0)] 36 (0, 0)) fun a147 h146 => 
  HU Try.prog (Instr.storeAt 36 (.pointer (some a147)) (.agg #[(.int .u32 x139), (.int .u32 x140), (.int .u16 x141), (.int .u16 x142), (.int .u8 x143)])) h146 fun h148 => 
  rbeg l145 h148 fun h149 =>
  ∃ x150 : Int, HV Try.prog (Instr.loadAt 3 (.pointer (some a138))) h149 (.int .i64 x150) ∧ 
  ∃ A151 : Option Addr, ∃ l151 : Nat, ∃ c151 : Nat, HV Try.prog (Instr.loadAt 32 (.pointer (some a134))) h149 (.slice A151 l151 c151) ∧ 
  br (decide (x150 ≥ (l151 : Int)))
  (HU Try.prog (Instr.storeAt 4 (.pointer (some a136)) (.bool false)) h149 fun h152 => 
  rend l145 (some .ret) h152 fun h153 => K (.bool false) h153)
  (∃ x154 : Int, ∃ x155 : Int, ∃ x156 : Int, ∃ x157 : Int, ∃ x158 : Int, HV Try.prog (Instr.loadAt 36 (.pointer (some a147))) h149 (.agg #[(.int .u32 x154), (.int .u32 x155), (.int .u16 x156), (.int .u16 x157), (.int .u8 x158)]) ∧ 
  ∃ A159 : Option Addr, ∃ l159 : Nat, ∃ c159 : Nat, HV Try.prog (Instr.loadAt 32 (.pointer (some a134))) h149 (.slice A159 l159 c159) ∧ 
  ∃ x160 : Int, HV Try.prog (Instr.loadAt 3 (.pointer (some a138))) h149 (.int .i64 x160) ∧ 
  ∃ a161 : Addr, PV Try.prog (Instr.indexAt 32 (.slice A159 l159 c159) (.int .i64 x160)) (.pointer (some a161)) ∧
  ∃ x162 : Int, ∃ x163 : Int, ∃ x164 : Int, ∃ x165 : Int, ∃ x166 : Int, HV Try.prog (Instr.loadAt 36 (.pointer (some a161))) h149 (.agg #[(.int .u32 x162), (.int .u32 x163), (.int .u16 x164), (.int .u16 x165), (.int .u8 x166)]) ∧ 
  ∃ b167 : Bool, PV Try.prog (binOp .neq 36 (.agg #[(.int .u32 x154), (.int .u32 x155), (.int .u16 x156), (.int .u16 x157), (.int .u8 x158)]) (.agg #[(.int .u32 x162), (.int .u32 x163), (.int .u16 x164), (.int .u16 x165), (.int .u8 x166)])) (.bool b167) ∧
  br b167
  (HU Try.prog (Instr.storeAt 4 (.pointer (some a136)) (.bool false)) h149 fun h168 => 
  rend l145 (some .ret) h168 fun h169 => K (.bool false) h169)
  (∃ A170 : Option Addr, ∃ l170 : Nat, ∃ c170 : Nat, HV Try.prog (Instr.loadAt 32 (.pointer (some a134))) h149 (.slice A170 l170 c170) ∧ 
  ∃ x171 : Int, HV Try.prog (Instr.loadAt 3 (.pointer (some a138))) h149 (.int .i64 x171) ∧ 
  ∃ a172 : Addr, PV Try.prog (Instr.indexAt 32 (.slice A170 l170 c170) (.int .i64 x171)) (.pointer (some a172)) ∧
  ∃ x173 : Int, HV Try.prog (Instr.loadAt 3 (.pointer (some (a172.add 5)))) h149 (.int .i64 x173) ∧ 
  br (x144 != x173)
  (HU Try.prog (Instr.storeAt 4 (.pointer (some a136)) (.bool false)) h149 fun h174 => 
  rend l145 (some .ret) h174 fun h175 => K (.bool false) h175)
  (∃ x176 : Int, HV Try.prog (Instr.loadAt 3 (.pointer (some a138))) h149 (.int .i64 x176) ∧ 
  HU Try.prog (Instr.storeAt 3 (.pointer (some a138)) (.int .i64 (IntKind.i64.wrap (x176 + 1)))) h149 fun h177 => 
  ∃ x178 : Int, HV Try.prog (Instr.loadAt 3 (.pointer p137)) h177 (.int .i64 x178) ∧ 
  br (x178 == 0)
  (∃ x179 : Int, HV Try.prog (Instr.loadAt 3 (.pointer (some a138))) h177 (.int .i64 x179) ∧ 
  ∃ x180 : Int, HV Try.prog (Instr.loadAt 3 (.pointer (some a135))) h177 (.int .i64 x180) ∧ 
  br (x179 == x180)
  (rend l145 (some (.exit 2)) h177 fun h181 => K (.bool false) h181)
  (rend l145 none h177 fun h182 => K (.bool true) h182))
  (rend l145 none h177 fun h183 => K (.bool true) h183))))
set_option maxRecDepth 100000 in
theorem quintetlaw15_all_r1_eq (a134 : Addr) (a135 : Addr) (a136 : Addr) (p137 : Option Addr) (a138 : Addr) (x139 : Int) (x140 : Int) (x141 : Int) (x142 : Int) (x143 : Int) (x144 : Int) (l145 : Nat) (h : Hp) (K : Value → Hp → Prop) : quintetlaw15_all_r1 a134 a135 a136 p137 a138 x139 x140 x141 x142 x143 x144 l145 h K =
    roundW Try.prog 68 lp0 cut0 l145 (sub (bodyOf Try.f21) [true, true, true, false, true, false, false, true, false, false, true, false, true, false, false]) (sub (bodyOf Try.f21) [true, true, true, false, true, false, false, true, false, false, true, false, true, false, true]) 1 K (prmTm [21, 22] [(.agg #[(.int .u32 x139), (.int .u32 x140), (.int .u16 x141), (.int .u16 x142), (.int .u8 x143)]), (.int .i64 x144)] (mkTm [(4, some (.pointer (some a134))), (5, some (.pointer (some a135))), (6, some (.pointer (some a136))), (8, some (.pointer p137)), (9, some (.pointer (some a138)))])) h := by kernel_rfl
set_option maxRecDepth 100000 in
theorem quintetlaw15_all_r1_ok (a134 : Addr) (a135 : Addr) (a136 : Addr) (p137 : Option Addr) (a138 : Addr) (x139 : Int) (x140 : Int) (x141 : Int) (x142 : Int) (x143 : Int) (x144 : Int) {l145 D : Nat} {h : Hp} {r : Loop} {K : Value → Hp → Prop} (hr : h[l145]? = some (.loop r)) (ok : RecOK 68 #[21, 22] (sub (bodyOf Try.f21) [true, true, true, false, true, false, false, true, false, false, true, false, true, false, false]) (sub (bodyOf Try.f21) [true, true, true, false, true, false, false, true, false, false, true, false, true, false, true]) (mkTm [(4, some (.pointer (some a134))), (5, some (.pointer (some a135))), (6, some (.pointer (some a136))), (8, some (.pointer p137)), (9, some (.pointer (some a138)))]) D r) (H : quintetlaw15_all_r1 a134 a135 a136 p137 a138 x139 x140 x141 x142 x143 x144 l145 h K) : HN Try.prog (callS (yieldV l145) #[(.agg #[(.int .u32 x139), (.int .u32 x140), (.int .u16 x141), (.int .u16 x142), (.int .u8 x143)]), (.int .i64 x144)]) h K :=
  round_sound (lp := lp0) (ps := [21, 22]) (vs := [(.agg #[(.int .u32 x139), (.int .u32 x140), (.int .u16 x141), (.int .u16 x142), (.int .u8 x143)]), (.int .i64 x144)]) (i := 1) (good_by (l := []) (by kernel_rfl) (fun _ h => by cases h)) (good_by (l := []) (by kernel_rfl) (fun _ h => by cases h)) hr ok rfl (by kernel_rfl)
    (Eq.mp (quintetlaw15_all_r1_eq a134 a135 a136 p137 a138 x139 x140 x141 x142 x143 x144 l145 h K) H)

/-! ### quintet/quintetlaw15.bounds: function 22 -/
def quintetlaw15_bounds (p1 : Option Addr) (x2 : Int) (x3 : Int) (x4 : Int) (x5 : Int) (x6 : Int) (x7 : Int) (x8 : Int) (h : Hp) (K : Value → Hp → Prop) : Prop :=
  newC h (.cells #[(.int .u32 x4), (.int .u32 x5), (.int .u16 x6), (.int .u16 x7), (.int .u8 x8)] 36 (0, 0)) fun a10 h9 => 
  CallsH Try.prog 25 #[(.pointer p1)] h9 fun r12 h11 =>
  ∃ x13 : Int, r12 = (.int .i64 x13) ∧ 
  ∃ x14 : Int, ∃ x15 : Int, ∃ x16 : Int, ∃ x17 : Int, ∃ x18 : Int, HV Try.prog (Instr.loadAt 36 (.pointer (some a10))) h11 (.agg #[(.int .u32 x14), (.int .u32 x15), (.int .u16 x16), (.int .u16 x17), (.int .u8 x18)]) ∧ 
  CallsH Try.prog 26 #[(.pointer p1), (.agg #[(.int .u32 x14), (.int .u32 x15), (.int .u16 x16), (.int .u16 x17), (.int .u8 x18)])] h11 fun r20 h19 =>
  ∃ x21 : Int, r20 = (.int .i64 x21) ∧ 
  CallsH Try.prog 24 #[(.pointer p1)] h19 fun r23 h22 =>
  ∃ x24 : Int, r23 = (.int .i64 x24) ∧ 
  br (x24 == x2)
  (br (decide (x13 ≥ (IntKind.i64.wrap (x2 + 2))))
  (br (decide (x13 ≤ (IntKind.i64.wrap (8 + (IntKind.i64.wrap (4 * x3))))))
  (br (decide (x21 ≥ 1))
  (K (.bool (decide (x21 < x13))) h22)
  (K (.bool false) h22))
  (K (.bool false) h22))
  (K (.bool false) h22))
  (K (.bool false) h22)
def quintetlaw15_bounds_lp (i : Nat) (Q : Qx) (tm : Tm) (h : Hp) : Prop := False
def quintetlaw15_bounds_cut (i : Nat) : Option (List Nat) := none
set_option maxRecDepth 100000 in
theorem quintetlaw15_bounds_eq (p1 : Option Addr) (x2 : Int) (x3 : Int) (x4 : Int) (x5 : Int) (x6 : Int) (x7 : Int) (x8 : Int) (h : Hp) (K : Value → Hp → Prop) : quintetlaw15_bounds p1 x2 x3 x4 x5 x6 x7 x8 h K =
    codeWp Try.prog 42 quintetlaw15_bounds_lp quintetlaw15_bounds_cut (bodyOf Try.f22) 1 (endQ Try.prog Try.f22.results.toList K) (argTm [(.pointer p1), (.int .i64 x2), (.int .i64 x3), (.agg #[(.int .u32 x4), (.int .u32 x5), (.int .u16 x6), (.int .u16 x7), (.int .u8 x8)])]) h := by kernel_rfl
set_option maxRecDepth 100000 in
theorem quintetlaw15_bounds_ok (p1 : Option Addr) (x2 : Int) (x3 : Int) (x4 : Int) (x5 : Int) (x6 : Int) (x7 : Int) (x8 : Int) {h : Hp} {K : Value → Hp → Prop} (H : quintetlaw15_bounds p1 x2 x3 x4 x5 x6 x7 x8 h K) : CallsH Try.prog 22 #[(.pointer p1), (.int .i64 x2), (.int .i64 x3), (.agg #[(.int .u32 x4), (.int .u32 x5), (.int .u16 x6), (.int .u16 x7), (.int .u8 x8)])] h K :=
  calls_of (args := [(.pointer p1), (.int .i64 x2), (.int .i64 x3), (.agg #[(.int .u32 x4), (.int .u32 x5), (.int .u16 x6), (.int .u16 x7), (.int .u8 x8)])]) (n := 42) (lp := quintetlaw15_bounds_lp) (cut := quintetlaw15_bounds_cut) Try.func22 (c := bodyOf Try.f22) (by kernel_rfl) (by kernel_rfl) (by kernel_rfl) (good_by (c := (bodyOf Try.f22)) (i := 1) (l := []) (by kernel_rfl) (fun _ h => by cases h))
    (Eq.mp (quintetlaw15_bounds_eq p1 x2 x3 x4 x5 x6 x7 x8 h K) H)

/-! ### (*quintet/hash.Table[int]).All: function 23 -/
def hash_Table_All (p1 : Option Addr) (h : Hp) (K : Value → Hp → Prop) : Prop :=
  newC h (.cells #[(.pointer p1)] 22 (0, 0)) fun a3 h2 => 
  K (.func (.func 46) #[] #[(.pointer (some a3))]) h2
def hash_Table_All_lp (i : Nat) (Q : Qx) (tm : Tm) (h : Hp) : Prop := False
def hash_Table_All_cut (i : Nat) : Option (List Nat) := none
set_option maxRecDepth 100000 in
theorem hash_Table_All_eq (p1 : Option Addr) (h : Hp) (K : Value → Hp → Prop) : hash_Table_All p1 h K =
    codeWp Try.prog 4 hash_Table_All_lp hash_Table_All_cut (bodyOf Try.f23) 1 (endQ Try.prog Try.f23.results.toList K) (argTm [(.pointer p1)]) h := by kernel_rfl
set_option maxRecDepth 100000 in
theorem hash_Table_All_ok (p1 : Option Addr) {h : Hp} {K : Value → Hp → Prop} (H : hash_Table_All p1 h K) : CallsH Try.prog 23 #[(.pointer p1)] h K :=
  calls_of (args := [(.pointer p1)]) (n := 4) (lp := hash_Table_All_lp) (cut := hash_Table_All_cut) Try.func23 (c := bodyOf Try.f23) (by kernel_rfl) (by kernel_rfl) (by kernel_rfl) (good_by (c := (bodyOf Try.f23)) (i := 1) (l := []) (by kernel_rfl) (fun _ h => by cases h))
    (Eq.mp (hash_Table_All_eq p1 h K) H)

/-! ### (*quintet/hash.Table[int]).Slots: function 25 -/
def hash_Table_Slots (p1 : Option Addr) (h : Hp) (K : Value → Hp → Prop) : Prop :=
  ∃ b2 : Bool, PV Try.prog (binOp .eql 22 (.pointer p1) (.pointer none)) (.bool b2) ∧
  br b2
  (K (.int .i64 0) h)
  (drf p1 fun a3 =>
  ∃ A4 : Option Addr, ∃ l4 : Nat, ∃ c4 : Nat, HV Try.prog (Instr.loadAt 93 (.pointer (some (a3.add 1)))) h (.slice A4 l4 c4) ∧ 
  K (.int .i64 (l4 : Int)) h)
def hash_Table_Slots_lp (i : Nat) (Q : Qx) (tm : Tm) (h : Hp) : Prop := False
def hash_Table_Slots_cut (i : Nat) : Option (List Nat) := none
set_option maxRecDepth 100000 in
theorem hash_Table_Slots_eq (p1 : Option Addr) (h : Hp) (K : Value → Hp → Prop) : hash_Table_Slots p1 h K =
    codeWp Try.prog 10 hash_Table_Slots_lp hash_Table_Slots_cut (bodyOf Try.f25) 1 (endQ Try.prog Try.f25.results.toList K) (argTm [(.pointer p1)]) h := by kernel_rfl
set_option maxRecDepth 100000 in
theorem hash_Table_Slots_ok (p1 : Option Addr) {h : Hp} {K : Value → Hp → Prop} (H : hash_Table_Slots p1 h K) : CallsH Try.prog 25 #[(.pointer p1)] h K :=
  calls_of (args := [(.pointer p1)]) (n := 10) (lp := hash_Table_Slots_lp) (cut := hash_Table_Slots_cut) Try.func25 (c := bodyOf Try.f25) (by kernel_rfl) (by kernel_rfl) (by kernel_rfl) (good_by (c := (bodyOf Try.f25)) (i := 1) (l := []) (by kernel_rfl) (fun _ h => by cases h))
    (Eq.mp (hash_Table_Slots_eq p1 h K) H)

/-! ### (*quintet/hash.Table[int]).Probes: function 26 -/
def hash_Table_Probes (p1 : Option Addr) (x2 : Int) (x3 : Int) (x4 : Int) (x5 : Int) (x6 : Int) (h : Hp) (K : Value → Hp → Prop) : Prop :=
  newC h (.cells #[(.int .u32 x2), (.int .u32 x3), (.int .u16 x4), (.int .u16 x5), (.int .u8 x6)] 36 (0, 0)) fun a8 h7 => 
  ∃ b9 : Bool, PV Try.prog (binOp .eql 22 (.pointer p1) (.pointer none)) (.bool b9) ∧
  br b9
  (K (.int .i64 0) h7)
  (∃ x10 : Int, ∃ x11 : Int, ∃ x12 : Int, ∃ x13 : Int, ∃ x14 : Int, HV Try.prog (Instr.loadAt 36 (.pointer (some a8))) h7 (.agg #[(.int .u32 x10), (.int .u32 x11), (.int .u16 x12), (.int .u16 x13), (.int .u8 x14)]) ∧ 
  CallsH Try.prog 43 #[(.pointer p1), (.agg #[(.int .u32 x10), (.int .u32 x11), (.int .u16 x12), (.int .u16 x13), (.int .u8 x14)])] h7 fun r16 h15 =>
  ∃ x17 : Int, ∃ x18 : Int, ∃ x19 : Int, r16 = (.tuple #[(.int .i64 x17), (.int .i64 x18), (.int .i64 x19)]) ∧ 
  K (.int .i64 x19) h15)
def hash_Table_Probes_lp (i : Nat) (Q : Qx) (tm : Tm) (h : Hp) : Prop := False
def hash_Table_Probes_cut (i : Nat) : Option (List Nat) := none
set_option maxRecDepth 100000 in
theorem hash_Table_Probes_eq (p1 : Option Addr) (x2 : Int) (x3 : Int) (x4 : Int) (x5 : Int) (x6 : Int) (h : Hp) (K : Value → Hp → Prop) : hash_Table_Probes p1 x2 x3 x4 x5 x6 h K =
    codeWp Try.prog 18 hash_Table_Probes_lp hash_Table_Probes_cut (bodyOf Try.f26) 1 (endQ Try.prog Try.f26.results.toList K) (argTm [(.pointer p1), (.agg #[(.int .u32 x2), (.int .u32 x3), (.int .u16 x4), (.int .u16 x5), (.int .u8 x6)])]) h := by kernel_rfl
set_option maxRecDepth 100000 in
theorem hash_Table_Probes_ok (p1 : Option Addr) (x2 : Int) (x3 : Int) (x4 : Int) (x5 : Int) (x6 : Int) {h : Hp} {K : Value → Hp → Prop} (H : hash_Table_Probes p1 x2 x3 x4 x5 x6 h K) : CallsH Try.prog 26 #[(.pointer p1), (.agg #[(.int .u32 x2), (.int .u32 x3), (.int .u16 x4), (.int .u16 x5), (.int .u8 x6)])] h K :=
  calls_of (args := [(.pointer p1), (.agg #[(.int .u32 x2), (.int .u32 x3), (.int .u16 x4), (.int .u16 x5), (.int .u8 x6)])]) (n := 18) (lp := hash_Table_Probes_lp) (cut := hash_Table_Probes_cut) Try.func26 (c := bodyOf Try.f26) (by kernel_rfl) (by kernel_rfl) (by kernel_rfl) (good_by (c := (bodyOf Try.f26)) (i := 1) (l := []) (by kernel_rfl) (fun _ h => by cases h))
    (Eq.mp (hash_Table_Probes_eq p1 x2 x3 x4 x5 x6 h K) H)

/-! ### quintet/quintetref15.Find: function 45 -/
def quintetref15_Find_l1 (A9 : Option Addr) (l9 : Nat) (c9 : Nat) (a10 : Addr) (K0 : Int → Bool → Hp → Prop) (K1 : (Option Addr) → Nat → Nat → Hp → Prop)  : Nat → Int → Hp → Prop
  | 0, _, _ => False
  | k + 1, x11, h =>
    br (decide (x11 < (l9 : Int)))
    (∃ a29 : Addr, PV Try.prog (Instr.indexAt 32 (.slice A9 l9 c9) (.int .i64 x11)) (.pointer (some a29)) ∧
    ∃ x30 : Int, ∃ x31 : Int, ∃ x32 : Int, ∃ x33 : Int, ∃ x34 : Int, HV Try.prog (Instr.loadAt 36 (.pointer (some a29))) h (.agg #[(.int .u32 x30), (.int .u32 x31), (.int .u16 x32), (.int .u16 x33), (.int .u8 x34)]) ∧ 
    ∃ x35 : Int, ∃ x36 : Int, ∃ x37 : Int, ∃ x38 : Int, ∃ x39 : Int, HV Try.prog (Instr.loadAt 36 (.pointer (some a10))) h (.agg #[(.int .u32 x35), (.int .u32 x36), (.int .u16 x37), (.int .u16 x38), (.int .u8 x39)]) ∧ 
    CallsH Try.prog 66 #[(.agg #[(.int .u32 x30), (.int .u32 x31), (.int .u16 x32), (.int .u16 x33), (.int .u8 x34)]), (.agg #[(.int .u32 x35), (.int .u32 x36), (.int .u16 x37), (.int .u16 x38), (.int .u8 x39)])] h fun r41 h40 =>
    ∃ x42 : Int, r41 = (.int .i64 x42) ∧ 
    br (decide (x42 ≥ 0))
    (K0 x11 (x42 == 0) h40)
    (quintetref15_Find_l1 A9 l9 c9 a10 K0 K1 k (IntKind.i64.wrap (x11 + 1)) h40))
    (K1 A9 l9 c9 h)
def quintetref15_Find_l1_L (Q : Qx) (k : Nat) (tm : Tm) (h : Hp) : Prop :=
  selS (tm 0) fun A9 l9 c9 =>
  selA (tm 3) fun a10 =>
  selI .i64 (tm 6) fun x11 =>
  quintetref15_Find_l1 A9 l9 c9 a10 (fun (x26 : Int) (b27 : Bool) h => Q (.ret) (mkTm [(4, some (.int .i64 x26)), (5, some (.bool b27))]) h) (fun (A28 : Option Addr) (l28 : Nat) (c28 : Nat) h => Q (.exit 0) (mkTm [(0, some (.slice A28 l28 c28))]) h) k x11 h
def quintetref15_Find (A1 : Option Addr) (l1 : Nat) (c1 : Nat) (x2 : Int) (x3 : Int) (x4 : Int) (x5 : Int) (x6 : Int) (h : Hp) (K : Value → Hp → Prop) : Prop :=
  newC h (.cells #[(.int .u32 x2), (.int .u32 x3), (.int .u16 x4), (.int .u16 x5), (.int .u8 x6)] 36 (0, 0)) fun a8 h7 => 
  ∃ k48, quintetref15_Find_l1 A1 l1 c1 a8
  (fun (x43 : Int) (b44 : Bool) (h45 : Hp) =>
  K (.tuple #[(.int .i64 x43), (.bool b44)]) h45)
  (fun (A46 : Option Addr) (l46 : Nat) (c46 : Nat) (h47 : Hp) =>
  K (.tuple #[(.int .i64 (l46 : Int)), (.bool false)]) h47)
  k48 0 h7
def quintetref15_Find_lp (i : Nat) (Q : Qx) (tm : Tm) (h : Hp) : Prop := match Nat.beq i 26 with
  | true => ∃ k, quintetref15_Find_l1_L Q k tm h
  | false => False
def quintetref15_Find_cut (i : Nat) : Option (List Nat) := none
set_option maxRecDepth 100000 in
theorem quintetref15_Find_l1_step (Q : Qx) (k : Nat) (A9 : Option Addr) (l9 : Nat) (c9 : Nat) (a10 : Addr) (x11 : Int) (h : Hp) : quintetref15_Find_l1_L Q (k + 1) (mkTm [(0, some (.slice A9 l9 c9)), (3, some (.pointer (some a10))), (6, some (.int .i64 x11))]) h =
    codeWp Try.prog 28 quintetref15_Find_lp quintetref15_Find_cut (sub (bodyOf Try.f45) [true, false, true, false, false]) 52 (thenQ (fun tm h => quintetref15_Find_l1_L Q k (mask [0, 3, 6] tm) h) (maskQ (fun e => match e with | .ret => [4, 5] | .exit 0 => [0] | _ => []) Q)) (mkTm [(0, some (.slice A9 l9 c9)), (3, some (.pointer (some a10))), (6, some (.int .i64 x11))]) h := by kernel_rfl
theorem quintetref15_Find_l1_mask (Q : Qx) (k : Nat) (tm : Tm) (h : Hp) : quintetref15_Find_l1_L Q k tm h ↔ quintetref15_Find_l1_L Q k (mask [0, 3, 6] tm) h := Iff.rfl
set_option maxRecDepth 100000 in
theorem quintetref15_Find_l1_snd : SndAt Try.prog 28 none (sub (bodyOf Try.f45) [true, false, true, false]) (quintetref15_Find_lp 26) := by
  refine loop_sound (lp := quintetref15_Find_lp) (cut := quintetref15_Find_cut) (i := 26) (c := (sub (bodyOf Try.f45) [true, false, true, false, false])) [0, 3, 6] (fun e => match e with | .ret => [4, 5] | .exit 0 => [0] | _ => []) quintetref15_Find_l1_L ?_ ?_ ?_
  · exact good_by (c := (sub (bodyOf Try.f45) [true, false, true, false, false])) (i := 52) (l := []) (by kernel_rfl) (fun _ h => by cases h)
  · intro Q tm h H
    obtain ⟨A9, l9, c9, e0, H⟩ := selS_ex H
    obtain ⟨a10, e3, H⟩ := selA_ex H
    obtain ⟨x11, e6, H⟩ := selI_ex H
    exact H
  · intro Q k tm h H
    have H0 := H
    obtain ⟨A9, l9, c9, e0, H⟩ := selS_ex H
    obtain ⟨a10, e3, H⟩ := selA_ex H
    obtain ⟨x11, e6, H⟩ := selI_ex H
    have e : mask [0, 3, 6] tm = mkTm [(0, some (.slice A9 l9 c9)), (3, some (.pointer (some a10))), (6, some (.int .i64 x11))] := by simp only [mask, List.map_cons, List.map_nil, e0, e3, e6] <;> rfl
    rw [e]
    refine Eq.mp (quintetref15_Find_l1_step Q k A9 l9 c9 a10 x11 h) ?_
    rw [← e]
    exact (quintetref15_Find_l1_mask Q (k + 1) tm h).mp H0
set_option maxRecDepth 100000 in
theorem quintetref15_Find_eq (A1 : Option Addr) (l1 : Nat) (c1 : Nat) (x2 : Int) (x3 : Int) (x4 : Int) (x5 : Int) (x6 : Int) (h : Hp) (K : Value → Hp → Prop) : quintetref15_Find A1 l1 c1 x2 x3 x4 x5 x6 h K =
    codeWp Try.prog 28 quintetref15_Find_lp quintetref15_Find_cut (bodyOf Try.f45) 1 (endQ Try.prog Try.f45.results.toList K) (argTm [(.slice A1 l1 c1), (.agg #[(.int .u32 x2), (.int .u32 x3), (.int .u16 x4), (.int .u16 x5), (.int .u8 x6)])]) h := by kernel_rfl
set_option maxRecDepth 100000 in
theorem quintetref15_Find_ok (A1 : Option Addr) (l1 : Nat) (c1 : Nat) (x2 : Int) (x3 : Int) (x4 : Int) (x5 : Int) (x6 : Int) {h : Hp} {K : Value → Hp → Prop} (H : quintetref15_Find A1 l1 c1 x2 x3 x4 x5 x6 h K) : CallsH Try.prog 45 #[(.slice A1 l1 c1), (.agg #[(.int .u32 x2), (.int .u32 x3), (.int .u16 x4), (.int .u16 x5), (.int .u8 x6)])] h K :=
  calls_of (args := [(.slice A1 l1 c1), (.agg #[(.int .u32 x2), (.int .u32 x3), (.int .u16 x4), (.int .u16 x5), (.int .u8 x6)])]) (n := 28) (lp := quintetref15_Find_lp) (cut := quintetref15_Find_cut) Try.func45 (c := bodyOf Try.f45) (by kernel_rfl) (by kernel_rfl) (by kernel_rfl) (good_by (c := (bodyOf Try.f45)) (i := 1) (l := [(26, (sub (bodyOf Try.f45) [true, false, true, false]))]) (by kernel_rfl) (List.forall_mem_cons.2 ⟨quintetref15_Find_l1_snd, (fun _ h => by cases h)⟩))
    (Eq.mp (quintetref15_Find_eq A1 l1 c1 x2 x3 x4 x5 x6 h K) H)

/-! ### (*quintet/hash.Table[int]).All$1: function 46 -/
def hash_Table_All_1_l1 (v8 : Value) (A10 : Option Addr) (l10 : Nat) (c10 : Nat) (x11 : Int) (K0 : Value → (Option Addr) → Nat → Nat → Hp → Prop)  : Nat → (Option Addr) → Nat → Nat → Int → Hp → Prop
  | 0, _, _, _, _, _ => False
  | k + 1, A9, l9, c9, x12, h =>
    br (decide (x12 < x11))
    (∃ a39 : Addr, PV Try.prog (Instr.indexAt 93 (.slice A10 l10 c10) (.int .i64 x12)) (.pointer (some a39)) ∧
    ∃ x40 : Int, ∃ x41 : Int, ∃ x42 : Int, ∃ x43 : Int, ∃ x44 : Int, ∃ x45 : Int, ∃ x46 : Int, HV Try.prog (Instr.loadAt 104 (.pointer (some a39))) h (.agg #[(.int .u8 x40), (.int .u32 x41), (.int .u32 x42), (.int .u16 x43), (.int .u16 x44), (.int .u8 x45), (.int .i64 x46)]) ∧ 
    newC h (.cells #[(.int .u8 0), (.int .u32 0), (.int .u32 0), (.int .u16 0), (.int .u16 0), (.int .u8 0), (.int .i64 0)] 104 (0, 0)) fun a48 h47 => 
    HU Try.prog (Instr.storeAt 104 (.pointer (some a48)) (.agg #[(.int .u8 x40), (.int .u32 x41), (.int .u32 x42), (.int .u16 x43), (.int .u16 x44), (.int .u8 x45), (.int .i64 x46)])) h47 fun h49 => 
    ∃ x50 : Int, HV Try.prog (Instr.loadAt 102 (.pointer (some a48))) h49 (.int .u8 x50) ∧ 
    br (x50 == 1)
    (∃ x51 : Int, ∃ x52 : Int, ∃ x53 : Int, ∃ x54 : Int, ∃ x55 : Int, ∃ x56 : Int, ∃ x57 : Int, HV Try.prog (Instr.loadAt 104 (.pointer (some a48))) h49 (.agg #[(.int .u8 x51), (.int .u32 x52), (.int .u32 x53), (.int .u16 x54), (.int .u16 x55), (.int .u8 x56), (.int .i64 x57)]) ∧ 
    newC h49 (.cells #[(.int .u8 x51), (.int .u32 x52), (.int .u32 x53), (.int .u16 x54), (.int .u16 x55), (.int .u8 x56), (.int .i64 x57)] 104 (0, 0)) fun a59 h58 => 
    HW Try.prog (Builtin.append_ #[93, 93] 93 #[(.slice A9 l9 c9), (.slice (some a59) 1 1)]) h58 fun r61 h60 =>
    ∃ A62 : Option Addr, ∃ l62 : Nat, ∃ c62 : Nat, r61 = (.slice A62 l62 c62) ∧ 
    hash_Table_All_1_l1 v8 A10 l10 c10 x11 K0 k A62 l62 c62 (IntKind.i64.wrap (x12 + 1)) h60)
    (hash_Table_All_1_l1 v8 A10 l10 c10 x11 K0 k A9 l9 c9 (IntKind.i64.wrap (x12 + 1)) h49))
    (K0 v8 A9 l9 c9 h)
def hash_Table_All_1_l1_L (Q : Qx) (k : Nat) (tm : Tm) (h : Hp) : Prop :=
  selV (tm 0) fun v8 =>
  selS (tm 3) fun A9 l9 c9 =>
  selS (tm 13) fun A10 l10 c10 =>
  selI .i64 (tm 14) fun x11 =>
  selI .i64 (tm 15) fun x12 =>
  hash_Table_All_1_l1 v8 A10 l10 c10 x11 (fun (v37 : Value) (A38 : Option Addr) (l38 : Nat) (c38 : Nat) h => Q (.exit 0) (mkTm [(0, some v37), (3, some (.slice A38 l38 c38))]) h) k A9 l9 c9 x12 h
def hash_Table_All_1_l2 (v68 : Value) (A69 : Option Addr) (l69 : Nat) (c69 : Nat) (x70 : Int) (K0 : Hp → Prop) (K1 : Hp → Prop)  : Nat → Int → Hp → Prop
  | 0, _, _ => False
  | k + 1, x71, h =>
    br (decide (x71 < x70))
    (∃ a92 : Addr, PV Try.prog (Instr.indexAt 93 (.slice A69 l69 c69) (.int .i64 x71)) (.pointer (some a92)) ∧
    ∃ x93 : Int, ∃ x94 : Int, ∃ x95 : Int, ∃ x96 : Int, ∃ x97 : Int, ∃ x98 : Int, ∃ x99 : Int, HV Try.prog (Instr.loadAt 104 (.pointer (some a92))) h (.agg #[(.int .u8 x93), (.int .u32 x94), (.int .u32 x95), (.int .u16 x96), (.int .u16 x97), (.int .u8 x98), (.int .i64 x99)]) ∧ 
    newC h (.cells #[(.int .u8 0), (.int .u32 0), (.int .u32 0), (.int .u16 0), (.int .u16 0), (.int .u8 0), (.int .i64 0)] 104 (0, 0)) fun a101 h100 => 
    HU Try.prog (Instr.storeAt 104 (.pointer (some a101)) (.agg #[(.int .u8 x93), (.int .u32 x94), (.int .u32 x95), (.int .u16 x96), (.int .u16 x97), (.int .u8 x98), (.int .i64 x99)])) h100 fun h102 => 
    ∃ x103 : Int, ∃ x104 : Int, ∃ x105 : Int, ∃ x106 : Int, ∃ x107 : Int, HV Try.prog (Instr.loadAt 36 (.pointer (some (a101.add 1)))) h102 (.agg #[(.int .u32 x103), (.int .u32 x104), (.int .u16 x105), (.int .u16 x106), (.int .u8 x107)]) ∧ 
    ∃ x108 : Int, HV Try.prog (Instr.loadAt 3 (.pointer (some (a101.add 6)))) h102 (.int .i64 x108) ∧ 
    HN Try.prog (callS v68 #[(.agg #[(.int .u32 x103), (.int .u32 x104), (.int .u16 x105), (.int .u16 x106), (.int .u8 x107)]), (.int .i64 x108)]) h102 fun r110 h109 =>
    ∃ b111 : Bool, r110 = (.bool b111) ∧ 
    br (!b111)
    (K0 h109)
    (hash_Table_All_1_l2 v68 A69 l69 c69 x70 K0 K1 k (IntKind.i64.wrap (x71 + 1)) h109))
    (K1 h)
def hash_Table_All_1_l2_L (Q : Qx) (k : Nat) (tm : Tm) (h : Hp) : Prop :=
  selV (tm 0) fun v68 =>
  selS (tm 29) fun A69 l69 c69 =>
  selI .i64 (tm 30) fun x70 =>
  selI .i64 (tm 31) fun x71 =>
  hash_Table_All_1_l2 v68 A69 l69 c69 x70 (fun  h => Q (.ret) (mkTm []) h) (fun  h => Q (.exit 2) (mkTm []) h) k x71 h
def hash_Table_All_1 (f1 : Fn) (f1r : Array Value) (f1c : Array Value) (a2 : Addr) (h : Hp) (K : Value → Hp → Prop) : Prop :=
  ∃ p3 : Option Addr, HV Try.prog (Instr.loadAt 22 (.pointer (some a2))) h (.pointer p3) ∧ 
  ∃ b4 : Bool, PV Try.prog (binOp .eql 22 (.pointer p3) (.pointer none)) (.bool b4) ∧
  br b4
  (K (.tuple #[]) h)
  (∃ p5 : Option Addr, HV Try.prog (Instr.loadAt 22 (.pointer (some a2))) h (.pointer p5) ∧ 
  drf p5 fun a6 =>
  ∃ A7 : Option Addr, ∃ l7 : Nat, ∃ c7 : Nat, HV Try.prog (Instr.loadAt 93 (.pointer (some (a6.add 1)))) h (.slice A7 l7 c7) ∧ 
  ∃ k115, hash_Table_All_1_l1 (.func f1 f1r f1c) A7 l7 c7 (l7 : Int)
  (fun (v63 : Value) (A64 : Option Addr) (l64 : Nat) (c64 : Nat) (h65 : Hp) =>
  CallsH Try.prog 47 #[(.slice A64 l64 c64), (.func (.func 48) #[] #[])] h65 fun r67 h66 =>
  r67 = (.tuple #[]) ∧ 
  ∃ k114, hash_Table_All_1_l2 v63 A64 l64 c64 (l64 : Int)
  (fun  (h112 : Hp) =>
  K (.tuple #[]) h112)
  (fun  (h113 : Hp) =>
  K (.tuple #[]) h113)
  k114 0 h66)
  k115 none 0 0 0 h)
def hash_Table_All_1_lp (i : Nat) (Q : Qx) (tm : Tm) (h : Hp) : Prop := match Nat.beq i 58 with
  | true => ∃ k, hash_Table_All_1_l1_L Q k tm h
  | false => match Nat.beq i 126 with
  | true => ∃ k, hash_Table_All_1_l2_L Q k tm h
  | false => False
def hash_Table_All_1_cut (i : Nat) : Option (List Nat) := none
set_option maxRecDepth 100000 in
theorem hash_Table_All_1_l1_step (Q : Qx) (k : Nat) (v8 : Value) (A9 : Option Addr) (l9 : Nat) (c9 : Nat) (A10 : Option Addr) (l10 : Nat) (c10 : Nat) (x11 : Int) (x12 : Int) (h : Hp) : hash_Table_All_1_l1_L Q (k + 1) (mkTm [(0, some v8), (3, some (.slice A9 l9 c9)), (13, some (.slice A10 l10 c10)), (14, some (.int .i64 x11)), (15, some (.int .i64 x12))]) h =
    codeWp Try.prog 43 hash_Table_All_1_lp hash_Table_All_1_cut (sub (bodyOf Try.f46) [true, true, false, true, false, false]) 116 (thenQ (fun tm h => hash_Table_All_1_l1_L Q k (mask [0, 3, 13, 14, 15] tm) h) (maskQ (fun e => match e with | .exit 0 => [0, 3] | _ => []) Q)) (mkTm [(0, some v8), (3, some (.slice A9 l9 c9)), (13, some (.slice A10 l10 c10)), (14, some (.int .i64 x11)), (15, some (.int .i64 x12))]) h := by kernel_rfl
theorem hash_Table_All_1_l1_mask (Q : Qx) (k : Nat) (tm : Tm) (h : Hp) : hash_Table_All_1_l1_L Q k tm h ↔ hash_Table_All_1_l1_L Q k (mask [0, 3, 13, 14, 15] tm) h := Iff.rfl
set_option maxRecDepth 100000 in
theorem hash_Table_All_1_l1_snd : SndAt Try.prog 43 none (sub (bodyOf Try.f46) [true, true, false, true, false]) (hash_Table_All_1_lp 58) := by
  refine loop_sound (lp := hash_Table_All_1_lp) (cut := hash_Table_All_1_cut) (i := 58) (c := (sub (bodyOf Try.f46) [true, true, false, true, false, false])) [0, 3, 13, 14, 15] (fun e => match e with | .exit 0 => [0, 3] | _ => []) hash_Table_All_1_l1_L ?_ ?_ ?_
  · exact good_by (c := (sub (bodyOf Try.f46) [true, true, false, true, false, false])) (i := 116) (l := []) (by kernel_rfl) (fun _ h => by cases h)
  · intro Q tm h H
    obtain ⟨v8, e0, H⟩ := selV_ex H
    obtain ⟨A9, l9, c9, e3, H⟩ := selS_ex H
    obtain ⟨A10, l10, c10, e13, H⟩ := selS_ex H
    obtain ⟨x11, e14, H⟩ := selI_ex H
    obtain ⟨x12, e15, H⟩ := selI_ex H
    exact H
  · intro Q k tm h H
    have H0 := H
    obtain ⟨v8, e0, H⟩ := selV_ex H
    obtain ⟨A9, l9, c9, e3, H⟩ := selS_ex H
    obtain ⟨A10, l10, c10, e13, H⟩ := selS_ex H
    obtain ⟨x11, e14, H⟩ := selI_ex H
    obtain ⟨x12, e15, H⟩ := selI_ex H
    have e : mask [0, 3, 13, 14, 15] tm = mkTm [(0, some v8), (3, some (.slice A9 l9 c9)), (13, some (.slice A10 l10 c10)), (14, some (.int .i64 x11)), (15, some (.int .i64 x12))] := by simp only [mask, List.map_cons, List.map_nil, e0, e3, e13, e14, e15] <;> rfl
    rw [e]
    refine Eq.mp (hash_Table_All_1_l1_step Q k v8 A9 l9 c9 A10 l10 c10 x11 x12 h) ?_
    rw [← e]
    exact (hash_Table_All_1_l1_mask Q (k + 1) tm h).mp H0
set_option maxRecDepth 100000 in
theorem hash_Table_All_1_l2_step (Q : Qx) (k : Nat) (v68 : Value) (A69 : Option Addr) (l69 : Nat) (c69 : Nat) (x70 : Int) (x71 : Int) (h : Hp) : hash_Table_All_1_l2_L Q (k + 1) (mkTm [(0, some v68), (29, some (.slice A69 l69 c69)), (30, some (.int .i64 x70)), (31, some (.int .i64 x71))]) h =
    codeWp Try.prog 43 hash_Table_All_1_lp hash_Table_All_1_cut (sub (bodyOf Try.f46) [true, true, true, true, true, false, false]) 252 (thenQ (fun tm h => hash_Table_All_1_l2_L Q k (mask [0, 29, 30, 31] tm) h) (maskQ (fun e => match e with | .ret => [] | .exit 2 => [] | _ => []) Q)) (mkTm [(0, some v68), (29, some (.slice A69 l69 c69)), (30, some (.int .i64 x70)), (31, some (.int .i64 x71))]) h := by kernel_rfl
theorem hash_Table_All_1_l2_mask (Q : Qx) (k : Nat) (tm : Tm) (h : Hp) : hash_Table_All_1_l2_L Q k tm h ↔ hash_Table_All_1_l2_L Q k (mask [0, 29, 30, 31] tm) h := Iff.rfl
set_option maxRecDepth 100000 in
theorem hash_Table_All_1_l2_snd : SndAt Try.prog 43 none (sub (bodyOf Try.f46) [true, true, true, true, true, false]) (hash_Table_All_1_lp 126) := by
  refine loop_sound (lp := hash_Table_All_1_lp) (cut := hash_Table_All_1_cut) (i := 126) (c := (sub (bodyOf Try.f46) [true, true, true, true, true, false, false])) [0, 29, 30, 31] (fun e => match e with | .ret => [] | .exit 2 => [] | _ => []) hash_Table_All_1_l2_L ?_ ?_ ?_
  · exact good_by (c := (sub (bodyOf Try.f46) [true, true, true, true, true, false, false])) (i := 252) (l := []) (by kernel_rfl) (fun _ h => by cases h)
  · intro Q tm h H
    obtain ⟨v68, e0, H⟩ := selV_ex H
    obtain ⟨A69, l69, c69, e29, H⟩ := selS_ex H
    obtain ⟨x70, e30, H⟩ := selI_ex H
    obtain ⟨x71, e31, H⟩ := selI_ex H
    exact H
  · intro Q k tm h H
    have H0 := H
    obtain ⟨v68, e0, H⟩ := selV_ex H
    obtain ⟨A69, l69, c69, e29, H⟩ := selS_ex H
    obtain ⟨x70, e30, H⟩ := selI_ex H
    obtain ⟨x71, e31, H⟩ := selI_ex H
    have e : mask [0, 29, 30, 31] tm = mkTm [(0, some v68), (29, some (.slice A69 l69 c69)), (30, some (.int .i64 x70)), (31, some (.int .i64 x71))] := by simp only [mask, List.map_cons, List.map_nil, e0, e29, e30, e31] <;> rfl
    rw [e]
    refine Eq.mp (hash_Table_All_1_l2_step Q k v68 A69 l69 c69 x70 x71 h) ?_
    rw [← e]
    exact (hash_Table_All_1_l2_mask Q (k + 1) tm h).mp H0
set_option maxRecDepth 100000 in
theorem hash_Table_All_1_eq (f1 : Fn) (f1r : Array Value) (f1c : Array Value) (a2 : Addr) (h : Hp) (K : Value → Hp → Prop) : hash_Table_All_1 f1 f1r f1c a2 h K =
    codeWp Try.prog 43 hash_Table_All_1_lp hash_Table_All_1_cut (bodyOf Try.f46) 1 (endQ Try.prog Try.f46.results.toList K) (argTm [(.func f1 f1r f1c), (.pointer (some a2))]) h := by kernel_rfl
set_option maxRecDepth 100000 in
theorem hash_Table_All_1_ok (f1 : Fn) (f1r : Array Value) (f1c : Array Value) (a2 : Addr) {h : Hp} {K : Value → Hp → Prop} (H : hash_Table_All_1 f1 f1r f1c a2 h K) : CallsH Try.prog 46 #[(.func f1 f1r f1c), (.pointer (some a2))] h K :=
  calls_of (args := [(.func f1 f1r f1c), (.pointer (some a2))]) (n := 43) (lp := hash_Table_All_1_lp) (cut := hash_Table_All_1_cut) Try.func46 (c := bodyOf Try.f46) (by kernel_rfl) (by kernel_rfl) (by kernel_rfl) (good_by (c := (bodyOf Try.f46)) (i := 1) (l := [(58, (sub (bodyOf Try.f46) [true, true, false, true, false])), (126, (sub (bodyOf Try.f46) [true, true, true, true, true, false]))]) (by kernel_rfl) (List.forall_mem_cons.2 ⟨hash_Table_All_1_l1_snd, (List.forall_mem_cons.2 ⟨hash_Table_All_1_l2_snd, (fun _ h => by cases h)⟩)⟩))
    (Eq.mp (hash_Table_All_1_eq f1 f1r f1c a2 h K) H)

/-! ### (*quintet/hash.Table[int]).All$1$1: function 48 -/
def hash_Table_All_1_1 (x1 : Int) (x2 : Int) (x3 : Int) (x4 : Int) (x5 : Int) (x6 : Int) (x7 : Int) (x8 : Int) (x9 : Int) (x10 : Int) (x11 : Int) (x12 : Int) (x13 : Int) (x14 : Int) (h : Hp) (K : Value → Hp → Prop) : Prop :=
  newC h (.cells #[(.int .u8 x1), (.int .u32 x2), (.int .u32 x3), (.int .u16 x4), (.int .u16 x5), (.int .u8 x6), (.int .i64 x7)] 104 (0, 0)) fun a16 h15 => 
  newC h15 (.cells #[(.int .u8 x8), (.int .u32 x9), (.int .u32 x10), (.int .u16 x11), (.int .u16 x12), (.int .u8 x13), (.int .i64 x14)] 104 (0, 0)) fun a18 h17 => 
  ∃ x19 : Int, ∃ x20 : Int, ∃ x21 : Int, ∃ x22 : Int, ∃ x23 : Int, HV Try.prog (Instr.loadAt 36 (.pointer (some (a16.add 1)))) h17 (.agg #[(.int .u32 x19), (.int .u32 x20), (.int .u16 x21), (.int .u16 x22), (.int .u8 x23)]) ∧ 
  ∃ x24 : Int, ∃ x25 : Int, ∃ x26 : Int, ∃ x27 : Int, ∃ x28 : Int, HV Try.prog (Instr.loadAt 36 (.pointer (some (a18.add 1)))) h17 (.agg #[(.int .u32 x24), (.int .u32 x25), (.int .u16 x26), (.int .u16 x27), (.int .u8 x28)]) ∧ 
  CallsH Try.prog 49 #[(.agg #[(.int .u32 x19), (.int .u32 x20), (.int .u16 x21), (.int .u16 x22), (.int .u8 x23)]), (.agg #[(.int .u32 x24), (.int .u32 x25), (.int .u16 x26), (.int .u16 x27), (.int .u8 x28)])] h17 fun r30 h29 =>
  ∃ x31 : Int, r30 = (.int .i64 x31) ∧ 
  K (.int .i64 x31) h29
def hash_Table_All_1_1_lp (i : Nat) (Q : Qx) (tm : Tm) (h : Hp) : Prop := False
def hash_Table_All_1_1_cut (i : Nat) : Option (List Nat) := none
set_option maxRecDepth 100000 in
theorem hash_Table_All_1_1_eq (x1 : Int) (x2 : Int) (x3 : Int) (x4 : Int) (x5 : Int) (x6 : Int) (x7 : Int) (x8 : Int) (x9 : Int) (x10 : Int) (x11 : Int) (x12 : Int) (x13 : Int) (x14 : Int) (h : Hp) (K : Value → Hp → Prop) : hash_Table_All_1_1 x1 x2 x3 x4 x5 x6 x7 x8 x9 x10 x11 x12 x13 x14 h K =
    codeWp Try.prog 10 hash_Table_All_1_1_lp hash_Table_All_1_1_cut (bodyOf Try.f48) 1 (endQ Try.prog Try.f48.results.toList K) (argTm [(.agg #[(.int .u8 x1), (.int .u32 x2), (.int .u32 x3), (.int .u16 x4), (.int .u16 x5), (.int .u8 x6), (.int .i64 x7)]), (.agg #[(.int .u8 x8), (.int .u32 x9), (.int .u32 x10), (.int .u16 x11), (.int .u16 x12), (.int .u8 x13), (.int .i64 x14)])]) h := by kernel_rfl
set_option maxRecDepth 100000 in
theorem hash_Table_All_1_1_ok (x1 : Int) (x2 : Int) (x3 : Int) (x4 : Int) (x5 : Int) (x6 : Int) (x7 : Int) (x8 : Int) (x9 : Int) (x10 : Int) (x11 : Int) (x12 : Int) (x13 : Int) (x14 : Int) {h : Hp} {K : Value → Hp → Prop} (H : hash_Table_All_1_1 x1 x2 x3 x4 x5 x6 x7 x8 x9 x10 x11 x12 x13 x14 h K) : CallsH Try.prog 48 #[(.agg #[(.int .u8 x1), (.int .u32 x2), (.int .u32 x3), (.int .u16 x4), (.int .u16 x5), (.int .u8 x6), (.int .i64 x7)]), (.agg #[(.int .u8 x8), (.int .u32 x9), (.int .u32 x10), (.int .u16 x11), (.int .u16 x12), (.int .u8 x13), (.int .i64 x14)])] h K :=
  calls_of (args := [(.agg #[(.int .u8 x1), (.int .u32 x2), (.int .u32 x3), (.int .u16 x4), (.int .u16 x5), (.int .u8 x6), (.int .i64 x7)]), (.agg #[(.int .u8 x8), (.int .u32 x9), (.int .u32 x10), (.int .u16 x11), (.int .u16 x12), (.int .u8 x13), (.int .i64 x14)])]) (n := 10) (lp := hash_Table_All_1_1_lp) (cut := hash_Table_All_1_1_cut) Try.func48 (c := bodyOf Try.f48) (by kernel_rfl) (by kernel_rfl) (by kernel_rfl) (good_by (c := (bodyOf Try.f48)) (i := 1) (l := []) (by kernel_rfl) (fun _ h => by cases h))
    (Eq.mp (hash_Table_All_1_1_eq x1 x2 x3 x4 x5 x6 x7 x8 x9 x10 x11 x12 x13 x14 h K) H)

/-! ### quintet/header.Compare: function 49 -/
def header_Compare (x1 : Int) (x2 : Int) (x3 : Int) (x4 : Int) (x5 : Int) (x6 : Int) (x7 : Int) (x8 : Int) (x9 : Int) (x10 : Int) (h : Hp) (K : Value → Hp → Prop) : Prop :=
  newC h (.cells #[(.int .u32 x1), (.int .u32 x2), (.int .u16 x3), (.int .u16 x4), (.int .u8 x5)] 36 (0, 0)) fun a12 h11 => 
  newC h11 (.cells #[(.int .u32 x6), (.int .u32 x7), (.int .u16 x8), (.int .u16 x9), (.int .u8 x10)] 36 (0, 0)) fun a14 h13 => 
  ∃ x15 : Int, HV Try.prog (Instr.loadAt 33 (.pointer (some a12))) h13 (.int .u32 x15) ∧ 
  ∃ x16 : Int, HV Try.prog (Instr.loadAt 33 (.pointer (some a14))) h13 (.int .u32 x16) ∧ 
  CallsH Try.prog 70 #[(.int .u32 x15), (.int .u32 x16)] h13 fun r18 h17 =>
  ∃ x19 : Int, r18 = (.int .i64 x19) ∧ 
  ∃ x20 : Int, HV Try.prog (Instr.loadAt 33 (.pointer (some (a12.add 1)))) h17 (.int .u32 x20) ∧ HV Try.prog (Instr.loadAt 33 (.pointer (some (a12.add 1)))) h13 (.int .u32 x20) ∧ 
  ∃ x21 : Int, HV Try.prog (Instr.loadAt 33 (.pointer (some (a14.add 1)))) h17 (.int .u32 x21) ∧ HV Try.prog (Instr.loadAt 33 (.pointer (some (a14.add 1)))) h13 (.int .u32 x21) ∧ 
  CallsH Try.prog 70 #[(.int .u32 x20), (.int .u32 x21)] h17 fun r23 h22 =>
  ∃ x24 : Int, r23 = (.int .i64 x24) ∧ 
  ∃ x25 : Int, HV Try.prog (Instr.loadAt 34 (.pointer (some (a12.add 2)))) h22 (.int .u16 x25) ∧ HV Try.prog (Instr.loadAt 34 (.pointer (some (a12.add 2)))) h17 (.int .u16 x25) ∧ HV Try.prog (Instr.loadAt 34 (.pointer (some (a12.add 2)))) h13 (.int .u16 x25) ∧ 
  ∃ x26 : Int, HV Try.prog (Instr.loadAt 34 (.pointer (some (a14.add 2)))) h22 (.int .u16 x26) ∧ HV Try.prog (Instr.loadAt 34 (.pointer (some (a14.add 2)))) h17 (.int .u16 x26) ∧ HV Try.prog (Instr.loadAt 34 (.pointer (some (a14.add 2)))) h13 (.int .u16 x26) ∧ 
  CallsH Try.prog 71 #[(.int .u16 x25), (.int .u16 x26)] h22 fun r28 h27 =>
  ∃ x29 : Int, r28 = (.int .i64 x29) ∧ 
  ∃ x30 : Int, HV Try.prog (Instr.loadAt 34 (.pointer (some (a12.add 3)))) h27 (.int .u16 x30) ∧ HV Try.prog (Instr.loadAt 34 (.pointer (some (a12.add 3)))) h22 (.int .u16 x30) ∧ HV Try.prog (Instr.loadAt 34 (.pointer (some (a12.add 3)))) h17 (.int .u16 x30) ∧ HV Try.prog (Instr.loadAt 34 (.pointer (some (a12.add 3)))) h13 (.int .u16 x30) ∧ 
  ∃ x31 : Int, HV Try.prog (Instr.loadAt 34 (.pointer (some (a14.add 3)))) h27 (.int .u16 x31) ∧ HV Try.prog (Instr.loadAt 34 (.pointer (some (a14.add 3)))) h22 (.int .u16 x31) ∧ HV Try.prog (Instr.loadAt 34 (.pointer (some (a14.add 3)))) h17 (.int .u16 x31) ∧ HV Try.prog (Instr.loadAt 34 (.pointer (some (a14.add 3)))) h13 (.int .u16 x31) ∧ 
  CallsH Try.prog 71 #[(.int .u16 x30), (.int .u16 x31)] h27 fun r33 h32 =>
  ∃ x34 : Int, r33 = (.int .i64 x34) ∧ 
  ∃ x35 : Int, HV Try.prog (Instr.loadAt 5 (.pointer (some (a12.add 4)))) h32 (.int .u8 x35) ∧ HV Try.prog (Instr.loadAt 5 (.pointer (some (a12.add 4)))) h27 (.int .u8 x35) ∧ HV Try.prog (Instr.loadAt 5 (.pointer (some (a12.add 4)))) h22 (.int .u8 x35) ∧ HV Try.prog (Instr.loadAt 5 (.pointer (some (a12.add 4)))) h17 (.int .u8 x35) ∧ HV Try.prog (Instr.loadAt 5 (.pointer (some (a12.add 4)))) h13 (.int .u8 x35) ∧ 
  ∃ x36 : Int, HV Try.prog (Instr.loadAt 5 (.pointer (some (a14.add 4)))) h32 (.int .u8 x36) ∧ HV Try.prog (Instr.loadAt 5 (.pointer (some (a14.add 4)))) h27 (.int .u8 x36) ∧ HV Try.prog (Instr.loadAt 5 (.pointer (some (a14.add 4)))) h22 (.int .u8 x36) ∧ HV Try.prog (Instr.loadAt 5 (.pointer (some (a14.add 4)))) h17 (.int .u8 x36) ∧ HV Try.prog (Instr.loadAt 5 (.pointer (some (a14.add 4)))) h13 (.int .u8 x36) ∧ 
  CallsH Try.prog 72 #[(.int .u8 x35), (.int .u8 x36)] h32 fun r38 h37 =>
  ∃ x39 : Int, r38 = (.int .i64 x39) ∧ 
  newC h37 (.cells #[(.int .i64 x19), (.int .i64 x24), (.int .i64 x29), (.int .i64 x34), (.int .i64 x39)] 3 (0, 0)) fun a41 h40 => 
  CallsH Try.prog 69 #[(.slice (some a41) 5 5)] h40 fun r43 h42 =>
  ∃ x44 : Int, r43 = (.int .i64 x44) ∧ 
  K (.int .i64 x44) h42
def header_Compare_lp (i : Nat) (Q : Qx) (tm : Tm) (h : Hp) : Prop := False
def header_Compare_cut (i : Nat) : Option (List Nat) := none
set_option maxRecDepth 100000 in
theorem header_Compare_eq (x1 : Int) (x2 : Int) (x3 : Int) (x4 : Int) (x5 : Int) (x6 : Int) (x7 : Int) (x8 : Int) (x9 : Int) (x10 : Int) (h : Hp) (K : Value → Hp → Prop) : header_Compare x1 x2 x3 x4 x5 x6 x7 x8 x9 x10 h K =
    codeWp Try.prog 32 header_Compare_lp header_Compare_cut (bodyOf Try.f49) 1 (endQ Try.prog Try.f49.results.toList K) (argTm [(.agg #[(.int .u32 x1), (.int .u32 x2), (.int .u16 x3), (.int .u16 x4), (.int .u8 x5)]), (.agg #[(.int .u32 x6), (.int .u32 x7), (.int .u16 x8), (.int .u16 x9), (.int .u8 x10)])]) h := by kernel_rfl
set_option maxRecDepth 100000 in
theorem header_Compare_ok (x1 : Int) (x2 : Int) (x3 : Int) (x4 : Int) (x5 : Int) (x6 : Int) (x7 : Int) (x8 : Int) (x9 : Int) (x10 : Int) {h : Hp} {K : Value → Hp → Prop} (H : header_Compare x1 x2 x3 x4 x5 x6 x7 x8 x9 x10 h K) : CallsH Try.prog 49 #[(.agg #[(.int .u32 x1), (.int .u32 x2), (.int .u16 x3), (.int .u16 x4), (.int .u8 x5)]), (.agg #[(.int .u32 x6), (.int .u32 x7), (.int .u16 x8), (.int .u16 x9), (.int .u8 x10)])] h K :=
  calls_of (args := [(.agg #[(.int .u32 x1), (.int .u32 x2), (.int .u16 x3), (.int .u16 x4), (.int .u8 x5)]), (.agg #[(.int .u32 x6), (.int .u32 x7), (.int .u16 x8), (.int .u16 x9), (.int .u8 x10)])]) (n := 32) (lp := header_Compare_lp) (cut := header_Compare_cut) Try.func49 (c := bodyOf Try.f49) (by kernel_rfl) (by kernel_rfl) (by kernel_rfl) (good_by (c := (bodyOf Try.f49)) (i := 1) (l := []) (by kernel_rfl) (fun _ h => by cases h))
    (Eq.mp (header_Compare_eq x1 x2 x3 x4 x5 x6 x7 x8 x9 x10 h K) H)

/-! ### quintet/quintetref06.Compare: function 66 -/
def quintetref06_Compare_l1 (A29 : Option Addr) (l29 : Nat) (c29 : Nat) (A30 : Option Addr) (l30 : Nat) (c30 : Nat) (K0 : Int → Hp → Prop) (K1 : Hp → Prop)  : Nat → Int → Hp → Prop
  | 0, _, _ => False
  | k + 1, x31, h =>
    br (decide (x31 < 5))
    (∃ a41 : Addr, PV Try.prog (Instr.indexAt 136 (.slice A29 l29 c29) (.int .i64 x31)) (.pointer (some a41)) ∧
    ∃ x42 : Int, HV Try.prog (Instr.loadAt 33 (.pointer (some a41))) h (.int .u32 x42) ∧ 
    ∃ a43 : Addr, PV Try.prog (Instr.indexAt 136 (.slice A30 l30 c30) (.int .i64 x31)) (.pointer (some a43)) ∧
    ∃ x44 : Int, HV Try.prog (Instr.loadAt 33 (.pointer (some a43))) h (.int .u32 x44) ∧ 
    br (decide (x42 < x44))
    (K0 (-1) h)
    (∃ a45 : Addr, PV Try.prog (Instr.indexAt 136 (.slice A29 l29 c29) (.int .i64 x31)) (.pointer (some a45)) ∧
    ∃ x46 : Int, HV Try.prog (Instr.loadAt 33 (.pointer (some a45))) h (.int .u32 x46) ∧ 
    ∃ a47 : Addr, PV Try.prog (Instr.indexAt 136 (.slice A30 l30 c30) (.int .i64 x31)) (.pointer (some a47)) ∧
    ∃ x48 : Int, HV Try.prog (Instr.loadAt 33 (.pointer (some a47))) h (.int .u32 x48) ∧ 
    br (decide (x46 > x48))
    (K0 1 h)
    (quintetref06_Compare_l1 A29 l29 c29 A30 l30 c30 K0 K1 k (IntKind.i64.wrap (x31 + 1)) h)))
    (K1 h)
def quintetref06_Compare_l1_L (Q : Qx) (k : Nat) (tm : Tm) (h : Hp) : Prop :=
  selS (tm 5) fun A29 l29 c29 =>
  selS (tm 6) fun A30 l30 c30 =>
  selI .i64 (tm 7) fun x31 =>
  quintetref06_Compare_l1 A29 l29 c29 A30 l30 c30 (fun (x40 : Int) h => Q (.ret) (mkTm [(4, some (.int .i64 x40))]) h) (fun  h => Q (.exit 0) (mkTm []) h) k x31 h
def quintetref06_Compare (x1 : Int) (x2 : Int) (x3 : Int) (x4 : Int) (x5 : Int) (x6 : Int) (x7 : Int) (x8 : Int) (x9 : Int) (x10 : Int) (h : Hp) (K : Value → Hp → Prop) : Prop :=
  newC h (.cells #[(.int .u32 x1), (.int .u32 x2), (.int .u16 x3), (.int .u16 x4), (.int .u8 x5)] 36 (0, 0)) fun a12 h11 => 
  newC h11 (.cells #[(.int .u32 x6), (.int .u32 x7), (.int .u16 x8), (.int .u16 x9), (.int .u8 x10)] 36 (0, 0)) fun a14 h13 => 
  ∃ x15 : Int, HV Try.prog (Instr.loadAt 33 (.pointer (some a12))) h13 (.int .u32 x15) ∧ 
  ∃ x16 : Int, HV Try.prog (Instr.loadAt 33 (.pointer (some (a12.add 1)))) h13 (.int .u32 x16) ∧ 
  ∃ x17 : Int, HV Try.prog (Instr.loadAt 34 (.pointer (some (a12.add 2)))) h13 (.int .u16 x17) ∧ 
  ∃ x18 : Int, HV Try.prog (Instr.loadAt 34 (.pointer (some (a12.add 3)))) h13 (.int .u16 x18) ∧ 
  ∃ x19 : Int, HV Try.prog (Instr.loadAt 5 (.pointer (some (a12.add 4)))) h13 (.int .u8 x19) ∧ 
  newC h13 (.cells #[(.int .u32 x15), (.int .u32 x16), (.int .u32 (IntKind.u32.wrap (x17))), (.int .u32 (IntKind.u32.wrap (x18))), (.int .u32 (IntKind.u32.wrap (x19)))] 33 (0, 0)) fun a21 h20 => 
  ∃ x22 : Int, HV Try.prog (Instr.loadAt 33 (.pointer (some a14))) h20 (.int .u32 x22) ∧ 
  ∃ x23 : Int, HV Try.prog (Instr.loadAt 33 (.pointer (some (a14.add 1)))) h20 (.int .u32 x23) ∧ 
  ∃ x24 : Int, HV Try.prog (Instr.loadAt 34 (.pointer (some (a14.add 2)))) h20 (.int .u16 x24) ∧ 
  ∃ x25 : Int, HV Try.prog (Instr.loadAt 34 (.pointer (some (a14.add 3)))) h20 (.int .u16 x25) ∧ 
  ∃ x26 : Int, HV Try.prog (Instr.loadAt 5 (.pointer (some (a14.add 4)))) h20 (.int .u8 x26) ∧ 
  newC h20 (.cells #[(.int .u32 x22), (.int .u32 x23), (.int .u32 (IntKind.u32.wrap (x24))), (.int .u32 (IntKind.u32.wrap (x25))), (.int .u32 (IntKind.u32.wrap (x26)))] 33 (0, 0)) fun a28 h27 => 
  ∃ k52, quintetref06_Compare_l1 (some a21) 5 5 (some a28) 5 5
  (fun (x49 : Int) (h50 : Hp) =>
  K (.int .i64 x49) h50)
  (fun  (h51 : Hp) =>
  K (.int .i64 0) h51)
  k52 0 h27
def quintetref06_Compare_lp (i : Nat) (Q : Qx) (tm : Tm) (h : Hp) : Prop := match Nat.beq i 122 with
  | true => ∃ k, quintetref06_Compare_l1_L Q k tm h
  | false => False
def quintetref06_Compare_cut (i : Nat) : Option (List Nat) := none
set_option maxRecDepth 100000 in
theorem quintetref06_Compare_l1_step (Q : Qx) (k : Nat) (A29 : Option Addr) (l29 : Nat) (c29 : Nat) (A30 : Option Addr) (l30 : Nat) (c30 : Nat) (x31 : Int) (h : Hp) : quintetref06_Compare_l1_L Q (k + 1) (mkTm [(5, some (.slice A29 l29 c29)), (6, some (.slice A30 l30 c30)), (7, some (.int .i64 x31))]) h =
    codeWp Try.prog 58 quintetref06_Compare_lp quintetref06_Compare_cut (sub (bodyOf Try.f66) [true, true, true, false, true, false, false]) 244 (thenQ (fun tm h => quintetref06_Compare_l1_L Q k (mask [5, 6, 7] tm) h) (maskQ (fun e => match e with | .ret => [4] | .exit 0 => [] | _ => []) Q)) (mkTm [(5, some (.slice A29 l29 c29)), (6, some (.slice A30 l30 c30)), (7, some (.int .i64 x31))]) h := by kernel_rfl
theorem quintetref06_Compare_l1_mask (Q : Qx) (k : Nat) (tm : Tm) (h : Hp) : quintetref06_Compare_l1_L Q k tm h ↔ quintetref06_Compare_l1_L Q k (mask [5, 6, 7] tm) h := Iff.rfl
set_option maxRecDepth 100000 in
theorem quintetref06_Compare_l1_snd : SndAt Try.prog 58 none (sub (bodyOf Try.f66) [true, true, true, false, true, false]) (quintetref06_Compare_lp 122) := by
  refine loop_sound (lp := quintetref06_Compare_lp) (cut := quintetref06_Compare_cut) (i := 122) (c := (sub (bodyOf Try.f66) [true, true, true, false, true, false, false])) [5, 6, 7] (fun e => match e with | .ret => [4] | .exit 0 => [] | _ => []) quintetref06_Compare_l1_L ?_ ?_ ?_
  · exact good_by (c := (sub (bodyOf Try.f66) [true, true, true, false, true, false, false])) (i := 244) (l := []) (by kernel_rfl) (fun _ h => by cases h)
  · intro Q tm h H
    obtain ⟨A29, l29, c29, e5, H⟩ := selS_ex H
    obtain ⟨A30, l30, c30, e6, H⟩ := selS_ex H
    obtain ⟨x31, e7, H⟩ := selI_ex H
    exact H
  · intro Q k tm h H
    have H0 := H
    obtain ⟨A29, l29, c29, e5, H⟩ := selS_ex H
    obtain ⟨A30, l30, c30, e6, H⟩ := selS_ex H
    obtain ⟨x31, e7, H⟩ := selI_ex H
    have e : mask [5, 6, 7] tm = mkTm [(5, some (.slice A29 l29 c29)), (6, some (.slice A30 l30 c30)), (7, some (.int .i64 x31))] := by simp only [mask, List.map_cons, List.map_nil, e5, e6, e7] <;> rfl
    rw [e]
    refine Eq.mp (quintetref06_Compare_l1_step Q k A29 l29 c29 A30 l30 c30 x31 h) ?_
    rw [← e]
    exact (quintetref06_Compare_l1_mask Q (k + 1) tm h).mp H0
set_option maxRecDepth 100000 in
theorem quintetref06_Compare_eq (x1 : Int) (x2 : Int) (x3 : Int) (x4 : Int) (x5 : Int) (x6 : Int) (x7 : Int) (x8 : Int) (x9 : Int) (x10 : Int) (h : Hp) (K : Value → Hp → Prop) : quintetref06_Compare x1 x2 x3 x4 x5 x6 x7 x8 x9 x10 h K =
    codeWp Try.prog 58 quintetref06_Compare_lp quintetref06_Compare_cut (bodyOf Try.f66) 1 (endQ Try.prog Try.f66.results.toList K) (argTm [(.agg #[(.int .u32 x1), (.int .u32 x2), (.int .u16 x3), (.int .u16 x4), (.int .u8 x5)]), (.agg #[(.int .u32 x6), (.int .u32 x7), (.int .u16 x8), (.int .u16 x9), (.int .u8 x10)])]) h := by kernel_rfl
set_option maxRecDepth 100000 in
theorem quintetref06_Compare_ok (x1 : Int) (x2 : Int) (x3 : Int) (x4 : Int) (x5 : Int) (x6 : Int) (x7 : Int) (x8 : Int) (x9 : Int) (x10 : Int) {h : Hp} {K : Value → Hp → Prop} (H : quintetref06_Compare x1 x2 x3 x4 x5 x6 x7 x8 x9 x10 h K) : CallsH Try.prog 66 #[(.agg #[(.int .u32 x1), (.int .u32 x2), (.int .u16 x3), (.int .u16 x4), (.int .u8 x5)]), (.agg #[(.int .u32 x6), (.int .u32 x7), (.int .u16 x8), (.int .u16 x9), (.int .u8 x10)])] h K :=
  calls_of (args := [(.agg #[(.int .u32 x1), (.int .u32 x2), (.int .u16 x3), (.int .u16 x4), (.int .u8 x5)]), (.agg #[(.int .u32 x6), (.int .u32 x7), (.int .u16 x8), (.int .u16 x9), (.int .u8 x10)])]) (n := 58) (lp := quintetref06_Compare_lp) (cut := quintetref06_Compare_cut) Try.func66 (c := bodyOf Try.f66) (by kernel_rfl) (by kernel_rfl) (by kernel_rfl) (good_by (c := (bodyOf Try.f66)) (i := 1) (l := [(122, (sub (bodyOf Try.f66) [true, true, true, false, true, false]))]) (by kernel_rfl) (List.forall_mem_cons.2 ⟨quintetref06_Compare_l1_snd, (fun _ h => by cases h)⟩))
    (Eq.mp (quintetref06_Compare_eq x1 x2 x3 x4 x5 x6 x7 x8 x9 x10 h K) H)

/-! ### cmp.Or[int]: function 69 -/
def cmp_Or_int_l1 (x2 : Int) (A3 : Option Addr) (l3 : Nat) (c3 : Nat) (x4 : Int) (K0 : Int → Hp → Prop) (K1 : Int → Hp → Prop)  : Nat → Int → Hp → Prop
  | 0, _, _ => False
  | k + 1, x5, h =>
    br (decide (x5 < x4))
    (∃ a10 : Addr, PV Try.prog (Instr.indexAt 146 (.slice A3 l3 c3) (.int .i64 x5)) (.pointer (some a10)) ∧
    ∃ x11 : Int, HV Try.prog (Instr.loadAt 3 (.pointer (some a10))) h (.int .i64 x11) ∧ 
    br (x11 != x2)
    (K0 x11 h)
    (cmp_Or_int_l1 x2 A3 l3 c3 x4 K0 K1 k (IntKind.i64.wrap (x5 + 1)) h))
    (K1 x2 h)
def cmp_Or_int_l1_L (Q : Qx) (k : Nat) (tm : Tm) (h : Hp) : Prop :=
  selI .i64 (tm 3) fun x2 =>
  selS (tm 6) fun A3 l3 c3 =>
  selI .i64 (tm 7) fun x4 =>
  selI .i64 (tm 8) fun x5 =>
  cmp_Or_int_l1 x2 A3 l3 c3 x4 (fun (x8 : Int) h => Q (.ret) (mkTm [(2, some (.int .i64 x8))]) h) (fun (x9 : Int) h => Q (.exit 0) (mkTm [(3, some (.int .i64 x9))]) h) k x5 h
def cmp_Or_int (A1 : Option Addr) (l1 : Nat) (c1 : Nat) (h : Hp) (K : Value → Hp → Prop) : Prop :=
  ∃ k16, cmp_Or_int_l1 0 A1 l1 c1 (l1 : Int)
  (fun (x12 : Int) (h13 : Hp) =>
  K (.int .i64 x12) h13)
  (fun (x14 : Int) (h15 : Hp) =>
  K (.int .i64 x14) h15)
  k16 0 h
def cmp_Or_int_lp (i : Nat) (Q : Qx) (tm : Tm) (h : Hp) : Prop := match Nat.beq i 58 with
  | true => ∃ k, cmp_Or_int_l1_L Q k tm h
  | false => False
def cmp_Or_int_cut (i : Nat) : Option (List Nat) := none
set_option maxRecDepth 100000 in
theorem cmp_Or_int_l1_step (Q : Qx) (k : Nat) (x2 : Int) (A3 : Option Addr) (l3 : Nat) (c3 : Nat) (x4 : Int) (x5 : Int) (h : Hp) : cmp_Or_int_l1_L Q (k + 1) (mkTm [(3, some (.int .i64 x2)), (6, some (.slice A3 l3 c3)), (7, some (.int .i64 x4)), (8, some (.int .i64 x5))]) h =
    codeWp Try.prog 18 cmp_Or_int_lp cmp_Or_int_cut (sub (bodyOf Try.f69) [true, true, false, true, false, false]) 116 (thenQ (fun tm h => cmp_Or_int_l1_L Q k (mask [3, 6, 7, 8] tm) h) (maskQ (fun e => match e with | .ret => [2] | .exit 0 => [3] | _ => []) Q)) (mkTm [(3, some (.int .i64 x2)), (6, some (.slice A3 l3 c3)), (7, some (.int .i64 x4)), (8, some (.int .i64 x5))]) h := by kernel_rfl
theorem cmp_Or_int_l1_mask (Q : Qx) (k : Nat) (tm : Tm) (h : Hp) : cmp_Or_int_l1_L Q k tm h ↔ cmp_Or_int_l1_L Q k (mask [3, 6, 7, 8] tm) h := Iff.rfl
set_option maxRecDepth 100000 in
theorem cmp_Or_int_l1_snd : SndAt Try.prog 18 none (sub (bodyOf Try.f69) [true, true, false, true, false]) (cmp_Or_int_lp 58) := by
  refine loop_sound (lp := cmp_Or_int_lp) (cut := cmp_Or_int_cut) (i := 58) (c := (sub (bodyOf Try.f69) [true, true, false, true, false, false])) [3, 6, 7, 8] (fun e => match e with | .ret => [2] | .exit 0 => [3] | _ => []) cmp_Or_int_l1_L ?_ ?_ ?_
  · exact good_by (c := (sub (bodyOf Try.f69) [true, true, false, true, false, false])) (i := 116) (l := []) (by kernel_rfl) (fun _ h => by cases h)
  · intro Q tm h H
    obtain ⟨x2, e3, H⟩ := selI_ex H
    obtain ⟨A3, l3, c3, e6, H⟩ := selS_ex H
    obtain ⟨x4, e7, H⟩ := selI_ex H
    obtain ⟨x5, e8, H⟩ := selI_ex H
    exact H
  · intro Q k tm h H
    have H0 := H
    obtain ⟨x2, e3, H⟩ := selI_ex H
    obtain ⟨A3, l3, c3, e6, H⟩ := selS_ex H
    obtain ⟨x4, e7, H⟩ := selI_ex H
    obtain ⟨x5, e8, H⟩ := selI_ex H
    have e : mask [3, 6, 7, 8] tm = mkTm [(3, some (.int .i64 x2)), (6, some (.slice A3 l3 c3)), (7, some (.int .i64 x4)), (8, some (.int .i64 x5))] := by simp only [mask, List.map_cons, List.map_nil, e3, e6, e7, e8] <;> rfl
    rw [e]
    refine Eq.mp (cmp_Or_int_l1_step Q k x2 A3 l3 c3 x4 x5 h) ?_
    rw [← e]
    exact (cmp_Or_int_l1_mask Q (k + 1) tm h).mp H0
set_option maxRecDepth 100000 in
theorem cmp_Or_int_eq (A1 : Option Addr) (l1 : Nat) (c1 : Nat) (h : Hp) (K : Value → Hp → Prop) : cmp_Or_int A1 l1 c1 h K =
    codeWp Try.prog 18 cmp_Or_int_lp cmp_Or_int_cut (bodyOf Try.f69) 1 (endQ Try.prog Try.f69.results.toList K) (argTm [(.slice A1 l1 c1)]) h := by kernel_rfl
set_option maxRecDepth 100000 in
theorem cmp_Or_int_ok (A1 : Option Addr) (l1 : Nat) (c1 : Nat) {h : Hp} {K : Value → Hp → Prop} (H : cmp_Or_int A1 l1 c1 h K) : CallsH Try.prog 69 #[(.slice A1 l1 c1)] h K :=
  calls_of (args := [(.slice A1 l1 c1)]) (n := 18) (lp := cmp_Or_int_lp) (cut := cmp_Or_int_cut) Try.func69 (c := bodyOf Try.f69) (by kernel_rfl) (by kernel_rfl) (by kernel_rfl) (good_by (c := (bodyOf Try.f69)) (i := 1) (l := [(58, (sub (bodyOf Try.f69) [true, true, false, true, false]))]) (by kernel_rfl) (List.forall_mem_cons.2 ⟨cmp_Or_int_l1_snd, (fun _ h => by cases h)⟩))
    (Eq.mp (cmp_Or_int_eq A1 l1 c1 h K) H)

/-! ### cmp.Compare[uint32]: function 70 -/
def cmp_Compare_uint32 (x1 : Int) (x2 : Int) (h : Hp) (K : Value → Hp → Prop) : Prop :=
  CallsH Try.prog 88 #[(.int .u32 x1)] h fun r4 h3 =>
  ∃ b5 : Bool, r4 = (.bool b5) ∧ 
  CallsH Try.prog 88 #[(.int .u32 x2)] h3 fun r7 h6 =>
  ∃ b8 : Bool, r7 = (.bool b8) ∧ 
  br b5
  (br b8
  (K (.int .i64 0) h6)
  (K (.int .i64 (-1)) h6))
  (br b8
  (K (.int .i64 1) h6)
  (br (decide (x1 < x2))
  (K (.int .i64 (-1)) h6)
  (br (decide (x1 > x2))
  (K (.int .i64 1) h6)
  (K (.int .i64 0) h6))))
def cmp_Compare_uint32_lp (i : Nat) (Q : Qx) (tm : Tm) (h : Hp) : Prop := False
def cmp_Compare_uint32_cut (i : Nat) : Option (List Nat) := none
set_option maxRecDepth 100000 in
theorem cmp_Compare_uint32_eq (x1 : Int) (x2 : Int) (h : Hp) (K : Value → Hp → Prop) : cmp_Compare_uint32 x1 x2 h K =
    codeWp Try.prog 20 cmp_Compare_uint32_lp cmp_Compare_uint32_cut (bodyOf Try.f70) 1 (endQ Try.prog Try.f70.results.toList K) (argTm [(.int .u32 x1), (.int .u32 x2)]) h := by kernel_rfl
set_option maxRecDepth 100000 in
theorem cmp_Compare_uint32_ok (x1 : Int) (x2 : Int) {h : Hp} {K : Value → Hp → Prop} (H : cmp_Compare_uint32 x1 x2 h K) : CallsH Try.prog 70 #[(.int .u32 x1), (.int .u32 x2)] h K :=
  calls_of (args := [(.int .u32 x1), (.int .u32 x2)]) (n := 20) (lp := cmp_Compare_uint32_lp) (cut := cmp_Compare_uint32_cut) Try.func70 (c := bodyOf Try.f70) (by kernel_rfl) (by kernel_rfl) (by kernel_rfl) (good_by (c := (bodyOf Try.f70)) (i := 1) (l := []) (by kernel_rfl) (fun _ h => by cases h))
    (Eq.mp (cmp_Compare_uint32_eq x1 x2 h K) H)

/-! ### cmp.Compare[uint16]: function 71 -/
def cmp_Compare_uint16 (x1 : Int) (x2 : Int) (h : Hp) (K : Value → Hp → Prop) : Prop :=
  CallsH Try.prog 89 #[(.int .u16 x1)] h fun r4 h3 =>
  ∃ b5 : Bool, r4 = (.bool b5) ∧ 
  CallsH Try.prog 89 #[(.int .u16 x2)] h3 fun r7 h6 =>
  ∃ b8 : Bool, r7 = (.bool b8) ∧ 
  br b5
  (br b8
  (K (.int .i64 0) h6)
  (K (.int .i64 (-1)) h6))
  (br b8
  (K (.int .i64 1) h6)
  (br (decide (x1 < x2))
  (K (.int .i64 (-1)) h6)
  (br (decide (x1 > x2))
  (K (.int .i64 1) h6)
  (K (.int .i64 0) h6))))
def cmp_Compare_uint16_lp (i : Nat) (Q : Qx) (tm : Tm) (h : Hp) : Prop := False
def cmp_Compare_uint16_cut (i : Nat) : Option (List Nat) := none
set_option maxRecDepth 100000 in
theorem cmp_Compare_uint16_eq (x1 : Int) (x2 : Int) (h : Hp) (K : Value → Hp → Prop) : cmp_Compare_uint16 x1 x2 h K =
    codeWp Try.prog 20 cmp_Compare_uint16_lp cmp_Compare_uint16_cut (bodyOf Try.f71) 1 (endQ Try.prog Try.f71.results.toList K) (argTm [(.int .u16 x1), (.int .u16 x2)]) h := by kernel_rfl
set_option maxRecDepth 100000 in
theorem cmp_Compare_uint16_ok (x1 : Int) (x2 : Int) {h : Hp} {K : Value → Hp → Prop} (H : cmp_Compare_uint16 x1 x2 h K) : CallsH Try.prog 71 #[(.int .u16 x1), (.int .u16 x2)] h K :=
  calls_of (args := [(.int .u16 x1), (.int .u16 x2)]) (n := 20) (lp := cmp_Compare_uint16_lp) (cut := cmp_Compare_uint16_cut) Try.func71 (c := bodyOf Try.f71) (by kernel_rfl) (by kernel_rfl) (by kernel_rfl) (good_by (c := (bodyOf Try.f71)) (i := 1) (l := []) (by kernel_rfl) (fun _ h => by cases h))
    (Eq.mp (cmp_Compare_uint16_eq x1 x2 h K) H)

/-! ### cmp.Compare[uint8]: function 72 -/
def cmp_Compare_uint8 (x1 : Int) (x2 : Int) (h : Hp) (K : Value → Hp → Prop) : Prop :=
  CallsH Try.prog 90 #[(.int .u8 x1)] h fun r4 h3 =>
  ∃ b5 : Bool, r4 = (.bool b5) ∧ 
  CallsH Try.prog 90 #[(.int .u8 x2)] h3 fun r7 h6 =>
  ∃ b8 : Bool, r7 = (.bool b8) ∧ 
  br b5
  (br b8
  (K (.int .i64 0) h6)
  (K (.int .i64 (-1)) h6))
  (br b8
  (K (.int .i64 1) h6)
  (br (decide (x1 < x2))
  (K (.int .i64 (-1)) h6)
  (br (decide (x1 > x2))
  (K (.int .i64 1) h6)
  (K (.int .i64 0) h6))))
def cmp_Compare_uint8_lp (i : Nat) (Q : Qx) (tm : Tm) (h : Hp) : Prop := False
def cmp_Compare_uint8_cut (i : Nat) : Option (List Nat) := none
set_option maxRecDepth 100000 in
theorem cmp_Compare_uint8_eq (x1 : Int) (x2 : Int) (h : Hp) (K : Value → Hp → Prop) : cmp_Compare_uint8 x1 x2 h K =
    codeWp Try.prog 20 cmp_Compare_uint8_lp cmp_Compare_uint8_cut (bodyOf Try.f72) 1 (endQ Try.prog Try.f72.results.toList K) (argTm [(.int .u8 x1), (.int .u8 x2)]) h := by kernel_rfl
set_option maxRecDepth 100000 in
theorem cmp_Compare_uint8_ok (x1 : Int) (x2 : Int) {h : Hp} {K : Value → Hp → Prop} (H : cmp_Compare_uint8 x1 x2 h K) : CallsH Try.prog 72 #[(.int .u8 x1), (.int .u8 x2)] h K :=
  calls_of (args := [(.int .u8 x1), (.int .u8 x2)]) (n := 20) (lp := cmp_Compare_uint8_lp) (cut := cmp_Compare_uint8_cut) Try.func72 (c := bodyOf Try.f72) (by kernel_rfl) (by kernel_rfl) (by kernel_rfl) (good_by (c := (bodyOf Try.f72)) (i := 1) (l := []) (by kernel_rfl) (fun _ h => by cases h))
    (Eq.mp (cmp_Compare_uint8_eq x1 x2 h K) H)

/-! ### cmp.isNaN[uint32]: function 88 -/
def cmp_isNaN_uint32 (x1 : Int) (h : Hp) (K : Value → Hp → Prop) : Prop :=
  K (.bool (x1 != x1)) h
def cmp_isNaN_uint32_lp (i : Nat) (Q : Qx) (tm : Tm) (h : Hp) : Prop := False
def cmp_isNaN_uint32_cut (i : Nat) : Option (List Nat) := none
set_option maxRecDepth 100000 in
theorem cmp_isNaN_uint32_eq (x1 : Int) (h : Hp) (K : Value → Hp → Prop) : cmp_isNaN_uint32 x1 h K =
    codeWp Try.prog 6 cmp_isNaN_uint32_lp cmp_isNaN_uint32_cut (bodyOf Try.f88) 1 (endQ Try.prog Try.f88.results.toList K) (argTm [(.int .u32 x1)]) h := by kernel_rfl
set_option maxRecDepth 100000 in
theorem cmp_isNaN_uint32_ok (x1 : Int) {h : Hp} {K : Value → Hp → Prop} (H : cmp_isNaN_uint32 x1 h K) : CallsH Try.prog 88 #[(.int .u32 x1)] h K :=
  calls_of (args := [(.int .u32 x1)]) (n := 6) (lp := cmp_isNaN_uint32_lp) (cut := cmp_isNaN_uint32_cut) Try.func88 (c := bodyOf Try.f88) (by kernel_rfl) (by kernel_rfl) (by kernel_rfl) (good_by (c := (bodyOf Try.f88)) (i := 1) (l := []) (by kernel_rfl) (fun _ h => by cases h))
    (Eq.mp (cmp_isNaN_uint32_eq x1 h K) H)

/-! ### cmp.isNaN[uint16]: function 89 -/
def cmp_isNaN_uint16 (x1 : Int) (h : Hp) (K : Value → Hp → Prop) : Prop :=
  K (.bool (x1 != x1)) h
def cmp_isNaN_uint16_lp (i : Nat) (Q : Qx) (tm : Tm) (h : Hp) : Prop := False
def cmp_isNaN_uint16_cut (i : Nat) : Option (List Nat) := none
set_option maxRecDepth 100000 in
theorem cmp_isNaN_uint16_eq (x1 : Int) (h : Hp) (K : Value → Hp → Prop) : cmp_isNaN_uint16 x1 h K =
    codeWp Try.prog 6 cmp_isNaN_uint16_lp cmp_isNaN_uint16_cut (bodyOf Try.f89) 1 (endQ Try.prog Try.f89.results.toList K) (argTm [(.int .u16 x1)]) h := by kernel_rfl
set_option maxRecDepth 100000 in
theorem cmp_isNaN_uint16_ok (x1 : Int) {h : Hp} {K : Value → Hp → Prop} (H : cmp_isNaN_uint16 x1 h K) : CallsH Try.prog 89 #[(.int .u16 x1)] h K :=
  calls_of (args := [(.int .u16 x1)]) (n := 6) (lp := cmp_isNaN_uint16_lp) (cut := cmp_isNaN_uint16_cut) Try.func89 (c := bodyOf Try.f89) (by kernel_rfl) (by kernel_rfl) (by kernel_rfl) (good_by (c := (bodyOf Try.f89)) (i := 1) (l := []) (by kernel_rfl) (fun _ h => by cases h))
    (Eq.mp (cmp_isNaN_uint16_eq x1 h K) H)

/-! ### cmp.isNaN[uint8]: function 90 -/
def cmp_isNaN_uint8 (x1 : Int) (h : Hp) (K : Value → Hp → Prop) : Prop :=
  K (.bool (x1 != x1)) h
def cmp_isNaN_uint8_lp (i : Nat) (Q : Qx) (tm : Tm) (h : Hp) : Prop := False
def cmp_isNaN_uint8_cut (i : Nat) : Option (List Nat) := none
set_option maxRecDepth 100000 in
theorem cmp_isNaN_uint8_eq (x1 : Int) (h : Hp) (K : Value → Hp → Prop) : cmp_isNaN_uint8 x1 h K =
    codeWp Try.prog 6 cmp_isNaN_uint8_lp cmp_isNaN_uint8_cut (bodyOf Try.f90) 1 (endQ Try.prog Try.f90.results.toList K) (argTm [(.int .u8 x1)]) h := by kernel_rfl
set_option maxRecDepth 100000 in
theorem cmp_isNaN_uint8_ok (x1 : Int) {h : Hp} {K : Value → Hp → Prop} (H : cmp_isNaN_uint8 x1 h K) : CallsH Try.prog 90 #[(.int .u8 x1)] h K :=
  calls_of (args := [(.int .u8 x1)]) (n := 6) (lp := cmp_isNaN_uint8_lp) (cut := cmp_isNaN_uint8_cut) Try.func90 (c := bodyOf Try.f90) (by kernel_rfl) (by kernel_rfl) (by kernel_rfl) (good_by (c := (bodyOf Try.f90)) (i := 1) (l := []) (by kernel_rfl) (fun _ h => by cases h))
    (Eq.mp (cmp_isNaN_uint8_eq x1 h K) H)

end Go.Proofs.Ytofjbbfnkefoaaa.Fs
