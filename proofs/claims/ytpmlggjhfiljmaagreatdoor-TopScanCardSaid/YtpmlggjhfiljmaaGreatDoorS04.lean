/- Part 4 of what the law rests on. -/
import GoSem.Conv.StringToRunes
import Derived.KernelRfl
import Derived.Laws.IdiomStrings
import Derived.Laws.RangeAny
import Derived.Deep.RegionHeld3
import Derived.Test.YtpmlggjhfiljmaaGreatDoorS03
set_option linter.all false
namespace Go.Proofs.YtpmlggjhfiljmaaGreatDoor
open Go.RowKit
def mkI:Nat→Int
  | 0=>768
  | 1=>769
  | 2=>770
  | 3=>771
  | 4=>772
  | 5=>774
  | 6=>775
  | 7=>776
  | 8=>778
  | 9=>779
  | 10=>780
  | 11=>807
  | 12=>808
  | _=>0
def lsS:Nat→ByteArray
  | 0=>⟨#[65,69,73,79,85,97,101,105,111,117]⟩
  | 1=>⟨#[65,69,73,79,85,89,97,101,105,111,117,121,67,99,76,108,78,110,82,114,83,115,90,122]⟩
  | 2=>⟨#[65,69,73,79,85,97,101,105,111,117,67,99,71,103,72,104,74,106,83,115,87,119,89,121]⟩
  | 3=>⟨#[65,78,79,97,110,111,73,105,85,117]⟩
  | 4=>⟨#[65,97,69,101,73,105,79,111,85,117]⟩
  | 5=>⟨#[65,97,69,101,71,103,73,105,79,111,85,117]⟩
  | 6=>⟨#[67,99,69,101,71,103,73,90,122]⟩
  | 7=>⟨#[65,69,73,79,85,97,101,105,111,117,121,89]⟩
  | 8=>⟨#[65,97,85,117]⟩
  | 9=>⟨#[79,111,85,117]⟩
  | 10=>⟨#[67,99,68,100,69,101,78,110,82,114,83,115,84,116,90,122]⟩
  | 11=>⟨#[67,99,71,103,75,107,76,108,78,110,82,114,83,115,84,116]⟩
  | 12=>⟨#[65,97,69,101,73,105,85,117]⟩
  | _=>ByteArray.empty
def msS:Nat→ByteArray
  | 0=>⟨#[195,128,195,136,195,140,195,146,195,153,195,160,195,168,195,172,195,178,195,185]⟩
  | 1=>⟨#[195,129,195,137,195,141,195,147,195,154,195,157,195,161,195,169,195,173,195,179,195,186,195,189,196,134,196,135,196,185,196,186,197,131,197,132,197,148,197,149,197,154,197,155,197,185,197,186]⟩
  | 2=>⟨#[195,130,195,138,195,142,195,148,195,155,195,162,195,170,195,174,195,180,195,187,196,136,196,137,196,156,196,157,196,164,196,165,196,180,196,181,197,156,197,157,197,180,197,181,197,182,197,183]⟩
  | 3=>⟨#[195,131,195,145,195,149,195,163,195,177,195,181,196,168,196,169,197,168,197,169]⟩
  | 4=>⟨#[196,128,196,129,196,146,196,147,196,170,196,171,197,140,197,141,197,170,197,171]⟩
  | 5=>⟨#[196,130,196,131,196,148,196,149,196,158,196,159,196,172,196,173,197,142,197,143,197,172,197,173]⟩
  | 6=>⟨#[196,138,196,139,196,150,196,151,196,160,196,161,196,176,197,187,197,188]⟩
  | 7=>⟨#[195,132,195,139,195,143,195,150,195,156,195,164,195,171,195,175,195,182,195,188,195,191,197,184]⟩
  | 8=>⟨#[195,133,195,165,197,174,197,175]⟩
  | 9=>⟨#[197,144,197,145,197,176,197,177]⟩
  | 10=>⟨#[196,140,196,141,196,142,196,143,196,154,196,155,197,135,197,136,197,152,197,153,197,160,197,161,197,164,197,165,197,189,197,190]⟩
  | 11=>⟨#[195,135,195,167,196,162,196,163,196,182,196,183,196,187,196,188,197,133,197,134,197,150,197,151,197,158,197,159,197,162,197,163]⟩
  | 12=>⟨#[196,132,196,133,196,152,196,153,196,174,196,175,197,178,197,179]⟩
  | _=>ByteArray.empty
def liI:Nat→List Int
  | 0=>[65,69,73,79,85,97,101,105,111,117]
  | 1=>[65,69,73,79,85,89,97,101,105,111,117,121,67,99,76,108,78,110,82,114,83,115,90,122]
  | 2=>[65,69,73,79,85,97,101,105,111,117,67,99,71,103,72,104,74,106,83,115,87,119,89,121]
  | 3=>[65,78,79,97,110,111,73,105,85,117]
  | 4=>[65,97,69,101,73,105,79,111,85,117]
  | 5=>[65,97,69,101,71,103,73,105,79,111,85,117]
  | 6=>[67,99,69,101,71,103,73,90,122]
  | 7=>[65,69,73,79,85,97,101,105,111,117,121,89]
  | 8=>[65,97,85,117]
  | 9=>[79,111,85,117]
  | 10=>[67,99,68,100,69,101,78,110,82,114,83,115,84,116,90,122]
  | 11=>[67,99,71,103,75,107,76,108,78,110,82,114,83,115,84,116]
  | 12=>[65,97,69,101,73,105,85,117]
  | _=>[]
def miI:Nat→List Int
  | 0=>[192,200,204,210,217,224,232,236,242,249]
  | 1=>[193,201,205,211,218,221,225,233,237,243,250,253,262,263,313,314,323,324,340,341,346,347,377,378]
  | 2=>[194,202,206,212,219,226,234,238,244,251,264,265,284,285,292,293,308,309,348,349,372,373,374,375]
  | 3=>[195,209,213,227,241,245,296,297,360,361]
  | 4=>[256,257,274,275,298,299,332,333,362,363]
  | 5=>[258,259,276,277,286,287,300,301,334,335,364,365]
  | 6=>[266,267,278,279,288,289,304,379,380]
  | 7=>[196,203,207,214,220,228,235,239,246,252,255,376]
  | 8=>[197,229,366,367]
  | 9=>[336,337,368,369]
  | 10=>[268,269,270,271,282,283,327,328,344,345,352,353,356,357,381,382]
  | 11=>[199,231,290,291,310,311,315,316,325,326,342,343,350,351,354,355]
  | 12=>[260,261,280,281,302,303,370,371]
  | _=>[]
theorem forK {p:Nat→Prop} (h:∀ k:Fin 13,p k.val) {k:Nat} (hk:k<13):p k:=h ⟨k,hk⟩
theorem ls_size {k:Nat} (h:k<13):(lsS k).size=(liI k).length∧(miI k).length=(liI k).length∧(liI k).length≤24∧(msS k).size≤48 :=
  forK (p:=fun k=>(lsS k).size=(liI k).length∧(miI k).length=(liI k).length∧(liI k).length≤24∧(msS k).size≤48) (by decide +kernel) h
theorem ls_dec {k:Nat} (h:k<13):∀ i:Nat,i<(liI k).length→Utf8.decode (lsS k) i=(((liI k).getD i 0).toNat,1)∧0≤(liI k).getD i 0 :=
  forK (p:=fun k=>∀ i:Nat,i<(liI k).length→Utf8.decode (lsS k) i=(((liI k).getD i 0).toNat,1)∧0≤(liI k).getD i 0) (by decide +kernel) h
theorem ms_runes_0:Conv.runesFrom (msS 0) (msS 0).size 0 #[]=((miI 0).map (Value.int .i32)).toArray:=by kernel_rfl
theorem ms_runes_1:Conv.runesFrom (msS 1) (msS 1).size 0 #[]=((miI 1).map (Value.int .i32)).toArray:=by kernel_rfl
theorem ms_runes_2:Conv.runesFrom (msS 2) (msS 2).size 0 #[]=((miI 2).map (Value.int .i32)).toArray:=by kernel_rfl
theorem ms_runes_3:Conv.runesFrom (msS 3) (msS 3).size 0 #[]=((miI 3).map (Value.int .i32)).toArray:=by kernel_rfl
theorem ms_runes_4:Conv.runesFrom (msS 4) (msS 4).size 0 #[]=((miI 4).map (Value.int .i32)).toArray:=by kernel_rfl
theorem ms_runes_5:Conv.runesFrom (msS 5) (msS 5).size 0 #[]=((miI 5).map (Value.int .i32)).toArray:=by kernel_rfl
theorem ms_runes_6:Conv.runesFrom (msS 6) (msS 6).size 0 #[]=((miI 6).map (Value.int .i32)).toArray:=by kernel_rfl
theorem ms_runes_7:Conv.runesFrom (msS 7) (msS 7).size 0 #[]=((miI 7).map (Value.int .i32)).toArray:=by kernel_rfl
theorem ms_runes_8:Conv.runesFrom (msS 8) (msS 8).size 0 #[]=((miI 8).map (Value.int .i32)).toArray:=by kernel_rfl
theorem ms_runes_9:Conv.runesFrom (msS 9) (msS 9).size 0 #[]=((miI 9).map (Value.int .i32)).toArray:=by kernel_rfl
theorem ms_runes_10:Conv.runesFrom (msS 10) (msS 10).size 0 #[]=((miI 10).map (Value.int .i32)).toArray:=by kernel_rfl
theorem ms_runes_11:Conv.runesFrom (msS 11) (msS 11).size 0 #[]=((miI 11).map (Value.int .i32)).toArray:=by kernel_rfl
theorem ms_runes_12:Conv.runesFrom (msS 12) (msS 12).size 0 #[]=((miI 12).map (Value.int .i32)).toArray:=by kernel_rfl
theorem ms_runes {k:Nat} (h:k<13):Conv.runesFrom (msS k) (msS k).size 0 #[]=((miI k).map (Value.int .i32)).toArray:=by
  match k,h with
  | 0,_=>exact ms_runes_0
  | 1,_=>exact ms_runes_1
  | 2,_=>exact ms_runes_2
  | 3,_=>exact ms_runes_3
  | 4,_=>exact ms_runes_4
  | 5,_=>exact ms_runes_5
  | 6,_=>exact ms_runes_6
  | 7,_=>exact ms_runes_7
  | 8,_=>exact ms_runes_8
  | 9,_=>exact ms_runes_9
  | 10,_=>exact ms_runes_10
  | 11,_=>exact ms_runes_11
  | 12,_=>exact ms_runes_12
theorem ls_runes_0:Conv.runesFrom (lsS 0) (lsS 0).size 0 #[]=((liI 0).map (Value.int .i32)).toArray:=by kernel_rfl
theorem ls_runes_1:Conv.runesFrom (lsS 1) (lsS 1).size 0 #[]=((liI 1).map (Value.int .i32)).toArray:=by kernel_rfl
theorem ls_runes_2:Conv.runesFrom (lsS 2) (lsS 2).size 0 #[]=((liI 2).map (Value.int .i32)).toArray:=by kernel_rfl
theorem ls_runes_3:Conv.runesFrom (lsS 3) (lsS 3).size 0 #[]=((liI 3).map (Value.int .i32)).toArray:=by kernel_rfl
theorem ls_runes_4:Conv.runesFrom (lsS 4) (lsS 4).size 0 #[]=((liI 4).map (Value.int .i32)).toArray:=by kernel_rfl
theorem ls_runes_5:Conv.runesFrom (lsS 5) (lsS 5).size 0 #[]=((liI 5).map (Value.int .i32)).toArray:=by kernel_rfl
theorem ls_runes_6:Conv.runesFrom (lsS 6) (lsS 6).size 0 #[]=((liI 6).map (Value.int .i32)).toArray:=by kernel_rfl
theorem ls_runes_7:Conv.runesFrom (lsS 7) (lsS 7).size 0 #[]=((liI 7).map (Value.int .i32)).toArray:=by kernel_rfl
theorem ls_runes_8:Conv.runesFrom (lsS 8) (lsS 8).size 0 #[]=((liI 8).map (Value.int .i32)).toArray:=by kernel_rfl
theorem ls_runes_9:Conv.runesFrom (lsS 9) (lsS 9).size 0 #[]=((liI 9).map (Value.int .i32)).toArray:=by kernel_rfl
theorem ls_runes_10:Conv.runesFrom (lsS 10) (lsS 10).size 0 #[]=((liI 10).map (Value.int .i32)).toArray:=by kernel_rfl
theorem ls_runes_11:Conv.runesFrom (lsS 11) (lsS 11).size 0 #[]=((liI 11).map (Value.int .i32)).toArray:=by kernel_rfl
theorem ls_runes_12:Conv.runesFrom (lsS 12) (lsS 12).size 0 #[]=((liI 12).map (Value.int .i32)).toArray:=by kernel_rfl
theorem ls_runes {k:Nat} (h:k<13):Conv.runesFrom (lsS k) (lsS k).size 0 #[]=((liI k).map (Value.int .i32)).toArray:=by
  match k,h with
  | 0,_=>exact ls_runes_0
  | 1,_=>exact ls_runes_1
  | 2,_=>exact ls_runes_2
  | 3,_=>exact ls_runes_3
  | 4,_=>exact ls_runes_4
  | 5,_=>exact ls_runes_5
  | 6,_=>exact ls_runes_6
  | 7,_=>exact ls_runes_7
  | 8,_=>exact ls_runes_8
  | 9,_=>exact ls_runes_9
  | 10,_=>exact ls_runes_10
  | 11,_=>exact ls_runes_11
  | 12,_=>exact ls_runes_12
def rowT (k:Nat):List (Int × Int × Int):=((liI k).zip (miI k)).map fun x=>(x.1,mkI k,x.2)
def uptoT (k:Nat):List (Int × Int × Int):=(List.range k).flatMap rowT
theorem uptoT_succ (k:Nat):uptoT (k+1)=uptoT k++rowT k:=by simp [uptoT,List.range_succ]
theorem uptoT_prefix {k n : Nat} (h:k≤n):∃ r,uptoT n=uptoT k++r:=by
  induction n with
  | zero => exact ⟨[], by obtain rfl:k=0:=by omega
                          simp⟩
  | succ n ih =>
    by_cases e:k=n+1
    · exact ⟨[],by subst e;simp⟩
    · obtain ⟨r,hr⟩:=ih (by omega)
      exact ⟨r++rowT n,by rw [uptoT_succ,hr,List.append_assoc]⟩
def T:List (Int × Int × Int):=uptoT 13
def isAB (a b:Int) (t:Int × Int × Int):Bool:=t.1 == a && t.2.1 == b
def isR (r:Int) (t:Int × Int × Int):Bool:=t.2.2 == r
def hanI (a b:Int):Option Int :=
  if 4352≤a∧a<4371∧4449≤b∧b<4470 then some (44032+(a - 4352) * 588+(b - 4449) * 28)
  else if 44032≤a∧a<55204∧(a - 44032) % 28=0∧4520≤b∧b<4547 then some (a+b - 4520+1) else none
def hanS (r:Int):Option (Int × Int) :=
  if 44032≤r∧r<55204 then
    if 0<(r - 44032) % 28 then some (r - (r - 44032) % 28,4520+(r - 44032) % 28 - 1)
    else some (4352+(r - 44032) / 588,4449+(r - 44032) % 588 / 28)
  else none
def pairI (a b:Int):Option Int:=match T.find? (isAB a b) with
  | some t=>some t.2.2
  | none=>hanI a b
def splitI (r:Int):Option (Int × Int):=match T.find? (isR r) with
  | some t=>some (t.1,t.2.1)
  | none=>hanS r
def clsI (r:Int):Int:=if (768≤r∧r≤772)∨(774≤r∧r≤776)∨(778≤r∧r≤780) then 230 else if r=807∨r=808 then 202 else 0
theorem T_facts:(T.all fun t=>T.find? (isR t.2.2) == some t && T.find? (isAB t.1 t.2.1) == some t && decide (0<t.2.2) && decide (t.2.2<4352) && decide (0≤t.1) && decide (t.1<128) && decide (768≤t.2.1) && decide (t.2.1<809) && decide (clsI t.2.2=0) && decide (clsI t.1=0) && decide (clsI t.2.1 ≠ 0) && decide (128≤t.2.2))=true:=by decide +kernel
theorem T_of {t:Int × Int × Int} (h:t ∈ T):T.find? (isR t.2.2)=some t∧T.find? (isAB t.1 t.2.1)=some t∧0<t.2.2∧t.2.2<4352∧0≤t.1∧t.1<128∧768≤t.2.1∧t.2.1<809∧clsI t.2.2=0∧clsI t.1=0∧clsI t.2.1 ≠ 0∧128≤t.2.2:=by
  have:=List.all_eq_true.1 T_facts t h
  simpa [and_assoc] using this
theorem find_row_none {k:Nat} {a b:Int} (h:mkI k ≠ b):(rowT k).find? (isAB a b)=none:=by
  rw [List.find?_eq_none]
  intro t ht
  simp only [rowT,List.mem_map] at ht
  obtain ⟨x,_,rfl⟩:=ht
  simp [isAB,h]
theorem find_zip {p:Int→Bool} {f:Int × Int→Int × Int × Int} (l m:List Int) (q:Int × Int × Int→Bool) (hq:∀ x,q (f x)=p x.1) :
    ∀ i,i<l.length→l.length=m.length→(∀ j,j<i→p (l.getD j 0)=false)→p (l.getD i 0)=true→((l.zip m).map f).find? q=some (f (l.getD i 0,m.getD i 0)):=by
  induction l generalizing m with
  | nil=>intro i hi;simp at hi
  | cons x l ih =>
    intro i hi hl hj hp
    cases m with
    | nil=>simp at hl
    | cons y m =>
      cases i with
      | zero=>simp at hp;simp [hq,hp]
      | succ i =>
        have h0:=hj 0 (by omega)
        simp at h0 hp hi hl
        simp only [List.zip_cons_cons,List.map_cons,List.find?_cons,hq,h0,List.getD_cons_succ]
        exact ih m i hi hl (fun j hj'=>by have:=hj (j+1) (by omega);simpa using this) (by simpa using hp)
theorem find_zip_none {p:Int→Bool} {f:Int × Int→Int × Int × Int} (l m:List Int) (q:Int × Int × Int→Bool) (hq:∀ x,q (f x)=p x.1)
    (hj:∀ j,j<l.length→p (l.getD j 0)=false):((l.zip m).map f).find? q=none:=by
  rw [List.find?_eq_none]
  intro t ht
  simp only [List.mem_map] at ht
  obtain ⟨x,hx,rfl⟩:=ht
  rw [hq]
  have:=List.of_mem_zip hx
  obtain ⟨i,hi,he⟩:=List.getElem_of_mem this.1
  have h2:=hj i hi
  rw [List.getD_eq_getElem?_getD,List.getElem?_eq_getElem hi,Option.getD_some,he] at h2
  simp [h2]
open Go.RowKit
def tabCells:List Value:=(List.range 13).flatMap fun k=>[.int .i32 (mkI k),.string (lsS k),.string (msS k)]
theorem tab_cells {k:Nat} (h:k<13):tabCells[k * 3]?=some (.int .i32 (mkI k))∧tabCells[k * 3+1]?=some (.string (lsS k))∧tabCells[k * 3+2]?=some (.string (msS k)):=by
  match k,h with
  | 0,_=>exact ⟨rfl,rfl,rfl⟩
  | 1,_=>exact ⟨rfl,rfl,rfl⟩
  | 2,_=>exact ⟨rfl,rfl,rfl⟩
  | 3,_=>exact ⟨rfl,rfl,rfl⟩
  | 4,_=>exact ⟨rfl,rfl,rfl⟩
  | 5,_=>exact ⟨rfl,rfl,rfl⟩
  | 6,_=>exact ⟨rfl,rfl,rfl⟩
  | 7,_=>exact ⟨rfl,rfl,rfl⟩
  | 8,_=>exact ⟨rfl,rfl,rfl⟩
  | 9,_=>exact ⟨rfl,rfl,rfl⟩
  | 10,_=>exact ⟨rfl,rfl,rfl⟩
  | 11,_=>exact ⟨rfl,rfl,rfl⟩
  | 12,_=>exact ⟨rfl,rfl,rfl⟩
set_option maxHeartbeats 800000 in
theorem lines_any (w:World) :
    Calls Tryz.prog 116 #[] w fun e w'=>e=.returned (.slice (some ⟨w.heap.size,0,none⟩) 13 13)∧Fresh w w'∧Blk w' w.heap.size 187 tabCells.toArray:=by
  go_enter Tryz.func116,Tryz.ntmps116
  go_wp2
  go_ret
  refine ⟨rfl,(Fresh.refl _).alloc _,?_⟩
  exact heap_alloc_new w _
set_option maxHeartbeats 400000 in
theorem class_any (r : Int) (w : World) : Calls Tryz.prog 25 #[.int .i32 r] w fun e w'=>e=.returned (.int .i64 (clsI r))∧w=w':=by
  by_cases e1:r=807
  · subst e1
    go_enter Tryz.func25,Tryz.ntmps25
    go_wp2
    go_ret
    exact ⟨rfl,rfl⟩
  by_cases e2:r=808
  · subst e2
    go_enter Tryz.func25,Tryz.ntmps25
    go_wp2
    go_ret
    exact ⟨rfl,rfl⟩
  have b1:(r == 807)=false:=by simp [e1]
  have b2:(r == 808)=false:=by simp [e2]
  have E1:=Lib.hid e1
  have E2:=Lib.hid e2
  clear e1 e2
  go_enter Tryz.func25,Tryz.ntmps25
  go_wp2
  all_goals (go_ret; exact ⟨ret_int (by have:=E1.out;have:=E2.out;unfold clsI;repeat' split
                                        all_goals omega),rfl⟩)
def openB (r:Int):Bool:=decide (44032≤r∧r<55204∧(r - 44032) % 28=0)
set_option maxHeartbeats 400000 in
theorem open_any (r:Int) (w:World):Calls Tryz.prog 170 #[.int .i32 r] w fun e w'=>e=.returned (.bool (openB r))∧w=w':=by
  by_cases h:44032≤r∧r<55204
  · obtain ⟨h1,h2⟩:=h
    by_cases h3:(r - 44032) % 28=0
    · have b:((r - 44032) % 28 == 0)=true:=by simp [h3]
      have H3:=Lib.hid h3
      clear h3
      go_enter Tryz.func170,Tryz.ntmps170
      go_wp2
      go_ret
      exact ⟨ret_bool (by symm;unfold openB;rw [decide_eq_true_iff];exact ⟨h1,h2,H3.out⟩),rfl⟩
    · have b:((r - 44032) % 28 == 0)=false:=by simp [h3]
      have H3:=Lib.hid h3
      clear h3
      go_enter Tryz.func170,Tryz.ntmps170
      go_wp2
      go_ret
      exact ⟨ret_bool (by symm;unfold openB;rw [decide_eq_false_iff_not];exact fun h=>H3.out h.2.2),rfl⟩
  · have H:=Lib.hid h
    by_cases h1:44032≤r
    · have h2:55204≤r:=by omega
      clear h
      go_enter Tryz.func170,Tryz.ntmps170
      go_wp2
      go_ret
      exact ⟨ret_bool (by symm;unfold openB;rw [decide_eq_false_iff_not];exact fun h=>H.out ⟨h.1,h.2.1⟩),rfl⟩
    · clear h
      go_enter Tryz.func170,Tryz.ntmps170
      go_wp2
      go_ret
      exact ⟨ret_bool (by symm;unfold openB;rw [decide_eq_false_iff_not];exact fun h=>H.out ⟨h.1,h.2.1⟩),rfl⟩
def OptI (o:Option Int) (e:Ending):Prop:=e=.returned (.tuple #[.int .i32 (o.getD 0),.bool o.isSome])
theorem OptI.yes {o:Option Int} {n:Int} (h:o=some n):OptI o (.returned (.tuple #[.int .i32 n,.bool true])):=by rw [h];rfl
theorem OptI.no {o:Option Int} (h:o=none):OptI o (.returned (.tuple #[.int .i32 0,.bool false])):=by rw [h];rfl
set_option maxHeartbeats 800000 in
theorem hangul_any (a b:Int) (w:World) (ha:-2147483648≤a∧a<2147483648) (hb:-2147483648≤b∧b<2147483648) :
    Calls Tryz.prog 117 #[.int .i32 a,.int .i32 b] w fun e w'=>OptI (hanI a b) e∧w=w':=by
  obtain ⟨a1,a2⟩:=ha
  obtain ⟨b1,b2⟩:=hb
  by_cases h:4352≤a∧a<4371∧4449≤b∧b<4470
  · have hz:hanI a b=some (44032+(a - 4352) * 588+(b - 4449) * 28):=by unfold hanI;rw [if_pos h]
    have HZ:=Lib.hid hz
    clear hz
    obtain ⟨h1,h2,h3,h4⟩:=h
    go_enter Tryz.func117,Tryz.ntmps117
    go_wp2
    go_ret2
    exact ⟨OptI.yes HZ.out,rfl⟩
  by_cases g:44032≤a∧a<55204∧(a - 44032) % 28=0∧4520≤b∧b<4547
  · have hz:hanI a b=some (a+b - 4520+1):=by unfold hanI;rw [if_neg h,if_pos g]
    have HZ:=Lib.hid hz
    have ho:openB a=true:=by unfold openB;simp;omega
    have HO:=Lib.hid ho
    obtain ⟨g1,g2,g3,g4,g5⟩:=g
    clear hz h ho g3
    go_enter Tryz.func117,Tryz.ntmps117
    go_wp2_with fail
    refine (open_any _ _).mono ?_
    rintro e w1 ⟨rfl,rfl⟩
    rw [HO.out]
    go_wp2
    go_ret2
    exact ⟨OptI.yes HZ.out,rfl⟩
  · have hz : hanI a b=none:=by unfold hanI;rw [if_neg h,if_neg g]
    have HZ:=Lib.hid hz
    clear hz
    cases ho:openB a with
    | true =>
      have hq:44032≤a∧a<55204∧(a - 44032) % 28=0:=by unfold openB at ho;simpa using ho
      have hn:b<4520∨4547≤b:=by omega
      have HO:=Lib.hid ho
      obtain ⟨q1,q2,q3⟩:=hq
      clear h g q3 ho
      rcases hn with hn | hn
      · go_enter Tryz.func117,Tryz.ntmps117
        go_wp2_with fail
        refine (open_any _ _).mono ?_
        rintro e w1 ⟨rfl,rfl⟩
        rw [HO.out]
        go_wp2
        go_ret2
        exact ⟨OptI.no HZ.out,rfl⟩
      · go_enter Tryz.func117,Tryz.ntmps117
        go_wp2_with fail
        refine (open_any _ _).mono ?_
        rintro e w1 ⟨rfl,rfl⟩
        rw [HO.out]
        go_wp2
        go_ret2
        exact ⟨OptI.no HZ.out,rfl⟩
    | false =>
      have HO:=Lib.hid ho
      clear ho g
      have H:=Lib.hid h
      by_cases c1:4352≤a
      · by_cases c2:a<4371
        · by_cases c3:4449≤b
          · have c4:4470≤b:=by omega
            clear h
            go_enter Tryz.func117,Tryz.ntmps117
            go_wp2_with fail
            refine (open_any _ _).mono ?_
            rintro e w1 ⟨rfl,rfl⟩
            rw [HO.out]
            go_wp2
            go_ret2
            exact ⟨OptI.no HZ.out,rfl⟩
          · clear h
            go_enter Tryz.func117,Tryz.ntmps117
            go_wp2_with fail
            refine (open_any _ _).mono ?_
            rintro e w1 ⟨rfl,rfl⟩
            rw [HO.out]
            go_wp2
            go_ret2
            exact ⟨OptI.no HZ.out,rfl⟩
        · clear h
          go_enter Tryz.func117,Tryz.ntmps117
          go_wp2_with fail
          refine (open_any _ _).mono ?_
          rintro e w1 ⟨rfl,rfl⟩
          rw [HO.out]
          go_wp2
          go_ret2
          exact ⟨OptI.no HZ.out,rfl⟩
      · clear h
        go_enter Tryz.func117,Tryz.ntmps117
        go_wp2_with fail
        refine (open_any _ _).mono ?_
        rintro e w1 ⟨rfl,rfl⟩
        rw [HO.out]
        go_wp2
        go_ret2
        exact ⟨OptI.no HZ.out,rfl⟩
open Go.RowKit
def IxPost (xs:List Int) (r:Int) (w:World) (e:Ending) (w':World):Prop:=∃ k,e=.returned (.int .i64 k)∧FirstAt xs r k∧Fresh w w'
def IxRel (xs:List Int) (r:Int) (w:World) (i:Value) (wr:World):Prop:=∃ k:Nat,i=.int .i64 k∧k≤xs.length∧(∀ j:Nat,j<k→xs.getD j 0 ≠ r)∧Fresh w wr
set_option maxHeartbeats 800000 in
theorem index_any (u:Value) (xs:List Int) (r:Int) (w:World) (hu:Sl w u xs) (hx:xs.length≤1000000) :
    Calls Tryz.prog 256 #[u,.int .i32 r] w (IxPost xs r w):=by
  obtain ⟨a,ca,rfl,hu⟩:=hu
  rcases hu with rfl | ⟨b1,o1,rfl,hb1,hc1⟩
  · go_enter Tryz.func256,Tryz.ntmps256
    go_wp2
    refine wp_loop_rounds 1 ?_
    rw [rounds_succ]
    go_wp2
    go_ret
    exact ⟨-1,rfl,.inr ⟨rfl,fun j hj=>absurd hj (Nat.not_lt_zero _)⟩,Fresh.refl _⟩
  have H1:=Lib.hid hc1
  clear hc1
  generalize hn:xs.length=n at hx H1
  have HN:=Lib.hid hn
  clear hn
  go_enter Tryz.func256,Tryz.ntmps256
  go_wp2
  go_loopw [8] (fun i wr=>IxRel xs r w i wr) (fun i _=>n - (intOf i).toNat)
  case atStart=>exact ⟨0,rfl,Nat.zero_le _,fun j hj=>absurd hj (Nat.not_lt_zero _),Fresh.refl _⟩
  case round =>
    obtain ⟨k,rfl,hk,he,hf⟩:=hrel
    have HE:=Lib.hid he
    clear he
    have hk':k≤n:=by have:=HN.out;omega
    clear hk
    by_cases hlt:k<n
    · have c1:wr.cell? ⟨b1,o1+k,none⟩=some (.int .i32 (xs.getD k 0)):=(Below.cell hf (p:=⟨b1,o1+k,none⟩) hb1).trans (H1.out k hlt)
      generalize hp:xs.getD k 0=p at c1
      have HP:=Lib.hid hp
      clear hp
      by_cases hpq:r=p
      · have HPQ:=Lib.hid hpq
        have hb:(r == p)=true:=by simp [hpq]
        clear hpq
        go_wp2
        go_ret
        exact ⟨k,rfl,.inl ⟨by omega,by have:=HN.out;omega,by rw [Int.toNat_natCast,HP.out,HPQ.out],fun j hj=>HE.out j (by omega)⟩,hf⟩
      · have HPQ:=Lib.hid hpq
        have hb:(r == p)=false:=by simp [hpq]
        clear hpq
        go_wp2
        refine ⟨⟨k+1,by rw [Int.natCast_add];rfl,by have:=HN.out;omega,fun j hj=>?_,hf⟩,by simp [intOf];omega⟩
        by_cases hjk:j=k
        · rw [hjk,HP.out];exact fun h=>HPQ.out h.symm
        · exact HE.out j (by omega)
    · have hkn:k=n:=by omega
      go_wp2
      go_ret
      exact ⟨-1,rfl,.inr ⟨rfl,fun j hj=>HE.out j (by have:=HN.out;omega)⟩,hf⟩
def runesWorld (w:World) (rs:List Int):World :=
  w.drew.alloc (.cells ((rs.map (Value.int .i32)).toArray++Array.replicate (grownCap w rs.length 0 21 - rs.length) (.int .i32 0)) 21)
theorem runes_run {s:ByteArray} {rs:List Int} (h:Conv.runesFrom s s.size 0 #[]=(rs.map (Value.int .i32)).toArray) (hl:rs.length≤1000000) (w:World) :
    (convert 9 50 (.string s)).run Tryz.prog w=.ok (.slice (some ⟨w.heap.size,0,none⟩) rs.length (grownCap w rs.length 0 21)) (runesWorld w rs):=by
  have hz:(Conv.runesFrom s s.size 0 #[]).size=rs.length:=by rw [h];simp
  have:=run_runes_of_string (P:=Tryz.prog) w 9 50 21 s Tryz.underlying9 Tryz.underlying50 Tryz.underlying21 (by rw [hz];omega)
  rw [hz,h] at this
  exact this
theorem runes_fresh (w:World) (rs:List Int):Fresh w (runesWorld w rs):=(Fresh.refl w).drew.alloc _
theorem runes_cell (w:World) (rs:List Int) (j:Nat) (hj:j<rs.length):(runesWorld w rs).cell? ⟨w.heap.size,j,none⟩=some (.int .i32 (rs.getD j 0)):=by
  unfold runesWorld
  have hs:w.drew.heap.size=w.heap.size:=rfl
  rw [World.cell?_alloc_at _ _ _ _ hs.symm,Array.getElem?_append_left (by simpa using hj)]
  simp [List.getD_eq_getElem?_getD,hj]
theorem runes_sl (w:World) (rs:List Int):Sl (runesWorld w rs) (.slice (some ⟨w.heap.size,0,none⟩) rs.length (grownCap w rs.length 0 21)) rs:=by
  refine ⟨_,_,rfl,.inr ⟨w.heap.size,0,rfl,?_,fun j hj=>?_⟩⟩
  · unfold runesWorld;simp
  · rw [show 0+j=j from by omega];exact runes_cell w rs j hj
open Go.RowKit
def PairRel (a b:Int) (w:World) (i:Value) (wr:World):Prop:=∃ k:Nat,i=.int .i64 k∧k≤13∧(uptoT k).find? (isAB a b)=none∧Fresh w wr
def InnerRel (li:List Int) (a:Int) (L:ByteArray) (W1 wr':World):Prop:=∃ i:Nat,i≤li.length∧wr'=W1.iter L i∧∀ j:Nat,j<i→li.getD j 0 ≠ a
def PairPost (a b:Int) (w:World) (e:Ending) (w':World):Prop:=OptI (pairI a b) e∧Fresh w w'
theorem hit_row {a b mk:Int} {li mi:List Int} (hmk:mk=b) (hl:li.length=mi.length) {i:Nat} (hi:i<li.length) (hno:∀ j:Nat,j<i→li.getD j 0 ≠ a) (hp:li.getD i 0=a) :
    ((li.zip mi).map fun x=>(x.1,mk,x.2)).find? (isAB a b)=some (li.getD i 0,mk,mi.getD i 0) :=
  find_zip (p:=(· == a)) (f:=fun x=>(x.1,mk,x.2)) li mi (isAB a b) (fun x=>by simp [isAB,hmk]) i hi hl (fun j hj=>by simpa using hno j hj) (by simpa using hp)
theorem miss_row {a b mk:Int} {li mi:List Int} (hmk:mk=b) (hno:∀ j:Nat,j<li.length→li.getD j 0 ≠ a) :
    ((li.zip mi).map fun x=>(x.1,mk,x.2)).find? (isAB a b)=none :=
  find_zip_none (p:=(· == a)) (f:=fun x=>(x.1,mk,x.2)) li mi (isAB a b) (fun x=>by simp [isAB,hmk]) (fun j hj=>by simpa using hno j hj)
theorem T_split {k:Nat} (h:k<13) {p:Int × Int × Int→Bool} {t:Int × Int × Int} (h1:(uptoT k).find? p=none) (h2:(rowT k).find? p=some t):T.find? p=some t:=by
  obtain ⟨r,hr⟩:=uptoT_prefix (show k+1≤13 by omega)
  unfold T
  rw [hr,uptoT_succ,List.find?_append,List.find?_append,h1,h2]
  rfl
theorem pair_hit {k:Nat} (h:k<13) {a b x m q q':Int} (h1:(uptoT k).find? (isAB a b)=none) (h2:(rowT k).find? (isAB a b)=some (x,m,q')) (hq:q'=q):pairI a b=some q:=by
  unfold pairI
  rw [T_split h h1 h2,hq]
set_option maxHeartbeats 1600000 in
theorem pair_any (a b:Int) (w:World) (ha:-2147483648≤a∧a<2147483648) (hb:-2147483648≤b∧b<2147483648) :
    Calls Tryz.prog 60 #[.int .i32 a,.int .i32 b] w (PairPost a b w):=by
  go_enter Tryz.func60,Tryz.ntmps60
  go_wp2_with fail
  refine (lines_any _).mono ?_
  rintro e w1 ⟨rfl,h1,hblk⟩
  go_wp2
  go_loopw [13] (fun i wr=>PairRel a b w1 i wr) (fun i _=>13 - (intOf i).toNat)
  case atStart=>exact ⟨0,rfl,by omega,rfl,Fresh.refl _⟩
  case round =>
    obtain ⟨k,rfl,hk,hfind,hf⟩:=hrel
    have HFI:=Lib.hid hfind
    clear hfind
    by_cases hlt:k<13
    · have hb2:=hblk.keep hf
      obtain ⟨t0,t1,t2⟩:=tab_cells hlt
      have c0:wr.cell? ⟨w.heap.size,k * 3,none⟩=some (.int .i32 (mkI k)):=by rw [hb2.cell];simpa using t0
      have c1:wr.cell? ⟨w.heap.size,k * 3+1,none⟩=some (.string (lsS k)):=by rw [hb2.cell];simpa using t1
      have c2:wr.cell? ⟨w.heap.size,k * 3+2,none⟩=some (.string (msS k)):=by rw [hb2.cell];simpa using t2
      clear t0 t1 t2
      by_cases hm:mkI k=b
      · have hm2:(mkI k != b)=false:=by simp [hm]
        have HM:=Lib.hid hm
        have hru:=runes_run (ms_runes hlt) (by have:=ls_size hlt;omega)
        clear hm
        obtain ⟨z1,z2,z3,z4⟩:=ls_size hlt
        have HD:=Lib.hid (ls_dec hlt)
        have HR:=Lib.hid (show rowT k=((liI k).zip (miI k)).map fun x=>(x.1,mkI k,x.2) from rfl)
        generalize hL:lsS k=L at c1 z1 HD
        generalize hM:msS k=M at c2 z4 hru
        generalize hmk:mkI k=mk at c0 hm2 HM HR
        generalize hli:liI k=li at z1 z2 z3 HD HR
        generalize hmi:miI k=mi at z2 HR hru
        have Z1:=Lib.hid z1
        have Z2:=Lib.hid z2
        clear hL hM hmk hli hmi z1 z2
        have hrc:(runesWorld (wr.alloc (.cells #[.int .i32 mk,.string L,.string M] 187)) mi).cell? ⟨wr.heap.size,1,none⟩=some (.string L) :=
          (Below.cell (runes_fresh (wr.alloc (.cells #[.int .i32 mk,.string L,.string M] 187)) mi) (p:=⟨wr.heap.size,1,none⟩) (by simp)).trans (by rw [World.cell?_alloc_at _ _ _ _ rfl];rfl)
        have HF1:Hid (Fresh wr (runesWorld (wr.alloc (.cells #[.int .i32 mk,.string L,.string M] 187)) mi)):=((Fresh.refl wr).alloc _).trans (runes_fresh _ _)
        have HC1:Hid (∀ j,j<mi.length→(runesWorld (wr.alloc (.cells #[.int .i32 mk,.string L,.string M] 187)) mi).cell? ⟨wr.heap.size+1,j,none⟩=some (.int .i32 (mi.getD j 0))):=fun j hj=>by
          have:=runes_cell (wr.alloc (.cells #[.int .i32 mk,.string L,.string M] 187)) mi j hj
          simpa using this
        have HS1:Hid (wr.heap.size+1<(runesWorld (wr.alloc (.cells #[.int .i32 mk,.string L,.string M] 187)) mi).heap.size):=by
          unfold runesWorld;simp [Hid]
        go_wp2
        generalize (runesWorld (wr.alloc (.cells #[.int .i32 mk,.string L,.string M] 187)) mi)=W1 at HF1 HC1 HS1
        clear hrc hru c0 c1 c2
        go_loopw [9] (fun _ wr'=>InnerRel li a L W1 wr') (fun _ wr'=>li.length - wr'.iterPos W1.heap.size)
        case atStart=>exact ⟨0,Nat.zero_le _,rfl,fun j hj=>absurd hj (Nat.not_lt_zero _)⟩
        case round =>
          obtain ⟨i,hi,rfl,he⟩:=hrel
          have HE:=Lib.hid he
          clear he
          by_cases hil:i<li.length
          · have hd:=HD.out i hil
            have hnx:∀ ty,(Instr.next (.pointer (some ⟨W1.heap.size,0,none⟩)) true ty).run Tryz.prog (W1.iter L i)=.ok (.tuple #[.bool true,.int .i64 i,.int .i32 (li.getD i 0)]) (W1.iter L (i+1)):=fun ty=>by
              have:=run_next_any (P:=Tryz.prog) W1 L i ty (by have:=Z1.out;omega)
              rw [hd.1] at this
              simp only at this
              rw [Int.toNat_of_nonneg hd.2] at this
              exact this
            have hmc:(W1.iter L (i+1)).cell? ⟨wr.heap.size+1,i,none⟩=some (.int .i32 (mi.getD i 0)) :=
              (World.cell?_alloc_lt W1 _ _ HS1.out).trans (HC1.out i (by have:=Z2.out;omega))
            clear hd
            generalize hp:li.getD i 0=p at hnx
            generalize hq:mi.getD i 0=q at hmc
            have HP:=Lib.hid hp
            have HQ:=Lib.hid hq
            clear hp hq
            by_cases hpa:p=a
            · have hb:(p == a)=true:=by simp [hpa]
              have HPA:=Lib.hid hpa
              clear hpa
              have him:i<mi.length:=by have:=Z2.out;omega
              go_wp2
              go_ret2
              refine ⟨OptI.yes (pair_hit hlt HFI.out (by rw [HR.out];exact hit_row HM.out (by have:=Z2.out;omega) hil HE.out (by rw [HP.out,HPA.out])) HQ.out),(h1.trans hf).trans (HF1.out.alloc _)⟩
            · have hb:(p == a)=false:=by simp [hpa]
              have HPA:=Lib.hid hpa
              clear hpa
              go_wp2
              refine ⟨⟨i+1,by omega,rfl,fun j hj=>?_⟩,by simp;omega⟩
              by_cases hji:j=i
              · rw [hji,HP.out];exact HPA.out
              · exact HE.out j (by omega)
          · have hnx:∀ ty,(Instr.next (.pointer (some ⟨W1.heap.size,0,none⟩)) true ty).run Tryz.prog (W1.iter L i)=.ok (.tuple #[.bool false]) (W1.iter L i):=fun ty=>run_next_end W1 L i ty (by have:=Z1.out;omega)
            go_wp2
            exact ⟨⟨k+1,by rw [Int.natCast_add];rfl,by omega,by rw [uptoT_succ,List.find?_append,HFI.out,HR.out,miss_row HM.out (fun j hj=>HE.out j (by omega))];rfl,hf.trans (HF1.out.alloc _)⟩,by simp [intOf];omega⟩
      · have hm2:(mkI k != b)=true:=by simp [hm]
        have HM:=Lib.hid hm
        clear hm
        generalize lsS k=L at c1
        generalize msS k=M at c2
        generalize hmk:mkI k=mk at c0 hm2
        clear hmk
        go_wp2
        exact ⟨⟨k+1,by rw [Int.natCast_add];rfl,by omega,by rw [uptoT_succ,List.find?_append,HFI.out,find_row_none HM.out];rfl,hf.alloc _⟩,by simp [intOf];omega⟩
    · have hk13:k=13:=by omega
      subst hk13
      go_wp2_with fail
      refine (hangul_any _ _ _ ha hb).mono ?_
      rintro e w3 ⟨he,rfl⟩
      have HT:=Lib.hid (show pairI a b=hanI a b by unfold pairI T;rw [HFI.out])
      unfold OptI at he
      subst he
      go_wp2
      go_ret2
      exact ⟨by rw [HT.out];rfl,h1.trans hf⟩
open Go.RowKit
def OptP (o:Option (Int × Int)) (e:Ending):Prop:=e=.returned (.tuple #[.int .i32 (o.getD (0,0)).1,.int .i32 (o.getD (0,0)).2,.bool o.isSome])
theorem OptP.yes {o:Option (Int × Int)} {n m:Int} (h:o=some (n,m)):OptP o (.returned (.tuple #[.int .i32 n,.int .i32 m,.bool true])):=by rw [h];rfl
theorem OptP.no {o:Option (Int × Int)} (h:o=none):OptP o (.returned (.tuple #[.int .i32 0,.int .i32 0,.bool false])):=by rw [h];rfl
def SplitRel (r:Int) (w:World) (i:Value) (wr:World):Prop:=∃ k:Nat,i=.int .i64 k∧k≤13∧(uptoT k).find? (isR r)=none∧Fresh w wr
def SplitPost (r:Int) (w:World) (e:Ending) (w':World):Prop:=OptP (splitI r) e∧Fresh w w'
theorem zip_swap (l m:List Int) (f:Int × Int→Int × Int × Int):(l.zip m).map f=(m.zip l).map (fun x=>f (x.2,x.1)):=by
  induction l generalizing m with
  | nil=>cases m <;> rfl
  | cons a l ih=>cases m with
    | nil=>rfl
    | cons b m=>simp only [List.zip_cons_cons,List.map_cons,ih]
theorem hit_rowR {r mk:Int} {li mi:List Int} (hl:mi.length=li.length) {i:Nat} (hi:i<mi.length) (hno:∀ j:Nat,j<i→mi.getD j 0 ≠ r) (hp:mi.getD i 0=r) :
    ((li.zip mi).map fun x=>(x.1,mk,x.2)).find? (isR r)=some (li.getD i 0,mk,mi.getD i 0):=by
  rw [zip_swap]
  exact find_zip (p:=(· == r)) (f:=fun x=>(x.2,mk,x.1)) mi li (isR r) (fun x=>by simp [isR]) i hi hl (fun j hj=>by simpa using hno j hj) (by simpa using hp)
theorem miss_rowR {r mk:Int} {li mi:List Int} (hno:∀ j:Nat,j<mi.length→mi.getD j 0 ≠ r) :
    ((li.zip mi).map fun x=>(x.1,mk,x.2)).find? (isR r)=none:=by
  rw [zip_swap]
  exact find_zip_none (p:=(· == r)) (f:=fun x=>(x.2,mk,x.1)) mi li (isR r) (fun x=>by simp [isR]) (fun j hj=>by simpa using hno j hj)
theorem split_hit {k:Nat} (h:k<13) {r x m q:Int} (h1:(uptoT k).find? (isR r)=none) (h2:(rowT k).find? (isR r)=some (x,m,q)):splitI r=some (x,m):=by
  unfold splitI
  rw [T_split h h1 h2]
set_option maxHeartbeats 1600000 in
theorem split_any (r:Int) (w:World) (hr:-2147483648≤r∧r<2147483648) :
    Calls Tryz.prog 171 #[.int .i32 r] w (SplitPost r w):=by
  obtain ⟨r1,r2⟩:=hr
  go_enter Tryz.func171,Tryz.ntmps171
  go_wp2_with fail
  refine (lines_any _).mono ?_
  rintro e w1 ⟨rfl,h1,hblk⟩
  go_wp2
  go_loopw [13] (fun i wr=>SplitRel r w1 i wr) (fun i _=>13 - (intOf i).toNat)
  case atStart=>exact ⟨0,rfl,by omega,rfl,Fresh.refl _⟩
  case round =>
    obtain ⟨k,rfl,hk,hfind,hf⟩:=hrel
    have HFI:=Lib.hid hfind
    clear hfind
    by_cases hlt:k<13
    · have hb2:=hblk.keep hf
      obtain ⟨t0,t1,t2⟩:=tab_cells hlt
      have c0:wr.cell? ⟨w.heap.size,k * 3,none⟩=some (.int .i32 (mkI k)):=by rw [hb2.cell];simpa using t0
      have c1:wr.cell? ⟨w.heap.size,k * 3+1,none⟩=some (.string (lsS k)):=by rw [hb2.cell];simpa using t1
      have c2:wr.cell? ⟨w.heap.size,k * 3+2,none⟩=some (.string (msS k)):=by rw [hb2.cell];simpa using t2
      clear t0 t1 t2
      have hru:=runes_run (ms_runes hlt) (by have:=ls_size hlt;omega)
      have hrl:=runes_run (ls_runes hlt) (by have:=ls_size hlt;omega)
      obtain ⟨z1,z2,z3,z4⟩:=ls_size hlt
      have HR:=Lib.hid (show rowT k=((liI k).zip (miI k)).map fun x=>(x.1,mkI k,x.2) from rfl)
      generalize hL:lsS k=L at c1 z1 hrl
      generalize hM:msS k=M at c2 z4 hru
      generalize hmk:mkI k=mk at c0 HR
      generalize hli:liI k=li at z1 z2 z3 HR hrl
      generalize hmi:miI k=mi at z2 HR hru
      have Z2:=Lib.hid z2
      have hmi3:mi.length≤24:=by omega
      clear hL hM hmk hli hmi z1 z2
      have hrc:(runesWorld (wr.alloc (.cells #[.int .i32 mk,.string L,.string M] 187)) li).cell? ⟨wr.heap.size,2,none⟩=some (.string M) :=
        (Below.cell (runes_fresh (wr.alloc (.cells #[.int .i32 mk,.string L,.string M] 187)) li) (p:=⟨wr.heap.size,2,none⟩) (by simp)).trans (by rw [World.cell?_alloc_at _ _ _ _ rfl];rfl)
      have hrc0:(runesWorld (wr.alloc (.cells #[.int .i32 mk,.string L,.string M] 187)) li).cell? ⟨wr.heap.size,0,none⟩=some (.int .i32 mk) :=
        (Below.cell (runes_fresh (wr.alloc (.cells #[.int .i32 mk,.string L,.string M] 187)) li) (p:=⟨wr.heap.size,0,none⟩) (by simp)).trans (by rw [World.cell?_alloc_at _ _ _ _ rfl];rfl)
      have HF1:Hid (Fresh wr (runesWorld (wr.alloc (.cells #[.int .i32 mk,.string L,.string M] 187)) li)):=((Fresh.refl wr).alloc _).trans (runes_fresh _ _)
      have HC1:Hid (∀ j,j<li.length→(runesWorld (wr.alloc (.cells #[.int .i32 mk,.string L,.string M] 187)) li).cell? ⟨wr.heap.size+1,j,none⟩=some (.int .i32 (li.getD j 0))):=fun j hj=>by
        have:=runes_cell (wr.alloc (.cells #[.int .i32 mk,.string L,.string M] 187)) li j hj
        simpa using this
      have HS1:Hid (wr.heap.size+1<(runesWorld (wr.alloc (.cells #[.int .i32 mk,.string L,.string M] 187)) li).heap.size):=by
        unfold runesWorld;simp [Hid]
      have HH:=Lib.hid hrc0
      clear hrc0
      go_wp2_with fail
      generalize (runesWorld (wr.alloc (.cells #[.int .i32 mk,.string L,.string M] 187)) li)=W1 at HF1 HC1 HS1 HH
      clear hrc hru hrl c0 c1 c2
      refine (index_any _ mi r _ (runes_sl W1 mi) (by omega)).mono ?_
      rintro e w2 ⟨i,rfl,hi,h2⟩
      have hf2:Fresh wr w2:=(HF1.out.trans (runes_fresh W1 mi)).trans h2
      rcases hi with ⟨i0,i1,i2,i3⟩ | ⟨rfl,i3⟩
      · obtain ⟨n,rfl⟩:=Int.eq_ofNat_of_zero_le i0
        have I2:=Lib.hid i2
        have I3:=Lib.hid i3
        clear i2 i3
        have hnl:n<li.length:=by have:=Z2.out;omega
        have d0:w2.cell? ⟨wr.heap.size,0,none⟩=some (.int .i32 mk):=(Below.cell ((runes_fresh W1 mi).trans h2) (p:=⟨wr.heap.size,0,none⟩) (by have:=HS1.out;simp only;omega)).trans HH.out
        have d1:w2.cell? ⟨wr.heap.size+1,n,none⟩=some (.int .i32 (li.getD n 0)):=(Below.cell ((runes_fresh W1 mi).trans h2) (p:=⟨wr.heap.size+1,n,none⟩) HS1.out).trans (HC1.out n hnl)
        generalize hq:li.getD n 0=q at d1
        have HQ:=Lib.hid hq
        clear hq
        have q8:(0:Int)≤(n:Int):=by omega
        have q9:(n:Int)<(li.length:Int):=by omega
        go_wp2
        go_quiet (fail)
        go_wp2
        go_ret3
        exact ⟨OptP.yes (by rw [← HQ.out];exact split_hit hlt HFI.out (by rw [HR.out];exact hit_rowR (by have:=Z2.out;omega) (by omega) (fun j hj=>I3.out j (by omega)) (by have:=I2.out;rwa [Int.toNat_natCast] at this))),((h1.trans hf).trans hf2).drewN _⟩
      · have I3:=Lib.hid i3
        clear i3
        go_wp2
        exact ⟨⟨k+1,by rw [Int.natCast_add];rfl,by omega,by rw [uptoT_succ,List.find?_append,HFI.out,HR.out,miss_rowR I3.out];rfl,hf.trans hf2⟩,by simp [intOf];omega⟩
    · have hk13:k=13:=by omega
      subst hk13
      have HT:=Lib.hid (show splitI r=hanS r by unfold splitI T;rw [HFI.out])
      by_cases a1:44032≤r∧r<55204
      · have e1:hanS r=if 0<(r - 44032) % 28 then some (r - (r - 44032) % 28,4520+(r - 44032) % 28 - 1) else some (4352+(r - 44032) / 588,4449+(r - 44032) % 588 / 28):=by unfold hanS;rw [if_pos a1]
        have E1:=Lib.hid e1
        obtain ⟨a1,a2⟩:=a1
        clear e1
        by_cases a3:0<(r - 44032) % 28
        · have E2:=Lib.hid (show splitI r=some (r - (r - 44032) % 28,4520+(r - 44032) % 28 - 1) by rw [HT.out,E1.out,if_pos a3])
          go_wp2
          go_ret3
          exact ⟨OptP.yes E2.out,h1.trans hf⟩
        · have E2:=Lib.hid (show splitI r=some (4352+(r - 44032) / 588,4449+(r - 44032) % 588 / 28) by rw [HT.out,E1.out,if_neg a3])
          go_wp2
          go_ret3
          exact ⟨OptP.yes E2.out,h1.trans hf⟩
      · have E2:=Lib.hid (show splitI r=none by rw [HT.out];unfold hanS;rw [if_neg a1])
        by_cases a2:r<44032
        · clear a1
          go_wp2
          go_ret3
          exact ⟨OptP.no E2.out,h1.trans hf⟩
        · have a3:55204≤r:=by omega
          clear a1
          go_wp2
          go_ret3
          exact ⟨OptP.no E2.out,h1.trans hf⟩
end Go.Proofs.YtpmlggjhfiljmaaGreatDoor
