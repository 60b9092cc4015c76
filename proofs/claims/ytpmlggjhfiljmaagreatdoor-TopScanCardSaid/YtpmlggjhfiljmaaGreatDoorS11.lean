/- Part 11 of what the law rests on. -/
import Derived.Laws.RangeAny
import Derived.Deep.RegionHeld3
import Derived.Deep.QuietTactic
import Derived.BigQuiet
import Derived.Test.YtpmlggjhfiljmaaGreatDoorS03
set_option linter.all false
namespace Go.Proofs.YtpmlggjhfiljmaaGreatDoor
open Go.RowKit
def L2S:ByteArray:=⟨#[194,160,196,132,203,152,197,129,194,164,196,189,197,154,194,167,194,168,197,160,197,158,197,164,197,185,194,173,197,189,197,187,194,176,196,133,203,155,197,130,194,180,196,190,197,155,203,135,194,184,197,161,197,159,197,165,197,186,203,157,197,190,197,188,197,148,195,129,195,130,196,130,195,132,196,185,196,134,195,135,196,140,195,137,196,152,195,139,196,154,195,141,195,142,196,142,196,144,197,131,197,135,195,147,195,148,197,144,195,150,195,151,197,152,197,174,195,154,197,176,195,156,195,157,197,162,195,159,197,149,195,161,195,162,196,131,195,164,196,186,196,135,195,167,196,141,195,169,196,153,195,171,196,155,195,173,195,174,196,143,196,145,197,132,197,136,195,179,195,180,197,145,195,182,195,183,197,153,197,175,195,186,197,177,195,188,195,189,197,163,203,153]⟩
def L2I:List Int:=[160,260,728,321,164,317,346,167,168,352,350,356,377,173,381,379,176,261,731,322,180,318,347,711,184,353,351,357,378,733,382,380,340,193,194,258,196,313,262,199,268,201,280,203,282,205,206,270,272,323,327,211,212,336,214,215,344,366,218,368,220,221,354,223,341,225,226,259,228,314,263,231,269,233,281,235,283,237,238,271,273,324,328,243,244,337,246,247,345,367,250,369,252,253,355,729]
def C4S:ByteArray:=⟨#[195,135,195,188,195,169,195,162,195,164,195,160,195,165,195,167,195,170,195,171,195,168,195,175,195,174,195,172,195,132,195,133,195,137,195,166,195,134,195,180,195,182,195,178,195,187,195,185,195,191,195,150,195,156,194,162,194,163,194,165,226,130,167,198,146,195,161,195,173,195,179,195,186,195,177,195,145,194,170,194,186,194,191,226,140,144,194,172,194,189,194,188,194,161,194,171,194,187,226,150,145,226,150,146,226,150,147,226,148,130,226,148,164,226,149,161,226,149,162,226,149,150,226,149,149,226,149,163,226,149,145,226,149,151,226,149,157,226,149,156,226,149,155,226,148,144,226,148,148,226,148,180,226,148,172,226,148,156,226,148,128,226,148,188,226,149,158,226,149,159,226,149,154,226,149,148,226,149,169,226,149,166,226,149,160,226,149,144,226,149,172,226,149,167,226,149,168,226,149,164,226,149,165,226,149,153,226,149,152,226,149,146,226,149,147,226,149,171,226,149,170,226,148,152,226,148,140,226,150,136,226,150,132,226,150,140,226,150,144,226,150,128,206,177,195,159,206,147,207,128,206,163,207,131,194,181,207,132,206,166,206,152,206,169,206,180,226,136,158,207,134,206,181,226,136,169,226,137,161,194,177,226,137,165,226,137,164,226,140,160,226,140,161,195,183,226,137,136,194,176,226,136,153,194,183,226,136,154,226,129,191,194,178,226,150,160,194,160]⟩
def C4I:List Int:=[199,252,233,226,228,224,229,231,234,235,232,239,238,236,196,197,201,230,198,244,246,242,251,249,255,214,220,162,163,165,8359,402,225,237,243,250,241,209,170,186,191,8976,172,189,188,161,171,187,9617,9618,9619,9474,9508,9569,9570,9558,9557,9571,9553,9559,9565,9564,9563,9488,9492,9524,9516,9500,9472,9532,9566,9567,9562,9556,9577,9574,9568,9552,9580,9575,9576,9572,9573,9561,9560,9554,9555,9579,9578,9496,9484,9608,9604,9612,9616,9600,945,223,915,960,931,963,181,964,934,920,937,948,8734,966,949,8745,8801,177,8805,8804,8992,8993,247,8776,176,8729,183,8730,8319,178,9632,160]
def C8S:ByteArray:=⟨#[195,135,195,188,195,169,195,162,195,164,195,160,195,165,195,167,195,170,195,171,195,168,195,175,195,174,195,172,195,132,195,133,195,137,195,166,195,134,195,180,195,182,195,178,195,187,195,185,195,191,195,150,195,156,195,184,194,163,195,152,195,151,198,146,195,161,195,173,195,179,195,186,195,177,195,145,194,170,194,186,194,191,194,174,194,172,194,189,194,188,194,161,194,171,194,187,226,150,145,226,150,146,226,150,147,226,148,130,226,148,164,195,129,195,130,195,128,194,169,226,149,163,226,149,145,226,149,151,226,149,157,194,162,194,165,226,148,144,226,148,148,226,148,180,226,148,172,226,148,156,226,148,128,226,148,188,195,163,195,131,226,149,154,226,149,148,226,149,169,226,149,166,226,149,160,226,149,144,226,149,172,194,164,195,176,195,144,195,138,195,139,195,136,196,177,195,141,195,142,195,143,226,148,152,226,148,140,226,150,136,226,150,132,194,166,195,140,226,150,128,195,147,195,159,195,148,195,146,195,181,195,149,194,181,195,190,195,158,195,154,195,155,195,153,195,189,195,157,194,175,194,180,194,173,194,177,226,128,151,194,190,194,182,194,167,195,183,194,184,194,176,194,168,194,183,194,185,194,179,194,178,226,150,160,194,160]⟩
def C8I:List Int:=[199,252,233,226,228,224,229,231,234,235,232,239,238,236,196,197,201,230,198,244,246,242,251,249,255,214,220,248,163,216,215,402,225,237,243,250,241,209,170,186,191,174,172,189,188,161,171,187,9617,9618,9619,9474,9508,193,194,192,169,9571,9553,9559,9565,162,165,9488,9492,9524,9516,9500,9472,9532,227,195,9562,9556,9577,9574,9568,9552,9580,164,240,208,202,203,200,305,205,206,207,9496,9484,9608,9604,166,204,9600,211,223,212,210,245,213,181,254,222,218,219,217,253,221,175,180,173,177,8215,190,182,167,247,184,176,168,183,185,179,178,9632,160]
def rowS (enc:Int):ByteArray:=if enc=2 then L2S else if enc=4 then C4S else if enc=5 then C8S else ByteArray.empty
def rowI (enc:Int):List Int:=if enc=2 then L2I else if enc=4 then C4I else if enc=5 then C8I else []
def fromI (enc:Int):Int:=if enc=2 then 160 else if enc=4 then 128 else if enc=5 then 128 else 0
def euB:List Int:=[164,166,168,180,184,188,189,190]
def euR:List Int:=[8364,352,353,381,382,338,339,376]
def euI:List Int→List Int→Int→Int
  | x :: l,r :: m,b=>if x=b then r else euI l m b
  | _,_,b=>b
def oneI (enc b:Int):Int :=
  if b<128∨enc=1 then b
  else if enc=2 then (if b<160 then b else L2I.getD (b - 160).toNat (-1))
  else if enc=3 then euI euB euR b
  else if enc=4 then C4I.getD (b - 128).toNat (-1)
  else if enc=5 then C8I.getD (b - 128).toNat (-1)
  else if enc=6 then (if 161≤b∧b≤223 then 65377+b - 161 else -1)
  else -1
def RT:List (Int × Int × Int × Int):=[(130,79,88,65296),(130,96,121,65313),(130,129,154,65345),(130,159,241,12353),(131,64,126,12449),(131,128,150,12512),(131,159,175,913),(131,176,182,931),(131,191,207,945),(131,208,214,963),(132,64,69,1040),(132,70,70,1025),(132,71,96,1046),(132,112,117,1072),(132,118,118,1105),(132,119,126,1078),(132,128,145,1086)]
def chain:List (Int × Int × Int × Int)→Int→Int→Int
  | [],_,_=>-1
  | x :: l,a,b=>if x.1=a∧x.2.1≤b∧b≤x.2.2.1 then x.2.2.2+(b - x.2.1) else chain l a b
def twoI (a b:Int):Int:=chain RT a b
def echain:List (Int × Int × Int × Int)→Int→Option (Int × Int)
  | [],_=>none
  | x :: l,r=>if 0≤r - x.2.2.2∧r - x.2.2.2≤x.2.2.1 - x.2.1 then some (x.1,x.2.1+(r - x.2.2.2)) else echain l r
def pairK (r:Int):Option (Int × Int):=echain RT r
theorem decode_w (s:ByteArray) (p:Nat) (h:p<s.size):1≤(Utf8.decode s p).2:=by
  by_cases ha:(s[p]'h).toNat<128
  · rw [decode_ascii s p h ha];exact Nat.le_refl _
  · exact (decode_high s p h (by omega)).2
def decR (s:ByteArray):Nat→Nat→List Int
  | 0,_=>[]
  | f+1,p=>if p<s.size then ((Utf8.decode s p).1:Int) :: decR s f (p+(Utf8.decode s p).2) else []
theorem L2_dec:decR L2S L2S.size 0=L2I:=by decide +kernel
theorem C4_dec:decR C4S C4S.size 0=C4I:=by decide +kernel
theorem C8_dec:decR C8S C8S.size 0=C8I:=by decide +kernel
theorem row_dec (enc:Int):decR (rowS enc) (rowS enc).size 0=rowI enc:=by
  unfold rowS rowI
  split
  · exact L2_dec
  split
  · exact C4_dec
  split
  · exact C8_dec
  · rfl
theorem L2_facts:(L2I.all fun x=>decide (160≤x∧x<65536))=true:=by decide +kernel
theorem C4_facts:(C4I.all fun x=>decide (160≤x∧x<65536))=true:=by decide +kernel
theorem C8_facts:(C8I.all fun x=>decide (160≤x∧x<65536))=true:=by decide +kernel
theorem row_range (enc:Int):∀ x ∈ rowI enc,160≤x∧x<65536:=by
  intro x hx
  unfold rowI at hx
  split at hx
  · have:=List.all_eq_true.1 L2_facts x hx;simpa using this
  split at hx
  · have:=List.all_eq_true.1 C4_facts x hx;simpa using this
  split at hx
  · have:=List.all_eq_true.1 C8_facts x hx;simpa using this
  · simp at hx
theorem row_len (enc:Int):(rowI enc).length=if enc=2 then 96 else if enc=4 then 128 else if enc=5 then 128 else 0:=by
  unfold rowI
  repeat' split
  all_goals rfl
def hitB (x:Int × Int × Int × Int) (a b:Int):Prop:=x.1=a∧x.2.1≤b∧b≤x.2.2.1
def hitR (x:Int × Int × Int × Int) (r:Int):Prop:=0≤r - x.2.2.2∧r - x.2.2.2≤x.2.2.1 - x.2.1
theorem chain_mem {a b:Int}:∀ l:List (Int × Int × Int × Int),(∃ x ∈ l,hitB x a b∧chain l a b=x.2.2.2+(b - x.2.1))∨((∀ x ∈ l,¬ hitB x a b)∧chain l a b=-1)
  | []=>.inr ⟨by simp,rfl⟩
  | x :: l=>by
    by_cases h:x.1=a∧x.2.1≤b∧b≤x.2.2.1
    · exact .inl ⟨x,by simp,h,by simp only [chain];rw [if_pos h]⟩
    · rcases chain_mem l with ⟨y,hy,h1,h2⟩ | ⟨h1,h2⟩
      · exact .inl ⟨y,by simp [hy],h1,by simp only [chain];rw [if_neg h,h2]⟩
      · exact .inr ⟨fun y hy=>by rcases List.mem_cons.1 hy with rfl | hy;exact h;exact h1 y hy,by simp only [chain];rw [if_neg h,h2]⟩
theorem echain_mem {r:Int}:∀ l:List (Int × Int × Int × Int),(∃ x ∈ l,hitR x r∧echain l r=some (x.1,x.2.1+(r - x.2.2.2)))∨((∀ x ∈ l,¬ hitR x r)∧echain l r=none)
  | []=>.inr ⟨by simp,rfl⟩
  | x :: l=>by
    by_cases h:0≤r - x.2.2.2∧r - x.2.2.2≤x.2.2.1 - x.2.1
    · exact .inl ⟨x,by simp,h,by simp only [echain];rw [if_pos h]⟩
    · rcases echain_mem l with ⟨y,hy,h1,h2⟩ | ⟨h1,h2⟩
      · exact .inl ⟨y,by simp [hy],h1,by simp only [echain];rw [if_neg h,h2]⟩
      · exact .inr ⟨fun y hy=>by rcases List.mem_cons.1 hy with rfl | hy;exact h;exact h1 y hy,by simp only [echain];rw [if_neg h,h2]⟩
theorem RT_facts:(RT.all fun x=>decide (130≤x.1∧x.1≤132∧64≤x.2.1∧x.2.1≤x.2.2.1∧x.2.2.1≤241∧913≤x.2.2.2∧x.2.2.2+(x.2.2.1 - x.2.1)<65536∧(x.2.2.2+(x.2.2.1 - x.2.1)<65377∨65439<x.2.2.2)) &&
    RT.all fun y=>decide (x=y∨((x.1 ≠ y.1∨x.2.2.1<y.2.1∨y.2.2.1<x.2.1)∧(x.2.2.2+(x.2.2.1 - x.2.1)<y.2.2.2∨y.2.2.2+(y.2.2.1 - y.2.1)<x.2.2.2))))=true:=by decide +kernel
theorem RT_of {x:Int × Int × Int × Int} (h:x ∈ RT):(130≤x.1∧x.1≤132∧64≤x.2.1∧x.2.1≤x.2.2.1∧x.2.2.1≤241∧913≤x.2.2.2∧x.2.2.2+(x.2.2.1 - x.2.1)<65536∧(x.2.2.2+(x.2.2.1 - x.2.1)<65377∨65439<x.2.2.2)) ∧
    ∀ y ∈ RT,x=y∨((x.1 ≠ y.1∨x.2.2.1<y.2.1∨y.2.2.1<x.2.1)∧(x.2.2.2+(x.2.2.1 - x.2.1)<y.2.2.2∨y.2.2.2+(y.2.2.1 - y.2.1)<x.2.2.2)):=by
  have:=List.all_eq_true.1 RT_facts x h
  rw [Bool.and_eq_true] at this
  exact ⟨of_decide_eq_true this.1,fun y hy=>of_decide_eq_true (List.all_eq_true.1 this.2 y hy)⟩
theorem two_cases (a b:Int):(∃ x ∈ RT,hitB x a b∧twoI a b=x.2.2.2+(b - x.2.1))∨((∀ x ∈ RT,¬ hitB x a b)∧twoI a b=-1):=chain_mem RT
theorem two_of {x:Int × Int × Int × Int} (hx:x ∈ RT) {a b:Int} (h:hitB x a b):twoI a b=x.2.2.2+(b - x.2.1):=by
  rcases two_cases a b with ⟨y,hy,h1,h2⟩ | ⟨h1,_⟩
  · rcases (RT_of hx).2 y hy with e | ⟨e,_⟩
    · rw [h2,e]
    · unfold hitB at h h1;omega
  · exact absurd h (h1 x hx)
theorem pair_of {x:Int × Int × Int × Int} (hx:x ∈ RT) {r:Int} (h:hitR x r):pairK r=some (x.1,x.2.1+(r - x.2.2.2)):=by
  rcases echain_mem (r:=r) RT with ⟨y,hy,h1,h2⟩ | ⟨h1,_⟩
  · rcases (RT_of hx).2 y hy with e | ⟨_,e⟩
    · unfold pairK;rw [h2,e]
    · unfold hitR at h h1;omega
  · exact absurd h (h1 x hx)
theorem two_pair {a b r:Int} (h:twoI a b=r) (h0:0≤r):pairK r=some (a,b):=by
  rcases two_cases a b with ⟨x,hx,h1,h2⟩ | ⟨_,h2⟩
  · have:=(RT_of hx).1
    unfold hitB at h1
    rw [pair_of hx (r:=r) (by unfold hitR;omega)]
    simp only [Option.some.injEq,Prod.mk.injEq]
    omega
  · omega
theorem pair_two {a b r:Int} (h:pairK r=some (a,b)):twoI a b=r∧130≤a∧a≤132∧64≤b∧b<256∧913≤r∧r<65536∧(r<65377∨65439<r):=by
  rcases echain_mem (r:=r) RT with ⟨x,hx,h1,h2⟩ | ⟨_,h2⟩
  · have hq:=(RT_of hx).1
    unfold pairK at h
    rw [h2] at h
    simp only [Option.some.injEq,Prod.mk.injEq] at h
    unfold hitR at h1
    have h3:=two_of hx (a:=a) (b:=b) (by unfold hitB;omega)
    omega
  · unfold pairK at h;rw [h2] at h;cases h
open Go.RowKit
def rightB (enc:Int):Bool:=decide (0≤enc∧enc≤8)
set_option maxHeartbeats 400000 in
theorem right_any (enc:Int) (w:World):Calls Tryz.prog 112 #[.int .i64 enc] w fun e w'=>e=.returned (.bool (rightB enc))∧w=w':=by
  go_enter Tryz.func112,Tryz.ntmps112
  go_wp2
  all_goals (go_ret;exact ⟨ret_bool (by unfold rightB;rw [Bool.eq_iff_iff];simp only [decide_eq_true_eq,Bool.false_eq_true,false_iff];omega),rfl⟩)
set_option maxHeartbeats 400000 in
theorem upper_any (enc:Int) (w:World):Calls Tryz.prog 254 #[.int .i64 enc] w fun e w'=>e=.returned (.tuple #[.string (rowS enc),.int .i64 (fromI enc)])∧w=w':=by
  by_cases h2:enc=2
  · subst h2
    go_enter Tryz.func254,Tryz.ntmps254
    go_wp2
    go_ret2
    exact ⟨by kernel_rfl,rfl⟩
  by_cases h4:enc=4
  · subst h4
    go_enter Tryz.func254,Tryz.ntmps254
    go_wp2
    go_ret2
    exact ⟨by kernel_rfl,rfl⟩
  by_cases h5:enc=5
  · subst h5
    go_enter Tryz.func254,Tryz.ntmps254
    go_wp2
    go_ret2
    exact ⟨by kernel_rfl,rfl⟩
  have b2:(enc == 2)=false:=by simp [h2]
  have b4:(enc == 4)=false:=by simp [h4]
  have b5:(enc == 5)=false:=by simp [h5]
  have HE:Hid (Ending.returned (.tuple #[.string ByteArray.empty,.int .i64 0])=.returned (.tuple #[.string (rowS enc),.int .i64 (fromI enc)])):=by
    unfold rowS fromI;rw [if_neg h2,if_neg h4,if_neg h5,if_neg h2,if_neg h4,if_neg h5];exact rfl
  clear h2 h4 h5
  go_enter Tryz.func254,Tryz.ntmps254
  go_wp2
  go_ret2
  exact ⟨HE.out,rfl⟩
def Ran (s:ByteArray) (l:List Int) (k p:Nat):Prop:=k≤l.length∧∃ f,decR s f p=l.drop k∧s.size≤p+f
theorem Ran.start {s:ByteArray} {l:List Int} (h:decR s s.size 0=l):Ran s l 0 0:=⟨Nat.zero_le _,s.size,by simpa using h,by omega⟩
theorem Ran.more {s:ByteArray} {l:List Int} {k p:Nat} (h:Ran s l k p) (hp:p<s.size):k<l.length∧((Utf8.decode s p).1:Int)=l.getD k 0∧Ran s l (k+1) (p+(Utf8.decode s p).2):=by
  obtain ⟨hk,f,hd,hf⟩:=h
  obtain ⟨f,rfl⟩:∃ n,f=n+1:=⟨f - 1,by omega⟩
  simp only [decR] at hd
  rw [if_pos hp] at hd
  have hlt:k<l.length:=by
    rcases Nat.lt_or_ge k l.length with q | q
    · exact q
    · rw [List.drop_eq_nil_of_le q] at hd;cases hd
  rw [List.drop_eq_getElem_cons hlt] at hd
  injection hd with h1 h2
  have:=decode_w s p hp
  exact ⟨hlt,by rw [h1,List.getD_eq_getElem?_getD,List.getElem?_eq_getElem hlt];rfl,hlt,f,h2,by omega⟩
theorem Ran.end_ {s:ByteArray} {l:List Int} {k p:Nat} (h:Ran s l k p) (hp:¬ p<s.size):k=l.length:=by
  obtain ⟨hk,f,hd,hf⟩:=h
  cases f with
  | zero =>
    simp only [decR] at hd
    have:=List.drop_eq_nil_iff.1 hd.symm
    omega
  | succ f =>
    simp only [decR] at hd
    rw [if_neg hp] at hd
    have:=List.drop_eq_nil_iff.1 hd.symm
    omega
def AtRel (s:ByteArray) (l:List Int) (n0:Int) (W:World) (n:Value) (wr:World):Prop:=∃ k p:Nat,Ran s l k p∧n=.int .i64 (n0 - k)∧(k:Int)≤n0∧wr=W.iter s p
set_option maxHeartbeats 800000 in
theorem at_any (s:ByteArray) (l:List Int) (n:Int) (w:World) (hd:decR s s.size 0=l) (hn:0≤n) (hn2:n≤1000000) :
    Calls Tryz.prog 319 #[.string s,.int .i64 n] w fun e w'=>e=.returned (.int .i32 (l.getD n.toNat (-1)))∧Fresh w w':=by
  have HR:Hid (Ran s l 0 0):=Ran.start hd
  clear hd
  go_enter Tryz.func319,Tryz.ntmps319
  go_wp2
  go_loopw [1] (fun m wr=>AtRel s l n w m wr) (fun _ wr=>s.size - wr.iterPos w.heap.size)
  case atStart=>exact ⟨0,0,HR.out,by simp,by omega,rfl⟩
  case round =>
    obtain ⟨k,p,hran,rfl,hkn,rfl⟩:=hrel
    by_cases hp:p<s.size
    · obtain ⟨h1,h2,h3⟩:=hran.more hp
      have hw:=decode_w s p hp
      have hnx:∀ ty,(Instr.next (.pointer (some ⟨w.heap.size,0,none⟩)) true ty).run Tryz.prog (w.iter s p)=.ok (.tuple #[.bool true,.int .i64 p,.int .i32 (l.getD k 0)]) (w.iter s (p+(Utf8.decode s p).2)):=fun ty=>by
        rw [← h2];exact run_next_any w s p ty hp
      have H3:=Lib.hid h3
      clear h2 h3 hran
      generalize (Utf8.decode s p).2=d at hw hnx H3
      generalize hq:l.getD k 0=q at hnx
      have HQ:=Lib.hid hq
      clear hq
      by_cases hk:n - k=0
      · have hb:(n - (k:Int) == 0)=true:=by simp [hk]
        have HK:=Lib.hid hk
        clear hk
        go_wp2
        go_ret
        exact ⟨ret_int (by
          have:=HK.out
          rw [show n.toNat=k by omega,← HQ.out,List.getD_eq_getElem?_getD,List.getD_eq_getElem?_getD,List.getElem?_eq_getElem h1];rfl),(Fresh.refl _).alloc _⟩
      · have hb:(n - (k:Int) == 0)=false:=by simp [hk]
        have HK:=Lib.hid hk
        clear hk
        go_wp2
        refine ⟨⟨k+1,p+d,H3.out,by rw [show n - ((k+1:Nat):Int)=n - k - 1 by omega],by have:=HK.out;omega,rfl⟩,by simp;omega⟩
    · have hnx:∀ ty,(Instr.next (.pointer (some ⟨w.heap.size,0,none⟩)) true ty).run Tryz.prog (w.iter s p)=.ok (.tuple #[.bool false]) (w.iter s p):=fun ty=>run_next_end w s p ty hp
      have HE:=Lib.hid (hran.end_ hp)
      clear hran
      go_wp2
      go_ret
      exact ⟨ret_int (by have:=HE.out;rw [List.getD_eq_getElem?_getD,List.getElem?_eq_none (by omega)];rfl),(Fresh.refl _).alloc _⟩
def FindRel (s:ByteArray) (l:List Int) (r:Int) (W:World) (n:Value) (wr:World):Prop:=∃ k p:Nat,Ran s l k p∧n=.int .i64 k∧(∀ j:Nat,j<k→l.getD j 0 ≠ r)∧wr=W.iter s p
def FindPost (l:List Int) (r:Int) (w:World) (e:Ending) (w':World):Prop:=∃ k,e=.returned (.int .i64 k)∧FirstAt l r k∧Fresh w w'
set_option maxHeartbeats 800000 in
theorem find_any (s:ByteArray) (l:List Int) (r:Int) (w:World) (hd:decR s s.size 0=l) (hl:l.length≤1000000) :
    Calls Tryz.prog 255 #[.string s,.int .i32 r] w (FindPost l r w):=by
  have HR:Hid (Ran s l 0 0):=Ran.start hd
  clear hd
  go_enter Tryz.func255,Tryz.ntmps255
  go_wp2
  go_loopw [5] (fun m wr=>FindRel s l r w m wr) (fun _ wr=>s.size - wr.iterPos w.heap.size)
  case atStart=>exact ⟨0,0,HR.out,rfl,fun j hj=>absurd hj (Nat.not_lt_zero _),rfl⟩
  case round =>
    obtain ⟨k,p,hran,rfl,he,rfl⟩:=hrel
    have HE:=Lib.hid he
    clear he
    by_cases hp:p<s.size
    · obtain ⟨h1,h2,h3⟩:=hran.more hp
      have hw:=decode_w s p hp
      have hnx:∀ ty,(Instr.next (.pointer (some ⟨w.heap.size,0,none⟩)) true ty).run Tryz.prog (w.iter s p)=.ok (.tuple #[.bool true,.int .i64 p,.int .i32 (l.getD k 0)]) (w.iter s (p+(Utf8.decode s p).2)):=fun ty=>by
        rw [← h2];exact run_next_any w s p ty hp
      have H3:=Lib.hid h3
      clear h2 h3 hran
      generalize (Utf8.decode s p).2=d at hw hnx H3
      generalize hq:l.getD k 0=q at hnx
      have HQ:=Lib.hid hq
      clear hq
      by_cases hk:q=r
      · have hb:(q == r)=true:=by simp [hk]
        have HK:=Lib.hid hk
        clear hk
        go_wp2
        go_ret
        exact ⟨k,rfl,.inl ⟨by omega,by omega,by rw [Int.toNat_natCast,HQ.out,HK.out],fun j hj=>HE.out j (by omega)⟩,(Fresh.refl _).alloc _⟩
      · have hb:(q == r)=false:=by simp [hk]
        have HK:=Lib.hid hk
        clear hk
        go_wp2
        refine ⟨⟨k+1,p+d,H3.out,by rw [Int.natCast_add];rfl,fun j hj=>?_,rfl⟩,by simp;omega⟩
        by_cases hjk:j=k
        · rw [hjk,HQ.out];exact HK.out
        · exact HE.out j (by omega)
    · have hnx:∀ ty,(Instr.next (.pointer (some ⟨w.heap.size,0,none⟩)) true ty).run Tryz.prog (w.iter s p)=.ok (.tuple #[.bool false]) (w.iter s p):=fun ty=>run_next_end w s p ty hp
      have HN:=Lib.hid (hran.end_ hp)
      clear hran
      go_wp2
      go_ret
      exact ⟨-1,rfl,.inr ⟨rfl,fun j hj=>HE.out j (by have:=HN.out;omega)⟩,(Fresh.refl _).alloc _⟩
open Go.RowKit
def runCells:List Value:=RT.flatMap fun x=>[.int .u8 x.1,.int .u8 x.2.1,.int .u8 x.2.2.1,.int .i32 x.2.2.2]
theorem flat4 {α β:Type} (f:α→List β) (h4:∀ x,(f x).length=4):∀ (l:List α) (k:Nat) (hk:k<l.length) (j:Nat),j<4→(l.flatMap f)[k * 4+j]?=(f (l[k]))[j]?
  | [],k,hk,_,_=>by simp at hk
  | x :: l,0,_,j,hj=>by simp [List.getElem?_append_left (show j<(f x).length by rw [h4];exact hj)]
  | x :: l,k+1,hk,j,hj=>by
    have:=flat4 f h4 l k (by simpa using hk) j hj
    rw [List.flatMap_cons,List.getElem?_append_right (by rw [h4];omega),h4,show (k+1) * 4+j - 4=k * 4+j by omega,this]
    rfl
theorem run_cells {k:Nat} (h:k<RT.length):runCells[k * 4]?=some (.int .u8 (RT[k]).1)∧runCells[k * 4+1]?=some (.int .u8 (RT[k]).2.1)∧runCells[k * 4+2]?=some (.int .u8 (RT[k]).2.2.1)∧runCells[k * 4+3]?=some (.int .i32 (RT[k]).2.2.2) :=
  ⟨flat4 _ (fun _=>rfl) RT k h 0 (by omega),flat4 _ (fun _=>rfl) RT k h 1 (by omega),flat4 _ (fun _=>rfl) RT k h 2 (by omega),flat4 _ (fun _=>rfl) RT k h 3 (by omega)⟩
set_option maxHeartbeats 800000 in
theorem runs_any (w:World) :
    Calls Tryz.prog 318 #[] w fun e w'=>e=.returned (.slice (some ⟨w.heap.size,0,none⟩) 17 17)∧Fresh w w'∧Blk w' w.heap.size 404 runCells.toArray:=by
  go_enter Tryz.func318,Tryz.ntmps318
  go_wp2
  go_ret
  refine ⟨rfl,(Fresh.refl _).alloc _,?_⟩
  exact heap_alloc_new w _
def kanaP (c d:Int) (two:Bool):Int × Int :=
  if c<128 then (c,1) else if 161≤c∧c≤223 then (65377+(c - 161),1) else if two=true∧0≤twoI c d then (twoI c d,2) else (-1,1)
def PieceIs (p:Int × Int) (w:World) (e:Ending) (w':World):Prop:=e=.returned (.agg #[.int .i32 p.1,.int .i64 p.2])∧Fresh w w'
theorem PieceIs.mk {p:Int × Int} {a b:Int} {w w':World} (h:p=(a,b)) (hf:Fresh w w'):PieceIs p w (.returned (.agg #[.int .i32 a,.int .i64 b])) w':=⟨by rw [h],hf⟩
def KanaRel (c d:Int) (w:World) (i:Value) (wr:World):Prop:=∃ k:Nat,i=.int .i64 k∧k≤17∧(∀ x ∈ RT.take k,¬ hitB x c d)∧Fresh w wr
theorem miss_more {k:Nat} (hk:k<RT.length) {p:Int × Int × Int × Int→Prop} (h:∀ x ∈ RT.take k,¬ p x) (h2:¬ p RT[k]):∀ x ∈ RT.take (k+1),¬ p x:=by
  intro x hx
  rw [List.take_succ_eq_append_getElem hk,List.mem_append,List.mem_singleton] at hx
  rcases hx with hx | rfl
  · exact h x hx
  · exact h2
theorem two_none {c d:Int} (h:∀ x ∈ RT,¬ hitB x c d):twoI c d=-1:=by
  rcases two_cases c d with ⟨x,hx,h1,_⟩ | ⟨_,h2⟩
  · exact absurd h1 (h x hx)
  · exact h2
open Go.RowKit
set_option maxHeartbeats 1600000 in
theorem kana_two (s:ByteArray) (c d:Int) (h0:0<s.size) (h1:1<s.size) (hc:((s[0]'h0).toNat:Int)=c) (hd:((s[1]'h1).toNat:Int)=d) (hs:s.size≤140737488351232)
    (hx:128≤c) (hy:c<256) (hh:c<161∨223<c) (d0:0≤d) (d1:d<256) (w:World) :
    Calls Tryz.prog 248 #[.string s] w (PieceIs (kanaP c d true) w):=by
  have HK:Hid (kanaP c d true=if 0≤twoI c d then (twoI c d,2) else (-1,1)):=by
    unfold kanaP
    rw [if_neg (by omega),if_neg (by omega)]
    simp [Hid]
  go_enter Tryz.func248,Tryz.ntmps248
  rcases hh with hh | hh
  all_goals
    go_wp2_with fail
    refine (runs_any _).mono ?_
    rintro e w1 ⟨rfl,hf1,hblk⟩
    have hblk':Blk w1 (w.heap.size+1) 404 runCells.toArray:=by simpa using hblk
    clear hblk
    have hbp:=(Blk.new w 119 #[.int .i32 0,.int .i64 0]).keep hf1
    have hf0:Fresh w w1:=((Fresh.refl w).alloc _).trans hf1
    go_wp2
    go_loopw [33] (fun i wr=>KanaRel c d w1 i wr) (fun i _=>17 - (intOf i).toNat)
    case atStart=>exact ⟨0,rfl,by omega,fun x hx=>by simp at hx,Fresh.refl _⟩
    case round =>
      obtain ⟨k,rfl,hk,hm,hf⟩:=hrel
      have HM:=Lib.hid hm
      clear hm
      have bp:=hbp.keep hf
      have p0:wr.cell? ⟨w.heap.size,0,none⟩=some (.int .i32 0):=bp.cell 0
      have p1:wr.cell? ⟨w.heap.size,1,none⟩=some (.int .i64 0):=bp.cell 1
      have f0:wr.frozen? ⟨w.heap.size,0,none⟩=false:=bp.frozen 0
      have f1:wr.frozen? ⟨w.heap.size,1,none⟩=false:=bp.frozen 1
      have hne:w.heap.size<wr.heap.size:=bp.lt
      by_cases hlt:k<17
      · have hlt':k<RT.length:=hlt
        obtain ⟨t0,t1,t2,t3⟩:=run_cells hlt'
        have hb2:=hblk'.keep hf
        have HX:=Lib.hid (RT_of (List.getElem_mem hlt')).1
        have HMM:=Lib.hid (fun h=>miss_more hlt' (p:=fun x=>hitB x c d) HM.out h)
        have HT:Hid (hitB RT[k] c d→twoI c d=(RT[k]).2.2.2+(d - (RT[k]).2.1)):=fun h=>two_of (List.getElem_mem hlt') h
        generalize RT[k]=x at t0 t1 t2 t3 HX HMM HT
        obtain ⟨x0,x1,x2,x3⟩:=x
        have c0:wr.cell? ⟨w.heap.size+1,k * 4,none⟩=some (.int .u8 x0):=by rw [hb2.cell];simpa using t0
        have c1:wr.cell? ⟨w.heap.size+1,k * 4+1,none⟩=some (.int .u8 x1):=by rw [hb2.cell];simpa using t1
        have c2:wr.cell? ⟨w.heap.size+1,k * 4+2,none⟩=some (.int .u8 x2):=by rw [hb2.cell];simpa using t2
        have c3:wr.cell? ⟨w.heap.size+1,k * 4+3,none⟩=some (.int .i32 x3):=by rw [hb2.cell];simpa using t3
        clear t0 t1 t2 t3 bp
        generalize hq:runCells.toArray=rc at hb2
        clear hb2 hq
        have hx0:=HX.out
        simp only at hx0
        obtain ⟨a1,a2,a3,a4,a5,a6,a7,a8⟩:=hx0
        by_cases e1:x0=c
        · have b1:(x0 == c)=true:=by simp [e1]
          have E1:=Lib.hid e1
          clear e1
          by_cases e2:x1≤d
          · by_cases e3:d≤x2
            · have HZ:Hid (kanaP c d true=(x3+(d - x1),2)):=by
                have:=HT.out ⟨E1.out,e2,e3⟩
                simp only at this
                rw [HK.out,this,if_pos (by omega)]
                exact rfl
              go_wp2
              go_quiet (fail)
              go_wp2
              have q1:IntKind.u8.wrap (d - x1)=d - x1:=by rw [IntKind.wrap_u8];omega
              have q2:IntKind.i32.wrap (d - x1)=d - x1:=by rw [IntKind.wrap_i32];omega
              have q3:IntKind.i32.wrap (x3+(d - x1))=x3+(d - x1):=by rw [IntKind.wrap_i32];omega
              go_region
              clear q1 q2 q3
              go_wp2
              have d0:(wr.alloc (.cells #[.int .u8 x0,.int .u8 x1,.int .u8 x2,.int .i32 x3] 404)).cell? ⟨w.heap.size,0,none⟩=some (.int .i32 0):=(World.cell?_alloc_lt wr _ _ hne).trans p0
              have d1:(wr.alloc (.cells #[.int .u8 x0,.int .u8 x1,.int .u8 x2,.int .i32 x3] 404)).cell? ⟨w.heap.size,1,none⟩=some (.int .i64 0):=(World.cell?_alloc_lt wr _ _ hne).trans p1
              exact bodyPost_ret (v:=.agg #[.int .i32 (x3+(d - x1)),.int .i64 2]) (by simp [results,Tryz.results248,go_sem,d0,d1]) rfl (PieceIs.mk HZ.out ((((hf0.trans (hf.alloc _)).drewN _).setCell (Nat.le_refl _) _).setCell (Nat.le_refl _) _))
            · have g3:decide (d≤x2)=false:=decide_eq_false e3
              go_wp2
              go_quiet (fail)
              go_wp2
              exact ⟨⟨k+1,by rw [Int.natCast_add];rfl,by omega,HMM.out (fun h=>by have h3:=h.2.2;simp only at h3;omega),(hf.alloc _).drewN _⟩,by simp [intOf];omega⟩
          · have g2:decide (x1≤d)=false:=decide_eq_false e2
            go_wp2
            go_quiet (fail)
            go_wp2
            exact ⟨⟨k+1,by rw [Int.natCast_add];rfl,by omega,HMM.out (fun h=>by have h3:=h.2.1;simp only at h3;omega),(hf.alloc _).drewN _⟩,by simp [intOf];omega⟩
        · have b1:(x0 == c)=false:=by simp [e1]
          have E1:=Lib.hid e1
          clear e1
          go_wp2
          go_quiet (fail)
          go_wp2
          exact ⟨⟨k+1,by rw [Int.natCast_add];rfl,by omega,HMM.out (fun h=>E1.out h.1),(hf.alloc _).drewN _⟩,by simp [intOf];omega⟩
      · have HZ:Hid (kanaP c d true=(-1,1)):=by
          have:twoI c d=-1:=two_none (fun x hx=>HM.out x (by rw [List.take_of_length_le (by show 17≤k;omega)];exact hx))
          rw [HK.out,this]
          exact rfl
        go_wp2
        exact bodyPost_ret (v:=.agg #[.int .i32 (-1),.int .i64 1]) (by simp [results,Tryz.results248,go_sem,p0,p1]) rfl (PieceIs.mk HZ.out (((hf0.trans hf).setCell (Nat.le_refl _) _).setCell (Nat.le_refl _) _))
set_option maxHeartbeats 800000 in
theorem kana_one (s:ByteArray) (c:Int) (h0:0<s.size) (hc:((s[0]'h0).toNat:Int)=c) (hs:s.size≤140737488351232)
    (hx:0≤c) (hy:c<256) (hh:s.size=1∨c<128∨(161≤c∧c≤223)) (d:Int) (two:Bool) (ht:two=decide (1<s.size)) (w:World) :
    Calls Tryz.prog 248 #[.string s] w (PieceIs (kanaP c d two) w):=by
  by_cases a1:c<128
  · have HZ:Hid (kanaP c d two=(c,1)):=by unfold kanaP;rw [if_pos a1];exact rfl
    clear hh ht
    go_enter Tryz.func248,Tryz.ntmps248
    go_wp2
    exact bodyPost_ret (v:=.agg #[.int .i32 c,.int .i64 1]) (by simp [results,Tryz.results248,go_sem]) rfl (PieceIs.mk HZ.out ((Fresh.refl _).alloc _))
  by_cases a2:161≤c∧c≤223
  · have HZ:Hid (kanaP c d two=(65377+(c - 161),1)):=by unfold kanaP;rw [if_neg a1,if_pos a2];exact rfl
    obtain ⟨a2,a3⟩:=a2
    clear hh ht
    go_enter Tryz.func248,Tryz.ntmps248
    go_wp2
    exact bodyPost_ret (v:=.agg #[.int .i32 (65377+(c - 161)),.int .i64 1]) (by simp [results,Tryz.results248,go_sem]) rfl (PieceIs.mk HZ.out ((Fresh.refl _).alloc _))
  · have h1:s.size=1:=by omega
    have HZ:Hid (kanaP c d two=(-1,1)):=by unfold kanaP;rw [if_neg a1,if_neg a2,ht,h1,if_neg (by simp)];exact rfl
    have h2:s.size<2:=by omega
    have h3:c<161∨223<c:=by omega
    clear hh ht h1 a2
    rcases h3 with h3 | h3
    · go_enter Tryz.func248,Tryz.ntmps248
      go_wp2
      exact bodyPost_ret (v:=.agg #[.int .i32 (-1),.int .i64 1]) (by simp [results,Tryz.results248,go_sem]) rfl (PieceIs.mk HZ.out ((Fresh.refl _).alloc _))
    · go_enter Tryz.func248,Tryz.ntmps248
      go_wp2
      exact bodyPost_ret (v:=.agg #[.int .i32 (-1),.int .i64 1]) (by simp [results,Tryz.results248,go_sem]) rfl (PieceIs.mk HZ.out ((Fresh.refl _).alloc _))
theorem kana_any (s:ByteArray) (h0:0<s.size) (hs:s.size≤140737488351232) (w:World) :
    Calls Tryz.prog 248 #[.string s] w (PieceIs (kanaP (B s 0) (B s 1) (decide (1<s.size))) w):=by
  have b0:=B_range s 0
  have b1:=B_range s 1
  by_cases h:s.size=1∨B s 0<128∨(161≤B s 0∧B s 0≤223)
  · exact kana_one s _ h0 (B_at s 0 h0) hs b0.1 b0.2 h _ _ rfl w
  · have h1:1<s.size:=by omega
    rw [decide_eq_true h1]
    exact kana_two s _ _ h0 h1 (B_at s 0 h0) (B_at s 1 h1) hs (by omega) b0.2 (by omega) b1.1 b1.2 w
open Go.RowKit
def BytesIs (o:Option (List Int)) (w:World) (e:Ending) (w':World):Prop :=
  e=.returned (.tuple #[.string (match o with | some l=>strOfNums l | none=>ByteArray.empty),.bool o.isSome])∧Fresh w w'
theorem BytesIs.yes {o:Option (List Int)} {l:List Int} {w w':World} (h:o=some l) (hf:Fresh w w'):BytesIs o w (.returned (.tuple #[.string (strOfNums l),.bool true])) w':=⟨by rw [h];rfl,hf⟩
theorem BytesIs.no {o:Option (List Int)} {w w':World} (h:o=none) (hf:Fresh w w'):BytesIs o w (.returned (.tuple #[.string ByteArray.empty,.bool false])) w':=⟨by rw [h];rfl,hf⟩
def encK (r:Int):Option (List Int) :=
  if r<128 then some [r] else if 65377≤r∧r≤65439 then some [161+r - 65377] else (pairK r).map fun x=>[x.1,x.2]
def FromRel (r:Int) (w:World) (i:Value) (wr:World):Prop:=∃ k:Nat,i=.int .i64 k∧k≤17∧(∀ x ∈ RT.take k,¬ hitR x r)∧Fresh w wr
theorem miss_more2 {k:Nat} (hk:k<RT.length) {p:Int × Int × Int × Int→Prop} (h:∀ x ∈ RT.take k,¬ p x) (h2:¬ p RT[k]):∀ x ∈ RT.take (k+1),¬ p x:=by
  intro x hx
  rw [List.take_succ_eq_append_getElem hk,List.mem_append,List.mem_singleton] at hx
  rcases hx with hx | rfl
  · exact h x hx
  · exact h2
theorem pair_none {r:Int} (h:∀ x ∈ RT,¬ hitR x r):pairK r=none:=by
  rcases echain_mem (r:=r) RT with ⟨x,hx,h1,_⟩ | ⟨_,h2⟩
  · exact absurd h1 (h x hx)
  · exact h2
set_option maxHeartbeats 1600000 in
theorem fromKana_any (r:Int) (h0:0≤r) (h1:r<1114112) (w:World) :
    Calls Tryz.prog 253 #[.int .i32 r] w (BytesIs (encK r) w):=by
  have k1:=conv1
  have k2:∀ (a b:Int) (X:Obj) (W:World),(convert 131 9 (.slice (some ⟨W.heap.size+1,0,none⟩) 2 2)).run Tryz.prog ((W.alloc X).alloc (.cells #[.int .u8 a,.int .u8 b] 5))=.ok (.string (strOfNums [a,b])) ((W.alloc X).alloc (.cells #[.int .u8 a,.int .u8 b] 5)):=fun a b X W=>by
    have:=conv2 a b (W.alloc X)
    simpa using this
  by_cases a1:r<128
  · have HZ:Hid (encK r=some [r]):=by unfold encK;rw [if_pos a1];exact rfl
    go_enter Tryz.func253,Tryz.ntmps253
    go_wp2
    go_ret2
    exact BytesIs.yes HZ.out ((Fresh.refl _).alloc _)
  by_cases a2:65377≤r∧r≤65439
  · have HZ:Hid (encK r=some [161+r - 65377]):=by unfold encK;rw [if_neg a1,if_pos a2];exact rfl
    obtain ⟨a2,a3⟩:=a2
    go_enter Tryz.func253,Tryz.ntmps253
    go_wp2
    go_ret2
    exact BytesIs.yes HZ.out ((Fresh.refl _).alloc _)
  have HK:Hid (encK r=(pairK r).map fun x=>[x.1,x.2]):=by unfold encK;rw [if_neg a1,if_neg a2];exact rfl
  have a3:r<65377∨65439<r:=by omega
  clear a2
  go_enter Tryz.func253,Tryz.ntmps253
  rcases a3 with a3 | a3
  all_goals
    go_wp2_with fail
    refine (runs_any _).mono ?_
    rintro e w1 ⟨rfl,hf1,hblk⟩
    go_wp2
    go_loopw [29] (fun i wr=>FromRel r w1 i wr) (fun i _=>17 - (intOf i).toNat)
    case atStart=>exact ⟨0,rfl,by omega,fun x hx=>by simp at hx,Fresh.refl _⟩
    case round =>
      obtain ⟨k,rfl,hk,hm,hf⟩:=hrel
      have HM:=Lib.hid hm
      clear hm
      by_cases hlt:k<17
      · have hlt':k<RT.length:=hlt
        obtain ⟨t0,t1,t2,t3⟩:=run_cells hlt'
        have hb2:=hblk.keep hf
        have HX:=Lib.hid (RT_of (List.getElem_mem hlt')).1
        have HMM:=Lib.hid (fun h=>miss_more2 hlt' (p:=fun x=>hitR x r) HM.out h)
        have HT:Hid (hitR RT[k] r→pairK r=some ((RT[k]).1,(RT[k]).2.1+(r - (RT[k]).2.2.2))):=fun h=>pair_of (List.getElem_mem hlt') h
        generalize RT[k]=x at t0 t1 t2 t3 HX HMM HT
        obtain ⟨x0,x1,x2,x3⟩:=x
        have c0:wr.cell? ⟨w.heap.size,k * 4,none⟩=some (.int .u8 x0):=by rw [hb2.cell];simpa using t0
        have c1:wr.cell? ⟨w.heap.size,k * 4+1,none⟩=some (.int .u8 x1):=by rw [hb2.cell];simpa using t1
        have c2:wr.cell? ⟨w.heap.size,k * 4+2,none⟩=some (.int .u8 x2):=by rw [hb2.cell];simpa using t2
        have c3:wr.cell? ⟨w.heap.size,k * 4+3,none⟩=some (.int .i32 x3):=by rw [hb2.cell];simpa using t3
        generalize hq:runCells.toArray=rc at hb2
        clear t0 t1 t2 t3 hb2 hq
        have hx0:=HX.out
        simp only at hx0
        obtain ⟨y1,y2,y3,y4,y5,y6,y7,y8⟩:=hx0
        by_cases e1:0≤r - x3
        · by_cases e2:r - x3≤x2 - x1
          · have HZ:Hid (encK r=some [x0,x1+(r - x3)]):=by
              have:=HT.out ⟨e1,e2⟩
              rw [HK.out,this]
              exact rfl
            go_wp2
            go_ret2
            exact BytesIs.yes HZ.out (((hf1.trans hf).alloc _).alloc _)
          · go_wp2
            exact ⟨⟨k+1,by rw [Int.natCast_add];rfl,by omega,HMM.out (fun h=>by have h3:=h.2;simp only at h3;omega),hf.alloc _⟩,by simp [intOf];omega⟩
        · go_wp2
          exact ⟨⟨k+1,by rw [Int.natCast_add];rfl,by omega,HMM.out (fun h=>by have h3:=h.1;simp only at h3;omega),hf.alloc _⟩,by simp [intOf];omega⟩
      · have HZ:Hid (encK r=none):=by
          have:pairK r=none:=pair_none (fun x hx=>HM.out x (by rw [List.take_of_length_le (by show 17≤k;omega)];exact hx))
          rw [HK.out,this]
          exact rfl
        go_wp2
        go_ret2
        exact BytesIs.no HZ.out (hf1.trans hf)
end Go.Proofs.YtpmlggjhfiljmaaGreatDoor
