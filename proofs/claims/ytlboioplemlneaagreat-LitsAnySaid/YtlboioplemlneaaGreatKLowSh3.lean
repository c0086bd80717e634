/- (no words more) -/
import Derived.Test.YtlboioplemlneaaGreatKLowSh2
